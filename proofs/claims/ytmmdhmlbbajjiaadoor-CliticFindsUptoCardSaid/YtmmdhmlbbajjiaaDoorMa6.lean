/-
  Part 6 of the texts behind the walks of this claim: an own layer over the kit's wp, plain laws, and walks. No conditions.
-/
import Derived.Test.YtmmdhmlbbajjiaaDoorMa5
set_option linter.unusedVariables false
set_option linter.unusedSimpArgs false
set_option linter.deprecated false
namespace Go.GH
open Go Go.Proofs
variable {E : Env}
theorem q14Strings (x y : List ByteArray) (hx : x.length ≤ 1048576) : GCall Tryd.prog E 53 [DStrs x, DStrs y] [] (fun d H => d = .v (.bool (decide (x = y))) ∧ H = []) := by
  refine GCall.body (C := ⟨Tryd.prog, E, true⟩) Tryd.func53 rfl (fun _ => rfl) (by kernel_rfl) rfl ?_
  refine SCode.seqR ?_
  refine SOps.assign rfl ?_
  refine SOps.nil ?_
  refine SCode.seq ?_
  refine SCode.seqR ?_
  refine SOps.move rfl ?_
  refine SOps.lenM rfl sliceB_35_9_1 ?_
  refine SOps.move rfl ?_
  refine SOps.lenM rfl sliceB_35_9_1 ?_
  refine SOps.bin rfl rfl rfl ?_
  refine SOps.nil ?_
  refine SCode.cond rfl (fun hc1 => ?_) (fun hc1 => ?_)
  · try simp only [nmL] at hc1
    refine SCode.seqR ?_
    refine SOps.assign rfl ?_
    refine SOps.nil ?_
    refine SCode.ret ?_
    exact ⟨_, Res.one (.tmp rfl), congrArg (fun b => DV.v (.bool b)) (Eq.symm (Bool.eq_false_iff.2 (fun h => by have h := congrArg List.length (of_decide_eq_true h); omega))), rfl⟩
  · try simp only [nmL] at hc1
    refine SCode.skip ?_
    show SCode _ _ _ _
    refine SCode.seq ?_
    refine SCode.seqR ?_
    refine SOps.assign rfl ?_
    refine SOps.nil ?_
    refine SCode.block ?_
    have hxy : x.length = y.length := by first | omega | simp_all
    refine SCode.loop1 (fun (i : Nat) => (⟨26, [(0, DStrs x), (1, DStrs y), (5, .v (.int .i64 (i : Int)))], []⟩ : St)) (fun (i : Nat) => i ≤ x.length ∧ ∀ (j : Nat) (h1 : j < i) (h2 : j < x.length) (h3 : j < y.length), x[j] = y[j]) (fun (i : Nat) => x.length - i) (0) (by exact ⟨Nat.zero_le _, fun j h1 => by omega⟩) (St.Le.of ⟨(by first | rfl | (show some _ = some _; simp)), (by first | rfl | (show some _ = some _; simp)), (by first | rfl | (show some _ = some _; simp)), trivial⟩ rfl (by first | rfl | (simp))) ?_
    rintro i ⟨hi, hf⟩
    refine SCode.seq ?_
    refine SCode.seqR ?_
    refine SOps.move rfl ?_
    refine SOps.move rfl ?_
    refine SOps.lenM rfl sliceB_35_9_1 ?_
    refine SOps.bin rfl rfl rfl ?_
    refine SOps.nil ?_
    refine SCode.cond rfl (fun hc2 => ?_) (fun hc2 => ?_)
    · try simp only [nmL] at hc2
      refine SCode.skip ?_
      show SCode _ _ _ _
      refine SCode.seq ?_
      refine SCode.block ?_
      refine SCode.seq ?_
      apply SCode.drawAuto mixed_ [17, 18, 19, 20, 21, 22, 23, 24, 25] [[.inr 0], [.inr 5], [.inl 0, .inl 1], [.inl 2], [.inr 1], [.inr 5], [.inl 4, .inl 5], [.inl 6], [.inl 3, .inl 7]]
      · kernel_rfl
      · kernel_rfl
      · apply DOk.cons 17 
        · rfl
        · exact (NeedIs.inr _ rfl NeedIs.nil)
        · intro rest
          refine SOps.move rfl ?_
          exact SOps.nil rfl
        apply DOk.cons 18 
        · rfl
        · exact (NeedIs.inr _ rfl NeedIs.nil)
        · intro rest
          refine SOps.move rfl ?_
          exact SOps.nil rfl
        apply DOk.cons 19 
        · rfl
        · exact (NeedIs.inl 1 _ _ rfl rfl (NeedIs.inl 0 _ _ rfl rfl NeedIs.nil))
        · intro rest
          refine SOps.indexM (i) rfl rfl sliceB_35_9_1 (by first | omega | (simp only [lenB]; omega)) (by first | omega | (simp only [lenB]; omega)) ?_
          exact SOps.nil rfl
        apply DOk.cons 20 
        · rfl
        · exact (NeedIs.inl 0 _ _ rfl rfl NeedIs.nil)
        · intro rest
          refine SOps.loadPin rfl flatB_9 ?_
          exact SOps.nil rfl
        apply DOk.cons 21 
        · rfl
        · exact (NeedIs.inr _ rfl NeedIs.nil)
        · intro rest
          refine SOps.move rfl ?_
          exact SOps.nil rfl
        apply DOk.cons 22 
        · rfl
        · exact (NeedIs.inr _ rfl NeedIs.nil)
        · intro rest
          refine SOps.move rfl ?_
          exact SOps.nil rfl
        apply DOk.cons 23 
        · rfl
        · exact (NeedIs.inl 1 _ _ rfl rfl (NeedIs.inl 0 _ _ rfl rfl NeedIs.nil))
        · intro rest
          refine SOps.indexM (i) rfl rfl sliceB_35_9_1 (by first | omega | (simp only [lenB]; omega)) (by first | omega | (simp only [lenB]; omega)) ?_
          exact SOps.nil rfl
        apply DOk.cons 24 
        · rfl
        · exact (NeedIs.inl 0 _ _ rfl rfl NeedIs.nil)
        · intro rest
          refine SOps.loadPin rfl flatB_9 ?_
          exact SOps.nil rfl
        apply DOk.cons 25 
        · rfl
        · exact (NeedIs.inl 4 _ _ rfl rfl (NeedIs.inl 0 _ _ rfl rfl NeedIs.nil))
        · intro rest
          refine SOps.bin rfl rfl rfl ?_
          exact SOps.nil rfl
        exact DOk.nil
      · rfl
      · show SCode _ _ _ _
        refine SCode.cond rfl (fun hc3 => ?_) (fun hc3 => ?_)
        · try simp only [nmL] at hc3
          refine SCode.seqR ?_
          refine SOps.assign rfl ?_
          refine SOps.nil ?_
          refine SCode.ret ?_
          exact ⟨_, Res.one (.tmp rfl), congrArg (fun b => DV.v (.bool b)) (Eq.symm (Bool.eq_false_iff.2 (fun h => by have h := of_decide_eq_true h; subst h; simp_all))), rfl⟩
        · try simp only [nmL] at hc3
          refine SCode.skip ?_
          show SCode _ _ _ _
          refine SCode.region ?_
          refine SOps.move rfl ?_
          refine SOps.addI rfl rfl (by first | omega | (simp only [lenB]; omega)) (by first | omega | (simp only [lenB]; omega)) ?_
          refine SOps.assign rfl ?_
          refine SOps.nil ?_
          exact ⟨i + 1, by exact ⟨by omega, fun j h1 h2 h3 => by by_cases hj : j = i; subst hj; simp_all; exact hf j (by omega) h2 h3⟩, by omega, (St.Le.of ⟨(by first | rfl | (show some _ = some _; simp)), (by first | rfl | (show some _ = some _; simp)), (by first | rfl | (show some _ = some _; simp)), trivial⟩ rfl (by first | rfl | (simp)))⟩
    · try simp only [nmL] at hc2
      refine SCode.exit ?_
      show SCode _ _ _ _
      refine SCode.seqR ?_
      refine SOps.assign rfl ?_
      refine SOps.nil ?_
      refine SCode.ret ?_
      exact ⟨_, Res.one (.tmp rfl), congrArg (fun b => DV.v (.bool b)) (Eq.symm (decide_eq_true (List.ext_getElem hxy (fun j h2 h3 => hf j (by omega) h2 h3)))), rfl⟩
theorem q14Same (x y : List Sg) (hx : x.length ≤ 1048576) (hz : ∀ s ∈ x, s.cls.length ≤ 1048576) : GCall Tryd.prog E 21 [DSgs x, DSgs y] [] (fun d H => d = .v (.bool (decide (x = y))) ∧ H = []) := by
  refine GCall.body (C := ⟨Tryd.prog, E, true⟩) Tryd.func21 rfl (fun _ => rfl) (by kernel_rfl) rfl ?_
  refine SCode.seqR ?_
  refine SOps.assign rfl ?_
  refine SOps.nil ?_
  refine SCode.seq ?_
  refine SCode.seqR ?_
  refine SOps.move rfl ?_
  refine SOps.lenM rfl sliceB_36_50_2 ?_
  refine SOps.move rfl ?_
  refine SOps.lenM rfl sliceB_36_50_2 ?_
  refine SOps.bin rfl rfl rfl ?_
  refine SOps.nil ?_
  refine SCode.cond rfl (fun hc1 => ?_) (fun hc1 => ?_)
  · try simp only [nmL] at hc1
    refine SCode.seqR ?_
    refine SOps.assign rfl ?_
    refine SOps.nil ?_
    refine SCode.ret ?_
    exact ⟨_, Res.one (.tmp rfl), congrArg (fun b => DV.v (.bool b)) (Eq.symm (Bool.eq_false_iff.2 (fun h => by have h := congrArg List.length (of_decide_eq_true h); omega))), rfl⟩
  · try simp only [nmL] at hc1
    refine SCode.skip ?_
    show SCode _ _ _ _
    refine SCode.seq ?_
    refine SCode.seqR ?_
    refine SOps.assign rfl ?_
    refine SOps.nil ?_
    refine SCode.block ?_
    have hxy : x.length = y.length := by first | omega | simp_all
    refine SCode.loop1 (fun (i : Nat) => (⟨42, [(0, DSgs x), (1, DSgs y), (5, .v (.int .i64 (i : Int)))], []⟩ : St)) (fun (i : Nat) => i ≤ x.length ∧ ∀ (j : Nat) (h1 : j < i) (h2 : j < x.length) (h3 : j < y.length), x[j] = y[j]) (fun (i : Nat) => x.length - i) (0) (by exact ⟨Nat.zero_le _, fun j h1 => by omega⟩) (St.Le.of ⟨(by first | rfl | (show some _ = some _; simp)), (by first | rfl | (show some _ = some _; simp)), (by first | rfl | (show some _ = some _; simp)), trivial⟩ rfl (by first | rfl | (simp))) ?_
    rintro i ⟨hi, hf⟩
    refine SCode.seq ?_
    refine SCode.seqR ?_
    refine SOps.move rfl ?_
    refine SOps.move rfl ?_
    refine SOps.lenM rfl sliceB_36_50_2 ?_
    refine SOps.bin rfl rfl rfl ?_
    refine SOps.nil ?_
    refine SCode.cond rfl (fun hc2 => ?_) (fun hc2 => ?_)
    · try simp only [nmL] at hc2
      refine SCode.skip ?_
      show SCode _ _ _ _
      refine SCode.seq ?_
      refine SCode.block ?_
      refine SCode.seq ?_
      have hil : i < x.length := by omega
      have hjl : i < y.length := by omega
      have hxl := hz _ (List.getElem_mem hil)
      rcases Classical.em ((x[i]).host = (y[i]).host) with hh | hh
      · apply SCode.drawAuto mixed_ [17, 18, 19, 20, 21, 22, 23, 24, 25, 26, 27, 28, 29, 30, 31, 32, 33, 34, 35, 36, 37, 38, 39, 40, 41] [[.inr 0], [.inr 5], [.inl 0, .inl 1], [.inl 2], [.inl 3], [.inr 1], [.inr 5], [.inl 5, .inl 6], [.inl 7], [.inl 8], [.inl 4, .inl 9], [.inl 10], [.inl 11, .inr 0], [.inl 11, .inr 5], [.inl 11, .inl 12, .inl 13], [.inl 11, .inl 14], [.inl 11, .inl 15], [.inl 11, .inr 1], [.inl 11, .inr 5], [.inl 11, .inl 17, .inl 18], [.inl 11, .inl 19], [.inl 11, .inl 20], [.inl 11, .inl 16, .inl 21], [.inl 11, .inl 22], [.inl 11, .inl 23]]
        · kernel_rfl
        · kernel_rfl
        · apply DOk.cons 17 
          · rfl
          · exact (NeedIs.inr _ rfl NeedIs.nil)
          · intro rest
            refine SOps.move rfl ?_
            exact SOps.nil rfl
          apply DOk.cons 18 
          · rfl
          · exact (NeedIs.inr _ rfl NeedIs.nil)
          · intro rest
            refine SOps.move rfl ?_
            exact SOps.nil rfl
          apply DOk.cons 19 
          · rfl
          · exact (NeedIs.inl 1 _ _ rfl rfl (NeedIs.inl 0 _ _ rfl rfl NeedIs.nil))
          · intro rest
            refine SOps.indexM (i) rfl rfl sliceB_36_50_2 (by first | omega | (simp only [lenB]; omega)) (by first | omega | (simp only [lenB]; omega)) ?_
            exact SOps.nil rfl
          apply DOk.cons 20 
          · rfl
          · exact (NeedIs.inl 0 _ _ rfl rfl NeedIs.nil)
          · intro rest
            refine SOps.fieldPin rfl fieldB_50_0_0 ?_
            exact SOps.nil rfl
          apply DOk.cons 21 
          · rfl
          · exact (NeedIs.inl 0 _ _ rfl rfl NeedIs.nil)
          · intro rest
            refine SOps.loadPin rfl flatB_9 ?_
            exact SOps.nil rfl
          apply DOk.cons 22 
          · rfl
          · exact (NeedIs.inr _ rfl NeedIs.nil)
          · intro rest
            refine SOps.move rfl ?_
            exact SOps.nil rfl
          apply DOk.cons 23 
          · rfl
          · exact (NeedIs.inr _ rfl NeedIs.nil)
          · intro rest
            refine SOps.move rfl ?_
            exact SOps.nil rfl
          apply DOk.cons 24 
          · rfl
          · exact (NeedIs.inl 1 _ _ rfl rfl (NeedIs.inl 0 _ _ rfl rfl NeedIs.nil))
          · intro rest
            refine SOps.indexM (i) rfl rfl sliceB_36_50_2 (by first | omega | (simp only [lenB]; omega)) (by first | omega | (simp only [lenB]; omega)) ?_
            exact SOps.nil rfl
          apply DOk.cons 25 
          · rfl
          · exact (NeedIs.inl 0 _ _ rfl rfl NeedIs.nil)
          · intro rest
            refine SOps.fieldPin rfl fieldB_50_0_0 ?_
            exact SOps.nil rfl
          apply DOk.cons 26 
          · rfl
          · exact (NeedIs.inl 0 _ _ rfl rfl NeedIs.nil)
          · intro rest
            refine SOps.loadPin rfl flatB_9 ?_
            exact SOps.nil rfl
          apply DOk.cons 27 (.v (.bool false))
          · rfl
          · exact (NeedIs.inl 5 _ _ rfl rfl (NeedIs.inl 0 _ _ rfl rfl NeedIs.nil))
          · intro rest
            refine SOps.bin rfl rfl rfl ?_
            exact SOps.nil (congrArg (fun b => St.put _ 27 (.v (.bool b))) (by simp [hh]))
          apply DOk.cons 28 
          · rfl
          · exact (NeedIs.inl 0 _ _ rfl rfl NeedIs.nil)
          · intro rest
            refine SOps.move rfl ?_
            exact SOps.nil rfl
          apply DOk.cons 29 
          · rfl
          · exact (NeedIs.inl 0 _ _ rfl rfl (NeedIs.inr _ rfl NeedIs.nil))
          · intro rest
            refine SOps.move rfl ?_
            exact SOps.nil rfl
          apply DOk.cons 30 
          · rfl
          · exact (NeedIs.inl 1 _ _ rfl rfl (NeedIs.inr _ rfl NeedIs.nil))
          · intro rest
            refine SOps.move rfl ?_
            exact SOps.nil rfl
          apply DOk.cons 31 
          · rfl
          · exact (NeedIs.inl 2 _ _ rfl rfl (NeedIs.inl 1 _ _ rfl rfl (NeedIs.inl 0 _ _ rfl rfl NeedIs.nil)))
          · intro rest
            refine SOps.indexM (i) rfl rfl sliceB_36_50_2 (by first | omega | (simp only [lenB]; omega)) (by first | omega | (simp only [lenB]; omega)) ?_
            exact SOps.nil rfl
          apply DOk.cons 32 
          · rfl
          · exact (NeedIs.inl 3 _ _ rfl rfl (NeedIs.inl 0 _ _ rfl rfl NeedIs.nil))
          · intro rest
            refine SOps.fieldPin rfl fieldB_50_1_1 ?_
            exact SOps.nil rfl
          apply DOk.cons 33 
          · rfl
          · exact (NeedIs.inl 4 _ _ rfl rfl (NeedIs.inl 0 _ _ rfl rfl NeedIs.nil))
          · intro rest
            refine SOps.loadPin rfl flatB_35 ?_
            exact SOps.nil rfl
          apply DOk.cons 34 
          · rfl
          · exact (NeedIs.inl 5 _ _ rfl rfl (NeedIs.inr _ rfl NeedIs.nil))
          · intro rest
            refine SOps.move rfl ?_
            exact SOps.nil rfl
          apply DOk.cons 35 
          · rfl
          · exact (NeedIs.inl 6 _ _ rfl rfl (NeedIs.inr _ rfl NeedIs.nil))
          · intro rest
            refine SOps.move rfl ?_
            exact SOps.nil rfl
          apply DOk.cons 36 
          · rfl
          · exact (NeedIs.inl 7 _ _ rfl rfl (NeedIs.inl 1 _ _ rfl rfl (NeedIs.inl 0 _ _ rfl rfl NeedIs.nil)))
          · intro rest
            refine SOps.indexM (i) rfl rfl sliceB_36_50_2 (by first | omega | (simp only [lenB]; omega)) (by first | omega | (simp only [lenB]; omega)) ?_
            exact SOps.nil rfl
          apply DOk.cons 37 
          · rfl
          · exact (NeedIs.inl 8 _ _ rfl rfl (NeedIs.inl 0 _ _ rfl rfl NeedIs.nil))
          · intro rest
            refine SOps.fieldPin rfl fieldB_50_1_1 ?_
            exact SOps.nil rfl
          apply DOk.cons 38 
          · rfl
          · exact (NeedIs.inl 9 _ _ rfl rfl (NeedIs.inl 0 _ _ rfl rfl NeedIs.nil))
          · intro rest
            refine SOps.loadPin rfl flatB_35 ?_
            exact SOps.nil rfl
          apply DOk.cons 39 
          · rfl
          · exact (NeedIs.inl 10 _ _ rfl rfl (NeedIs.inl 5 _ _ rfl rfl (NeedIs.inl 0 _ _ rfl rfl NeedIs.nil)))
          · intro rest
            refine SOps.callP (q14Strings _ _ hxl) rfl ?_
            rintro _ rfl
            exact SOps.nil rfl
          apply DOk.cons 40 
          · rfl
          · exact (NeedIs.inl 11 _ _ rfl rfl (NeedIs.inl 0 _ _ rfl rfl NeedIs.nil))
          · intro rest
            refine SOps.un rfl rfl ?_
            exact SOps.nil rfl
          apply DOk.cons 41 
          · rfl
          · exact (NeedIs.inl 12 _ _ rfl rfl (NeedIs.inl 0 _ _ rfl rfl NeedIs.nil))
          · intro rest
            refine SOps.pick rfl rfl ?_
            exact SOps.nil rfl
          exact DOk.nil
        · rfl
        · show SCode _ _ _ _
          refine SCode.cond rfl (fun hc3 => ?_) (fun hc3 => ?_)
          · try simp only [nmL] at hc3
            refine SCode.seqR ?_
            refine SOps.assign rfl ?_
            refine SOps.nil ?_
            refine SCode.ret ?_
            exact ⟨_, Res.one (.tmp rfl), congrArg (fun b => DV.v (.bool b)) (Eq.symm (Bool.eq_false_iff.2 (fun h => by have h := of_decide_eq_true h; subst h; simp_all))), rfl⟩
          · try simp only [nmL] at hc3
            refine SCode.skip ?_
            show SCode _ _ _ _
            refine SCode.region ?_
            refine SOps.move rfl ?_
            refine SOps.addI rfl rfl (by first | omega | (simp only [lenB]; omega)) (by first | omega | (simp only [lenB]; omega)) ?_
            refine SOps.assign rfl ?_
            refine SOps.nil ?_
            exact ⟨i + 1, by exact ⟨by omega, fun j h1 h2 h3 => by by_cases hj : j = i; subst hj; exact sg_ext hh (by simp_all); exact hf j (by omega) h2 h3⟩, by omega, (St.Le.of ⟨(by first | rfl | (show some _ = some _; simp)), (by first | rfl | (show some _ = some _; simp)), (by first | rfl | (show some _ = some _; simp)), trivial⟩ rfl (by first | rfl | (simp)))⟩
      · apply SCode.drawAuto mixed_ [17, 18, 19, 20, 21, 22, 23, 24, 25, 26, 27, 28, 29, 30, 31, 32, 33, 34, 35, 36, 37, 38, 39, 40, 41] [[.inr 0], [.inr 5], [.inl 0, .inl 1], [.inl 2], [.inl 3], [.inr 1], [.inr 5], [.inl 5, .inl 6], [.inl 7], [.inl 8], [.inl 4, .inl 9], [.inl 10], [.inl 11], [.inl 11], [.inl 11], [.inl 11], [.inl 11], [.inl 11], [.inl 11], [.inl 11], [.inl 11], [.inl 11], [.inl 11], [.inl 11], [.inl 11, .inl 23]]
        · kernel_rfl
        · kernel_rfl
        · apply DOk.cons 17 
          · rfl
          · exact (NeedIs.inr _ rfl NeedIs.nil)
          · intro rest
            refine SOps.move rfl ?_
            exact SOps.nil rfl
          apply DOk.cons 18 
          · rfl
          · exact (NeedIs.inr _ rfl NeedIs.nil)
          · intro rest
            refine SOps.move rfl ?_
            exact SOps.nil rfl
          apply DOk.cons 19 
          · rfl
          · exact (NeedIs.inl 1 _ _ rfl rfl (NeedIs.inl 0 _ _ rfl rfl NeedIs.nil))
          · intro rest
            refine SOps.indexM (i) rfl rfl sliceB_36_50_2 (by first | omega | (simp only [lenB]; omega)) (by first | omega | (simp only [lenB]; omega)) ?_
            exact SOps.nil rfl
          apply DOk.cons 20 
          · rfl
          · exact (NeedIs.inl 0 _ _ rfl rfl NeedIs.nil)
          · intro rest
            refine SOps.fieldPin rfl fieldB_50_0_0 ?_
            exact SOps.nil rfl
          apply DOk.cons 21 
          · rfl
          · exact (NeedIs.inl 0 _ _ rfl rfl NeedIs.nil)
          · intro rest
            refine SOps.loadPin rfl flatB_9 ?_
            exact SOps.nil rfl
          apply DOk.cons 22 
          · rfl
          · exact (NeedIs.inr _ rfl NeedIs.nil)
          · intro rest
            refine SOps.move rfl ?_
            exact SOps.nil rfl
          apply DOk.cons 23 
          · rfl
          · exact (NeedIs.inr _ rfl NeedIs.nil)
          · intro rest
            refine SOps.move rfl ?_
            exact SOps.nil rfl
          apply DOk.cons 24 
          · rfl
          · exact (NeedIs.inl 1 _ _ rfl rfl (NeedIs.inl 0 _ _ rfl rfl NeedIs.nil))
          · intro rest
            refine SOps.indexM (i) rfl rfl sliceB_36_50_2 (by first | omega | (simp only [lenB]; omega)) (by first | omega | (simp only [lenB]; omega)) ?_
            exact SOps.nil rfl
          apply DOk.cons 25 
          · rfl
          · exact (NeedIs.inl 0 _ _ rfl rfl NeedIs.nil)
          · intro rest
            refine SOps.fieldPin rfl fieldB_50_0_0 ?_
            exact SOps.nil rfl
          apply DOk.cons 26 
          · rfl
          · exact (NeedIs.inl 0 _ _ rfl rfl NeedIs.nil)
          · intro rest
            refine SOps.loadPin rfl flatB_9 ?_
            exact SOps.nil rfl
          apply DOk.cons 27 (.v (.bool true))
          · rfl
          · exact (NeedIs.inl 5 _ _ rfl rfl (NeedIs.inl 0 _ _ rfl rfl NeedIs.nil))
          · intro rest
            refine SOps.bin rfl rfl rfl ?_
            exact SOps.nil (congrArg (fun b => St.put _ 27 (.v (.bool b))) (by simp [hh]))
          apply DOk.cons 28 
          · rfl
          · exact (NeedIs.inl 0 _ _ rfl rfl NeedIs.nil)
          · intro rest
            refine SOps.move rfl ?_
            exact SOps.nil rfl
          apply DOk.cons 29 
          · rfl
          · exact (NeedIs.inl 0 _ _ rfl rfl NeedIs.nil)
          · intro rest
            refine SOps.skip rfl ?_
            exact SOps.nil rfl
          apply DOk.cons 30 
          · rfl
          · exact (NeedIs.inl 1 _ _ rfl rfl NeedIs.nil)
          · intro rest
            refine SOps.skip rfl ?_
            exact SOps.nil rfl
          apply DOk.cons 31 
          · rfl
          · exact (NeedIs.inl 2 _ _ rfl rfl NeedIs.nil)
          · intro rest
            refine SOps.skip rfl ?_
            exact SOps.nil rfl
          apply DOk.cons 32 
          · rfl
          · exact (NeedIs.inl 3 _ _ rfl rfl NeedIs.nil)
          · intro rest
            refine SOps.skip rfl ?_
            exact SOps.nil rfl
          apply DOk.cons 33 
          · rfl
          · exact (NeedIs.inl 4 _ _ rfl rfl NeedIs.nil)
          · intro rest
            refine SOps.skip rfl ?_
            exact SOps.nil rfl
          apply DOk.cons 34 
          · rfl
          · exact (NeedIs.inl 5 _ _ rfl rfl NeedIs.nil)
          · intro rest
            refine SOps.skip rfl ?_
            exact SOps.nil rfl
          apply DOk.cons 35 
          · rfl
          · exact (NeedIs.inl 6 _ _ rfl rfl NeedIs.nil)
          · intro rest
            refine SOps.skip rfl ?_
            exact SOps.nil rfl
          apply DOk.cons 36 
          · rfl
          · exact (NeedIs.inl 7 _ _ rfl rfl NeedIs.nil)
          · intro rest
            refine SOps.skip rfl ?_
            exact SOps.nil rfl
          apply DOk.cons 37 
          · rfl
          · exact (NeedIs.inl 8 _ _ rfl rfl NeedIs.nil)
          · intro rest
            refine SOps.skip rfl ?_
            exact SOps.nil rfl
          apply DOk.cons 38 
          · rfl
          · exact (NeedIs.inl 9 _ _ rfl rfl NeedIs.nil)
          · intro rest
            refine SOps.skip rfl ?_
            exact SOps.nil rfl
          apply DOk.cons 39 
          · rfl
          · exact (NeedIs.inl 10 _ _ rfl rfl NeedIs.nil)
          · intro rest
            refine SOps.skip rfl ?_
            exact SOps.nil rfl
          apply DOk.cons 40 
          · rfl
          · exact (NeedIs.inl 11 _ _ rfl rfl NeedIs.nil)
          · intro rest
            refine SOps.skip rfl ?_
            exact SOps.nil rfl
          apply DOk.cons 41 
          · rfl
          · exact (NeedIs.inl 12 _ _ rfl rfl (NeedIs.inl 0 _ _ rfl rfl NeedIs.nil))
          · intro rest
            refine SOps.pick rfl rfl ?_
            exact SOps.nil rfl
          exact DOk.nil
        · rfl
        · show SCode _ _ _ _
          refine SCode.cond rfl (fun _ => ?_) (fun h => by cases h)
          refine SCode.seqR ?_
          refine SOps.assign rfl ?_
          refine SOps.nil ?_
          refine SCode.ret ?_
          exact ⟨_, Res.one (.tmp rfl), congrArg (fun b => DV.v (.bool b)) (Eq.symm (Bool.eq_false_iff.2 (fun h => by have h := of_decide_eq_true h; subst h; simp_all))), rfl⟩
    · try simp only [nmL] at hc2
      refine SCode.exit ?_
      show SCode _ _ _ _
      refine SCode.seqR ?_
      refine SOps.assign rfl ?_
      refine SOps.nil ?_
      refine SCode.ret ?_
      exact ⟨_, Res.one (.tmp rfl), congrArg (fun b => DV.v (.bool b)) (Eq.symm (decide_eq_true (List.ext_getElem hxy (fun j h2 h3 => hf j (by omega) h2 h3)))), rfl⟩
end Go.GH
namespace Go.GH
open Go
def pickC (cs : List ByteArray) (p2 p3 i : Nat) : ByteArray := cs.getD ((if i = 0 then p2 else p3) % cs.length) .empty
def pickL (cs : List ByteArray) (p2 p3 n : Nat) : List ByteArray := (List.range n).map (pickC cs p2 p3)
theorem pickL_next (cs : List ByteArray) (p2 p3 n : Nat) : pickL cs p2 p3 (n + 1) = pickL cs p2 p3 n ++ [pickC cs p2 p3 n] := by
  unfold pickL
  rw [List.range_succ, List.map_append]; rfl
theorem pickL_len (cs : List ByteArray) (p2 p3 n : Nat) : (pickL cs p2 p3 n).length = n := by simp [pickL]
theorem pickL_mem {cs : List ByteArray} (h : 0 < cs.length) {p2 p3 n : Nat} : ∀ c ∈ pickL cs p2 p3 n, c ∈ cs := fun c hc => by
  obtain ⟨i, _, rfl⟩ := List.mem_map.1 hc
  unfold pickC
  rw [getD_at (Nat.mod_lt _ h)]
  exact List.getElem_mem _
theorem finds {a : List Letter} {l : List Rule} {hs cs : List ByteArray} {x : Sg} (hv : validS a l = true) (hh : hs.all (isWordA a) = true) (hc : cs.all (isWordA a) = true) (h1 : x.host ∈ hs) (h2 : x.cls.length ≤ 2) (h3 : ∀ c ∈ x.cls, c ∈ cs) (h5 : hs.length ≤ 5) (h4 : cs.length ≤ 4)
    {w : ByteArray} (hx : allR a l x = (w, 0)) : splitR a l hs cs w = (splitL a l hs cs w, 0) ∧ x ∈ splitL a l hs cs w ∧ ∀ s ∈ splitL a l hs cs w, allR a l s = (w, 0) := by
  have hhw := List.all_eq_true.1 hh
  have hcw := List.all_eq_true.1 hc
  have key : ∀ s : Sg, s.host ∈ hs → (∀ c ∈ s.cls, c ∈ cs) → allR a l s = allE a l s.host s.cls := fun s m1 m2 => by
    unfold allR
    rw [if_pos]
    simp only [Bool.and_eq_true, List.all_eq_true]
    exact ⟨⟨hv, hhw _ m1⟩, fun c hc => hcw _ (m2 c hc)⟩
  have hE : allE a l x.host x.cls = (w, 0) := by rw [← key x h1 h3]; exact hx
  have hw : isWordA a w = true := by
    have := all_word x.cls x.host (hhw _ h1) (fun c hc => hcw _ (h3 c hc)) (by rw [hE])
    rwa [hE] at this
  have hf := split_few (a := a) (l := l) (w := w) h5 h4
  refine ⟨?_, split_all h1 h2 h3 hE, fun s hs => ?_⟩
  · unfold splitR argS
    rw [if_pos (by rw [hv, hh, hc, hw]; rfl), if_neg (by omega)]
  · obtain ⟨m1, m2, m3⟩ := split_some hs
    rw [key s m1 m2]; exact m3
theorem split_two {a : List Letter} {l : List Rule} {w : ByteArray} {hs cs : List ByteArray} {s : Sg} (h : s ∈ splitL a l hs cs w) : s.cls.length ≤ 1048576 := by
  unfold splitL at h
  have := (candL_mem (List.mem_filter.1 h).1).2.1
  omega
def fndB (L : List Sg) (x : Sg) (i : Nat) : Bool := (L.take i).any (fun s => decide (s = x))
theorem fndB_next {L : List Sg} {x : Sg} {i : Nat} (h : i < L.length) : fndB L x (i + 1) = (fndB L x i || decide (L[i] = x)) := by
  unfold fndB
  rw [take_next h, List.any_append]; simp
theorem fndB_all {L : List Sg} {x : Sg} {i : Nat} (h : L.length ≤ i) (hx : x ∈ L) : fndB L x i = true := by
  unfold fndB
  rw [List.take_of_length_le h, List.any_eq_true]
  exact ⟨x, hx, by simp⟩
theorem one_same {L : List Sg} {x : Sg} {i : Nat} (h : i < L.length) : decide ((L.drop i).take (i + 1 - i) = [x]) = decide (L[i] = x) := by
  rw [List.drop_eq_getElem_cons h, show i + 1 - i = 1 by omega, List.take_succ_cons, List.take_zero, decide_eq_decide]
  exact ⟨fun h => List.head_eq_of_cons_eq h, fun h => by rw [h]⟩
end Go.GH
namespace Go.GH
open Go Go.Proofs
variable {E : Env}
theorem arrayB_54_4_5_1 : arrayB Tryd.prog 54 4 5 1 = true := by kernel_rfl
theorem flatB_5 : flatB Tryd.prog 5 = true := by kernel_rfl
theorem intB_3_i64 : intB Tryd.prog 3 .i64 = true := by kernel_rfl
theorem oneB_35 : oneB Tryd.prog 35 = true := by kernel_rfl
theorem someB_5 : (Tryd.prog.underlying 5).isSome = true := by kernel_rfl
theorem l14Finds (hV : VS E) (hA : AW14 E) (a : List Letter) (l : List Rule) (hs cs : List ByteArray) (p0 p1 p2 p3 : Nat) (hr : ∀ r ∈ l, SmR r) (z1 : ∀ s ∈ hs, s.size ≤ 1048576) (z2 : ∀ s ∈ cs, s.size ≤ 1048576) (q0 : p0 ≤ 255) (q1 : p1 ≤ 255) (q2 : p2 ≤ 255) (q3 : p3 ≤ 255) : GCall Tryd.prog E 9 [DLs a, DRs l, DStrs hs, DStrs cs, .agg [.v (.int .u8 (p0 : Int)), .v (.int .u8 (p1 : Int)), .v (.int .u8 (p2 : Int)), .v (.int .u8 (p3 : Int))]] [] (fun d H => d = .v (.bool true) ∧ H = []) := by
  refine GCall.body (C := ⟨Tryd.prog, E, true⟩) Tryd.func9 rfl (fun _ => rfl) (by kernel_rfl) rfl ?_
  refine SCode.seqR ?_
  refine SOps.boxAM rfl rfl ?_
  refine SOps.assign rfl ?_
  refine SOps.nil ?_
  refine SCode.seq ?_
  refine SCode.seqR ?_
  refine SOps.callP hA rfl ?_
  rintro _ rfl
  refine SOps.un rfl rfl ?_
  refine SOps.nil ?_
  refine SCode.cond rfl (fun h => by cases h) (fun _ => ?_)
  refine SCode.skip ?_
  show SCode _ _ _ _
  refine SCode.seq ?_
  refine SCode.seqR ?_
  refine SOps.move rfl ?_
  refine SOps.move rfl ?_
  refine SOps.callP (l14Few _ _) rfl ?_
  rintro _ rfl
  refine SOps.un rfl rfl ?_
  refine SOps.move rfl ?_
  refine SOps.caseB 27 rfl (fun hb1 => ?_) (fun hb1 => ?_)
  · try simp only [nmL] at hb1
    refine SOps.skip rfl ?_
    refine SOps.skip rfl ?_
    refine SOps.skip rfl ?_
    refine SOps.pick rfl rfl ?_
    refine SOps.move rfl ?_
    refine SOps.skip rfl ?_
    refine SOps.skip rfl ?_
    refine SOps.skip rfl ?_
    refine SOps.pick rfl rfl ?_
    refine SOps.move rfl ?_
    refine SOps.skip rfl ?_
    refine SOps.skip rfl ?_
    refine SOps.skip rfl ?_
    refine SOps.pick rfl rfl ?_
    refine SOps.move rfl ?_
    refine SOps.skip rfl ?_
    refine SOps.skip rfl ?_
    refine SOps.skip rfl ?_
    refine SOps.pick rfl rfl ?_
    refine SOps.move rfl ?_
    refine SOps.skip rfl ?_
    refine SOps.skip rfl ?_
    refine SOps.skip rfl ?_
    refine SOps.skip rfl ?_
    refine SOps.pick rfl rfl ?_
    refine SOps.move rfl ?_
    refine SOps.skip rfl ?_
    refine SOps.skip rfl ?_
    refine SOps.skip rfl ?_
    refine SOps.skip rfl ?_
    refine SOps.pick rfl rfl ?_
    refine SOps.move rfl ?_
    refine SOps.skip rfl ?_
    refine SOps.skip rfl ?_
    refine SOps.skip rfl ?_
    refine SOps.skip rfl ?_
    refine SOps.pick rfl rfl ?_
    refine SOps.nil ?_
    refine SCode.cond rfl (fun _ => ?_) (fun h => by cases h)
    refine SCode.seqR ?_
    refine SOps.assign rfl ?_
    refine SOps.nil ?_
    refine SCode.ret ?_
    exact ⟨_, Res.one (.tmp rfl), rfl, rfl⟩
  · try simp only [nmL] at hb1
    refine SOps.move rfl ?_
    refine SOps.lenM rfl sliceB_35_9_1 ?_
    refine SOps.bin rfl rfl rfl ?_
    refine SOps.pick rfl rfl ?_
    refine SOps.move rfl ?_
    refine SOps.caseB 32 rfl (fun hb2 => ?_) (fun hb2 => ?_)
    · try simp only [nmL] at hb2
      refine SOps.skip rfl ?_
      refine SOps.skip rfl ?_
      refine SOps.skip rfl ?_
      refine SOps.pick rfl rfl ?_
      refine SOps.move rfl ?_
      refine SOps.skip rfl ?_
      refine SOps.skip rfl ?_
      refine SOps.skip rfl ?_
      refine SOps.pick rfl rfl ?_
      refine SOps.move rfl ?_
      refine SOps.skip rfl ?_
      refine SOps.skip rfl ?_
      refine SOps.skip rfl ?_
      refine SOps.pick rfl rfl ?_
      refine SOps.move rfl ?_
      refine SOps.skip rfl ?_
      refine SOps.skip rfl ?_
      refine SOps.skip rfl ?_
      refine SOps.skip rfl ?_
      refine SOps.pick rfl rfl ?_
      refine SOps.move rfl ?_
      refine SOps.skip rfl ?_
      refine SOps.skip rfl ?_
      refine SOps.skip rfl ?_
      refine SOps.skip rfl ?_
      refine SOps.pick rfl rfl ?_
      refine SOps.move rfl ?_
      refine SOps.skip rfl ?_
      refine SOps.skip rfl ?_
      refine SOps.skip rfl ?_
      refine SOps.skip rfl ?_
      refine SOps.pick rfl rfl ?_
      refine SOps.nil ?_
      refine SCode.cond rfl (fun _ => ?_) (fun h => by cases h)
      refine SCode.seqR ?_
      refine SOps.assign rfl ?_
      refine SOps.nil ?_
      refine SCode.ret ?_
      exact ⟨_, Res.one (.tmp rfl), rfl, rfl⟩
    · try simp only [nmL] at hb2
      refine SOps.move rfl ?_
      refine SOps.lenM rfl sliceB_35_9_1 ?_
      refine SOps.bin rfl rfl rfl ?_
      refine SOps.pick rfl rfl ?_
      refine SOps.move rfl ?_
      refine SOps.caseB 37 rfl (fun hb3 => ?_) (fun hb3 => ?_)
      · try simp only [nmL] at hb3
        refine SOps.skip rfl ?_
        refine SOps.skip rfl ?_
        refine SOps.skip rfl ?_
        refine SOps.pick rfl rfl ?_
        refine SOps.move rfl ?_
        refine SOps.skip rfl ?_
        refine SOps.skip rfl ?_
        refine SOps.skip rfl ?_
        refine SOps.pick rfl rfl ?_
        refine SOps.move rfl ?_
        refine SOps.skip rfl ?_
        refine SOps.skip rfl ?_
        refine SOps.skip rfl ?_
        refine SOps.skip rfl ?_
        refine SOps.pick rfl rfl ?_
        refine SOps.move rfl ?_
        refine SOps.skip rfl ?_
        refine SOps.skip rfl ?_
        refine SOps.skip rfl ?_
        refine SOps.skip rfl ?_
        refine SOps.pick rfl rfl ?_
        refine SOps.move rfl ?_
        refine SOps.skip rfl ?_
        refine SOps.skip rfl ?_
        refine SOps.skip rfl ?_
        refine SOps.skip rfl ?_
        refine SOps.pick rfl rfl ?_
        refine SOps.nil ?_
        refine SCode.cond rfl (fun _ => ?_) (fun h => by cases h)
        refine SCode.seqR ?_
        refine SOps.assign rfl ?_
        refine SOps.nil ?_
        refine SCode.ret ?_
        exact ⟨_, Res.one (.tmp rfl), rfl, rfl⟩
      · try simp only [nmL] at hb3
        refine SOps.move rfl ?_
        refine SOps.lenM rfl sliceB_35_9_1 ?_
        refine SOps.bin rfl rfl rfl ?_
        refine SOps.pick rfl rfl ?_
        refine SOps.move rfl ?_
        refine SOps.caseB 42 rfl (fun hb4 => ?_) (fun hb4 => ?_)
        · try simp only [nmL] at hb4
          refine SOps.skip rfl ?_
          refine SOps.skip rfl ?_
          refine SOps.skip rfl ?_
          refine SOps.pick rfl rfl ?_
          refine SOps.move rfl ?_
          refine SOps.skip rfl ?_
          refine SOps.skip rfl ?_
          refine SOps.skip rfl ?_
          refine SOps.skip rfl ?_
          refine SOps.pick rfl rfl ?_
          refine SOps.move rfl ?_
          refine SOps.skip rfl ?_
          refine SOps.skip rfl ?_
          refine SOps.skip rfl ?_
          refine SOps.skip rfl ?_
          refine SOps.pick rfl rfl ?_
          refine SOps.move rfl ?_
          refine SOps.skip rfl ?_
          refine SOps.skip rfl ?_
          refine SOps.skip rfl ?_
          refine SOps.skip rfl ?_
          refine SOps.pick rfl rfl ?_
          refine SOps.nil ?_
          refine SCode.cond rfl (fun _ => ?_) (fun h => by cases h)
          refine SCode.seqR ?_
          refine SOps.assign rfl ?_
          refine SOps.nil ?_
          refine SCode.ret ?_
          exact ⟨_, Res.one (.tmp rfl), rfl, rfl⟩
        · try simp only [nmL] at hb4
          refine SOps.move rfl ?_
          refine SOps.lenM rfl sliceB_35_9_1 ?_
          refine SOps.bin rfl rfl rfl ?_
          refine SOps.pick rfl rfl ?_
          refine SOps.move rfl ?_
          refine SOps.caseB 47 rfl (fun hb5 => ?_) (fun hb5 => ?_)
          · try simp only [nmL] at hb5
            refine SOps.skip rfl ?_
            refine SOps.skip rfl ?_
            refine SOps.skip rfl ?_
            refine SOps.skip rfl ?_
            refine SOps.pick rfl rfl ?_
            refine SOps.move rfl ?_
            refine SOps.skip rfl ?_
            refine SOps.skip rfl ?_
            refine SOps.skip rfl ?_
            refine SOps.skip rfl ?_
            refine SOps.pick rfl rfl ?_
            refine SOps.move rfl ?_
            refine SOps.skip rfl ?_
            refine SOps.skip rfl ?_
            refine SOps.skip rfl ?_
            refine SOps.skip rfl ?_
            refine SOps.pick rfl rfl ?_
            refine SOps.nil ?_
            refine SCode.cond rfl (fun _ => ?_) (fun h => by cases h)
            refine SCode.seqR ?_
            refine SOps.assign rfl ?_
            refine SOps.nil ?_
            refine SCode.ret ?_
            exact ⟨_, Res.one (.tmp rfl), rfl, rfl⟩
          · try simp only [nmL] at hb5
            refine SOps.move rfl ?_
            refine SOps.move rfl ?_
            refine SOps.callP (cValid hV _ _ hr) rfl ?_
            rintro _ rfl
            refine SOps.un rfl rfl ?_
            refine SOps.pick rfl rfl ?_
            refine SOps.move rfl ?_
            refine SOps.caseB 53 rfl (fun hb6 => ?_) (fun hb6 => ?_)
            · try simp only [nmL] at hb6
              refine SOps.skip rfl ?_
              refine SOps.skip rfl ?_
              refine SOps.skip rfl ?_
              refine SOps.skip rfl ?_
              refine SOps.pick rfl rfl ?_
              refine SOps.move rfl ?_
              refine SOps.skip rfl ?_
              refine SOps.skip rfl ?_
              refine SOps.skip rfl ?_
              refine SOps.skip rfl ?_
              refine SOps.pick rfl rfl ?_
              refine SOps.nil ?_
              refine SCode.cond rfl (fun _ => ?_) (fun h => by cases h)
              refine SCode.seqR ?_
              refine SOps.assign rfl ?_
              refine SOps.nil ?_
              refine SCode.ret ?_
              exact ⟨_, Res.one (.tmp rfl), rfl, rfl⟩
            · try simp only [nmL] at hb6
              refine SOps.move rfl ?_
              refine SOps.move rfl ?_
              refine SOps.callP (q14Words _ _ (by assumption)) rfl ?_
              rintro _ rfl
              refine SOps.un rfl rfl ?_
              refine SOps.pick rfl rfl ?_
              refine SOps.move rfl ?_
              refine SOps.caseB 59 rfl (fun hb7 => ?_) (fun hb7 => ?_)
              · try simp only [nmL] at hb7
                refine SOps.skip rfl ?_
                refine SOps.skip rfl ?_
                refine SOps.skip rfl ?_
                refine SOps.skip rfl ?_
                refine SOps.pick rfl rfl ?_
                refine SOps.nil ?_
                refine SCode.cond rfl (fun _ => ?_) (fun h => by cases h)
                refine SCode.seqR ?_
                refine SOps.assign rfl ?_
                refine SOps.nil ?_
                refine SCode.ret ?_
                exact ⟨_, Res.one (.tmp rfl), rfl, rfl⟩
              · try simp only [nmL] at hb7
                refine SOps.move rfl ?_
                refine SOps.move rfl ?_
                refine SOps.callP (q14Words _ _ (by assumption)) rfl ?_
                rintro _ rfl
                refine SOps.un rfl rfl ?_
                refine SOps.pick rfl rfl ?_
                refine SOps.nil ?_
                refine SCode.cond rfl (fun hc8 => ?_) (fun hc8 => ?_)
                · try simp only [nmL] at hc8
                  refine SCode.seqR ?_
                  refine SOps.assign rfl ?_
                  refine SOps.nil ?_
                  refine SCode.ret ?_
                  exact ⟨_, Res.one (.tmp rfl), rfl, rfl⟩
                · try simp only [nmL] at hc8
                  refine SCode.skip ?_
                  show SCode _ _ _ _
                  refine SCode.seqR ?_
                  have hp1 : 0 < hs.length := by omega
                  have hc1p : 0 < cs.length := by omega
                  have h5 : hs.length ≤ 5 := by omega
                  have h4 : cs.length ≤ 4 := by omega
                  have hmh : p0 % hs.length < hs.length := Nat.mod_lt _ hp1
                  have hvs : validS a l = true := by simp_all
                  have hwh : hs.all (isWordA a) = true := by simp_all
                  have hwc : cs.all (isWordA a) = true := by simp_all
                  have hp3 : p1 % 3 ≤ 2 := by omega
                  refine SOps.move rfl ?_
                  refine SOps.indexPinA (0) rfl rfl arrayB_54_4_5_1 rfl (by first | omega | (simp only [lenB]; omega)) ?_
                  refine SOps.loadPin rfl flatB_5 ?_
                  refine SOps.convN (p0) rfl rfl someB_5 intB_3_i64 (by first | exact has_i64 (by omega) (by omega) | omega) ?_
                  refine SOps.move rfl ?_
                  refine SOps.lenM rfl sliceB_35_9_1 ?_
                  refine SOps.remN (p0) (hs.length) rfl rfl rfl rfl (by first | omega | (simp only [lenB]; omega)) (has_mod (by first | omega | (simp only [lenB]; omega))) ?_
                  refine SOps.indexM (p0 % hs.length) rfl rfl sliceB_35_9_1 (by first | omega | (simp only [lenB]; omega)) (by first | omega | (simp only [lenB]; omega)) ?_
                  refine SOps.loadPin rfl flatB_9 ?_
                  refine SOps.buildM placesB_50 zeroIs_50 rfl rfl ?_
                  refine SOps.alloc (sz := 2) zeroIs_50 (fun b0 hb_0 => ?_)
                  refine SOps.storeAM 0 rfl rfl aggB_50_2 rfl ?_
                  refine SOps.nil ?_
                  refine SCode.seq ?_
                  refine SCode.seqR ?_
                  refine SOps.assign rfl ?_
                  refine SOps.nil ?_
                  refine SCode.block ?_
                  refine SCode.loop2 (fun (i : Nat) (k : Nat) => (⟨157, [(0, DLs a), (1, DRs l), (2, DStrs hs), (3, DStrs cs), (9, .ipin [.v (.int .u8 (p0 : Int)), .v (.int .u8 (p1 : Int)), .v (.int .u8 (p2 : Int)), .v (.int .u8 (p3 : Int))]), (11, .ref b0 0), (12, .v (.int .i64 (i : Int)))], ((b0, DO.row 50 2 [[.v (.string (hs[p0 % hs.length]'(Nat.mod_lt _ hp1))), accD 1 k ((pickL cs p2 p3 i).map encS)]]) :: accH 9 1 k ((pickL cs p2 p3 i).map encS)) ++ []⟩ : St)) (fun (i : Nat) (k : Nat) => i ≤ p1 % 3) (fun (i : Nat) (k : Nat) => p1 % 3 - i) (0) (0) (by exact Nat.zero_le _) (St.Le.of ⟨(by first | rfl | (show some _ = some _; simp)), (by first | rfl | (show some _ = some _; simp)), (by first | rfl | (show some _ = some _; simp)), (by first | rfl | (show some _ = some _; simp)), (by first | rfl | (show some _ = some _; simp)), (by first | rfl | (show some _ = some _; simp)), (by first | rfl | (show some _ = some _; simp)), trivial⟩ rfl (by first | rfl | (simp))) ?_
                  rintro i k hi
                  refine SCode.seq ?_
                  refine SCode.seqR ?_
                  refine SOps.move rfl ?_
                  refine SOps.indexPinA (1) rfl rfl arrayB_54_4_5_1 rfl (by first | omega | (simp only [lenB]; omega)) ?_
                  refine SOps.loadPin rfl flatB_5 ?_
                  refine SOps.convN (p1) rfl rfl someB_5 intB_3_i64 (by first | exact has_i64 (by omega) (by omega) | omega) ?_
                  refine SOps.remN (p1) (3) rfl rfl rfl rfl (by first | omega | (simp only [lenB]; omega)) (has_mod (by first | omega | (simp only [lenB]; omega))) ?_
                  refine SOps.bin rfl rfl rfl ?_
                  refine SOps.nil ?_
                  refine SCode.cond rfl (fun hc9 => ?_) (fun hc9 => ?_)
                  · try simp only [nmL] at hc9
                    refine SCode.skip ?_
                    show SCode _ _ _ _
                    refine SCode.seq ?_
                    refine SCode.block ?_
                    have hi01 : i = 0 ∨ i = 1 := by omega
                    obtain ⟨pv, hpv⟩ : ∃ pv, pv = (if i = 0 then p2 else p3) := ⟨_, rfl⟩
                    have hpv2 : pv ≤ 255 := by rw [hpv]; split <;> omega
                    have hpm : pv % cs.length < cs.length := Nat.mod_lt _ hc1p
                    have hpl := pickL_len cs p2 p3 i
                    have hpn : (pickL cs p2 p3 (i + 1)).map encS = (((pickL cs p2 p3 i).map encS) ++ [encS (cs[pv % cs.length]'(Nat.mod_lt _ hc1p))]) := by rw [pickL_next, List.map_append]; unfold pickC; rw [← hpv, getD_at hpm]; rfl
                    apply SCode.drawG 19 [some 83, some 84, some 85, some 86, some 87, some 88, some 89, some 90, some 91, some 92, some 93, some 94, some 95, some 96, some 97, some 98, some 99, none] [[.inr 11], [.inl 0], [.inr 3], [.inr 12], [.inl 3], [.inl 4], [.inr 9, .inl 5], [.inl 6], [.inl 7], [.inr 3], [.inl 9], [.inl 8, .inl 10], [.inl 2, .inl 11], [.inl 12], [.inl 13], [.inl 1, .inl 14], [.inr 11], [.inl 16, .inl 15]] [[1, 15, 17]] [none, some (0, 0), none, none, none, none, none, none, none, none, none, none, none, none, none, some (0, 1), none, some (0, 2)] [[], [], [], [], [], [], [], [], [], [], [], [], [], [], [], [15], [], []] ([]) [⟨[1, 15, 17], fun ids c => match c with | 0 => (b0, DO.row 50 2 [[.v (.string (hs[p0 % hs.length]'(Nat.mod_lt _ hp1))), accD 1 k ((pickL cs p2 p3 i).map encS)]]) :: accH 9 1 k ((pickL cs p2 p3 i).map encS) | 1 => (b0, DO.row 50 2 [[.v (.string (hs[p0 % hs.length]'(Nat.mod_lt _ hp1))), accD 1 k ((pickL cs p2 p3 i).map encS)]]) :: accH 9 1 k ((pickL cs p2 p3 i).map encS) | 2 => (b0, DO.row 50 2 [[.v (.string (hs[p0 % hs.length]'(Nat.mod_lt _ hp1))), accD 1 k ((pickL cs p2 p3 i).map encS)]]) :: accH 9 1 (ids.getD 1 0) (((pickL cs p2 p3 i).map encS) ++ [encS (cs[pv % cs.length]'(Nat.mod_lt _ hc1p))]) | _ => (b0, DO.row 50 2 [[.v (.string (hs[p0 % hs.length]'(Nat.mod_lt _ hp1))), accD 1 (ids.getD 1 0) (((pickL cs p2 p3 i).map encS) ++ [encS (cs[pv % cs.length]'(Nat.mod_lt _ hc1p))])]]) :: accH 9 1 (ids.getD 1 0) (((pickL cs p2 p3 i).map encS) ++ [encS (cs[pv % cs.length]'(Nat.mod_lt _ hc1p))])⟩] mixed_
                    · kernel_rfl
                    · rfl
                    · exact fun _ => .refl _
                    · apply GOk.rd 83
                      · rfl
                      · exact fun b => (NeedG.inr _ rfl NeedG.nil)
                      · intro b rest ext
                        refine SOps.fieldRef rfl fieldB_50_1_1 ?_
                        exact SOps.nil rfl
                      apply GOk.act [] (fun ids => some (84, accD 1 k ((pickL cs p2 p3 i).map encS)))
                      · rfl
                      · rfl
                      · rfl
                      · exact fun b => (NeedG.inl 0 _ _ rfl rfl rfl NeedG.nil)
                      · intro b rest ext
                        refine SOps.loadRef 0 0 1 rfl flatB_35 rfl rfl rfl rfl ?_
                        exact SOps.nil ⟨b, fun _ _ => rfl, ⟨rfl, fun t d h => .inl h, _, .refl _, .refl _⟩⟩
                      apply GOk.rd 85
                      · rfl
                      · exact fun b => (NeedG.inr _ rfl NeedG.nil)
                      · intro b rest ext
                        refine SOps.move rfl ?_
                        exact SOps.nil rfl
                      apply GOk.rd 86
                      · rfl
                      · exact fun b => (NeedG.inr _ rfl NeedG.nil)
                      · intro b rest ext
                        refine SOps.move rfl ?_
                        exact SOps.nil rfl
                      apply GOk.rd 87
                      · rfl
                      · exact fun b => (NeedG.inl 0 _ _ rfl rfl rfl NeedG.nil)
                      · intro b rest ext
                        refine SOps.remN i 2 rfl rfl rfl rfl (by omega) (has_mod (by omega)) ?_
                        exact SOps.nil rfl
                      apply GOk.rd 88
                      · rfl
                      · exact fun b => (NeedG.inl 0 _ _ rfl rfl rfl NeedG.nil)
                      · intro b rest ext
                        refine SOps.addI rfl rfl (by first | omega | (simp only [lenB]; omega)) (by first | omega | (simp only [lenB]; omega)) ?_
                        exact SOps.nil rfl
                      apply GOk.rd 89
                      · rfl
                      · exact fun b => (NeedG.inr _ rfl (NeedG.inl 0 _ _ rfl rfl rfl NeedG.nil))
                      · intro b rest ext
                        refine SOps.indexPinA (2 + i % 2) rfl rfl arrayB_54_4_5_1 (by omega) (by omega) ?_
                        exact SOps.nil rfl
                      apply GOk.rd 90
                      · rfl
                      · exact fun b => (NeedG.inl 0 _ _ rfl rfl rfl NeedG.nil)
                      · intro b rest ext
                        refine SOps.loadPin (d := .v (.int .u8 (pv : Int))) (cs := if i = 0 then [DV.v (.int .u8 (p3 : Int))] else []) (by rw [hpv]; rcases hi01 with rfl | rfl <;> rfl) flatB_5 ?_
                        exact SOps.nil rfl
                      apply GOk.rd 91
                      · rfl
                      · exact fun b => (NeedG.inl 0 _ _ rfl rfl rfl NeedG.nil)
                      · intro b rest ext
                        refine SOps.convN (pv) rfl rfl someB_5 intB_3_i64 (by first | exact has_i64 (by omega) (by omega) | omega) ?_
                        exact SOps.nil rfl
                      apply GOk.rd 92
                      · rfl
                      · exact fun b => (NeedG.inr _ rfl NeedG.nil)
                      · intro b rest ext
                        refine SOps.move rfl ?_
                        exact SOps.nil rfl
                      apply GOk.rd 93
                      · rfl
                      · exact fun b => (NeedG.inl 0 _ _ rfl rfl rfl NeedG.nil)
                      · intro b rest ext
                        refine SOps.lenM rfl sliceB_35_9_1 ?_
                        exact SOps.nil rfl
                      apply GOk.rd 94
                      · rfl
                      · exact fun b => (NeedG.inl 2 _ _ rfl rfl rfl (NeedG.inl 0 _ _ rfl rfl rfl NeedG.nil))
                      · intro b rest ext
                        refine SOps.remN (pv) (cs.length) rfl rfl rfl rfl (by first | omega | (simp only [lenB]; omega)) (has_mod (by first | omega | (simp only [lenB]; omega))) ?_
                        exact SOps.nil rfl
                      apply GOk.rd 95
                      · rfl
                      · exact fun b => (NeedG.inl 9 _ _ rfl rfl rfl (NeedG.inl 0 _ _ rfl rfl rfl NeedG.nil))
                      · intro b rest ext
                        refine SOps.indexM ((pv % cs.length)) rfl rfl sliceB_35_9_1 (by first | omega | (simp only [lenB]; omega)) (by first | omega | (simp only [lenB]; omega)) ?_
                        exact SOps.nil rfl
                      apply GOk.rd 96
                      · rfl
                      · exact fun b => (NeedG.inl 0 _ _ rfl rfl rfl NeedG.nil)
                      · intro b rest ext
                        refine SOps.loadPin rfl flatB_9 ?_
                        exact SOps.nil rfl
                      apply GOk.rd 97
                      · rfl
                      · exact fun b => (NeedG.inl 0 _ _ rfl rfl rfl NeedG.nil)
                      · intro b rest ext
                        refine SOps.litF rfl sliceB_35_9_1 zeroIs_9 rfl ?_
                        exact SOps.nil rfl
                      apply GOk.act [15] (fun ids => some (98, accD 1 (ids.getD 0 0) (((pickL cs p2 p3 i).map encS) ++ [encS (cs[pv % cs.length]'(Nat.mod_lt _ hc1p))])))
                      · rfl
                      · rfl
                      · rfl
                      · exact fun b => (NeedG.inl 13 _ _ rfl rfl rfl (NeedG.inl 0 _ _ rfl rfl rfl NeedG.nil))
                      · intro b rest ext
                        refine SOps.appendAcc [_] _ sliceB_35_9_1 elemB_9_1_16 rfl rfl rfl SrcD.isl (by simp) (by first | (simp [lenB] <;> (first | omega | (simp only [lenB]; omega))) | (simp only [lenB]; (first | omega | (simp only [lenB]; omega)))) (by first | (simp <;> (first | omega | (simp only [lenB]; omega))) | (first | omega | (simp only [lenB]; omega))) (fun b1 => ?_)
                        exact SOps.nil ⟨fun k => if k = 15 then b1 else b k, fun k hk => if_neg hk, ⟨rfl, fun t d h => .inl h, _, .refl _, .refl _⟩⟩
                      apply GOk.rd 99
                      · rfl
                      · exact fun b => (NeedG.inr _ rfl NeedG.nil)
                      · intro b rest ext
                        refine SOps.fieldRef rfl fieldB_50_1_1 ?_
                        exact SOps.nil rfl
                      apply GOk.act [] (fun _ => none)
                      · rfl
                      · rfl
                      · rfl
                      · exact fun b => (NeedG.inl 0 _ _ rfl rfl rfl (NeedG.inl 1 _ _ rfl rfl rfl NeedG.nil))
                      · intro b rest ext
                        refine SOps.store 0 0 1 rfl rfl oneB_35 rfl rfl rfl (by decide) (accD_one _ _ _) ?_
                        exact SOps.nil ⟨b, fun _ _ => rfl, ⟨rfl, fun t d h => .inl h, _, .refl _, .refl _⟩⟩
                      exact GOk.nil
                    · exact fun _ => rfl
                    · intro ids
                      show SCode _ _ _ _
                      refine SCode.region ?_
                      refine SOps.move rfl ?_
                      refine SOps.addI rfl rfl (by first | omega | (simp only [lenB]; omega)) (by first | omega | (simp only [lenB]; omega)) ?_
                      refine SOps.assign rfl ?_
                      refine SOps.nil ?_
                      exact ⟨i + 1, ids 15, by omega, by omega, St.Le.of ⟨rfl, rfl, rfl, rfl, rfl, rfl, rfl, trivial⟩ rfl (by rw [hpn]; try rfl)⟩
                  · try simp only [nmL] at hc9
                    refine SCode.exit ?_
                    show SCode _ _ _ _
                    refine SCode.seqR ?_
                    refine SOps.freezeAccIn1 rfl rfl ?_
                    refine SOps.freezeRef (t := 11) 0 0 rfl rfl rfl rfl rfl ?_
                    refine SOps.reSlot (t := 11) rfl (show _ = DV.ipin (encSg (⟨(hs[p0 % hs.length]'(Nat.mod_lt _ hp1)), (pickL cs p2 p3 (p1 % 3))⟩ : Sg)) by rw [show p1 % 3 = i by omega]; rfl) ?_
                    obtain ⟨sx, hsx⟩ : ∃ sx : Sg, (⟨(hs[p0 % hs.length]'(Nat.mod_lt _ hp1)), (pickL cs p2 p3 (p1 % 3))⟩ : Sg) = sx := ⟨_, rfl⟩
                    have hsx1 : sx.host ∈ hs := by rw [← hsx]; exact List.getElem_mem _
                    have hsx2 : sx.cls.length ≤ 2 := by rw [← hsx]; show (pickL cs p2 p3 (p1 % 3)).length ≤ 2; rw [pickL_len]; exact hp3
                    have hsx3 : ∀ c ∈ sx.cls, c ∈ cs := by rw [← hsx]; exact pickL_mem hc1p
                    rw [hsx]
                    refine SOps.move rfl ?_
                    refine SOps.move rfl ?_
                    refine SOps.loadPinA rfl aggB_50_2 (Nat.le_of_ble_eq_true rfl) ?_
                    refine SOps.callP (cAttachAll hV a l sx hr) rfl ?_
                    rintro _ rfl
                    refine SOps.move rfl ?_
                    refine SOps.extract rfl rfl ?_
                    refine SOps.extract rfl rfl ?_
                    refine SOps.assign rfl ?_
                    refine SOps.assign rfl ?_
                    refine SOps.nil ?_
                    refine SCode.seq ?_
                    refine SCode.seqR ?_
                    refine SOps.move rfl ?_
                    refine SOps.bin rfl rfl rfl ?_
                    refine SOps.nil ?_
                    refine SCode.cond rfl (fun hc10 => ?_) (fun hc10 => ?_)
                    · try simp only [nmL] at hc10
                      refine SCode.seqR ?_
                      refine SOps.assign rfl ?_
                      refine SOps.nil ?_
                      refine SCode.ret ?_
                      exact ⟨_, Res.one (.tmp rfl), rfl, rfl⟩
                    · try simp only [nmL] at hc10
                      refine SCode.skip ?_
                      show SCode _ _ _ _
                      refine SCode.seqR ?_
                      obtain ⟨hfs, hfx, hfa⟩ := finds (x := sx) (w := (allR a l sx).1) hvs hwh hwc hsx1 hsx2 hsx3 h5 h4 (Prod.ext rfl (by simp_all))
                      have hfew := split_few (a := a) (l := l) (w := (allR a l sx).1) h5 h4
                      refine SOps.move rfl ?_
                      refine SOps.move rfl ?_
                      refine SOps.move rfl ?_
                      refine SOps.move rfl ?_
                      refine SOps.move rfl ?_
                      refine SOps.callP (cSplit hV a l hs cs (allR a l sx).1 hr h5 h4) rfl ?_
                      rintro _ rfl; rw [hfs]
                      refine SOps.move rfl ?_
                      refine SOps.extract rfl rfl ?_
                      refine SOps.extract rfl rfl ?_
                      refine SOps.assign rfl ?_
                      refine SOps.assign rfl ?_
                      refine SOps.nil ?_
                      refine SCode.seqR ?_
                      refine SOps.assign rfl ?_
                      refine SOps.nil ?_
                      refine SCode.seq ?_
                      refine SCode.seqR ?_
                      refine SOps.assign rfl ?_
                      refine SOps.nil ?_
                      refine SCode.block ?_
                      refine SCode.loop1 (fun (i : Nat) => (⟨157, [(0, DLs a), (1, DRs l), (2, DStrs hs), (3, DStrs cs), (11, .ipin (encSg sx)), (13, .v (.string (allR a l sx).1)), (15, DSgs (splitL a l hs cs (allR a l sx).1)), (16, .v (.int .i64 0)), (17, .v (.bool (fndB (splitL a l hs cs (allR a l sx).1) sx i))), (18, .v (.int .i64 (i : Int)))], []⟩ : St)) (fun (i : Nat) => i ≤ (splitL a l hs cs (allR a l sx).1).length) (fun (i : Nat) => (splitL a l hs cs (allR a l sx).1).length - i) (0) (by exact Nat.zero_le _) (St.Le.of ⟨(by first | rfl | (show some _ = some _; simp)), (by first | rfl | (show some _ = some _; simp)), (by first | rfl | (show some _ = some _; simp)), (by first | rfl | (show some _ = some _; simp)), (by first | rfl | (show some _ = some _; simp)), (by first | rfl | (show some _ = some _; simp)), (by first | rfl | (show some _ = some _; simp)), (by first | rfl | (show some _ = some _; simp)), (by first | rfl | (show some _ = some _; simp)), (by first | rfl | (show some _ = some _; simp)), trivial⟩ rfl (by first | rfl | (simp))) ?_
                      rintro i hi
                      refine SCode.seq ?_
                      refine SCode.seqR ?_
                      refine SOps.move rfl ?_
                      refine SOps.move rfl ?_
                      refine SOps.lenM rfl sliceB_36_50_2 ?_
                      refine SOps.bin rfl rfl rfl ?_
                      refine SOps.nil ?_
                      refine SCode.cond rfl (fun hc11 => ?_) (fun hc11 => ?_)
                      · try simp only [nmL] at hc11
                        refine SCode.skip ?_
                        show SCode _ _ _ _
                        refine SCode.seq ?_
                        refine SCode.block ?_
                        refine SCode.seqR ?_
                        have hil : i < (splitL a l hs cs (allR a l sx).1).length := by omega
                        have hfi := hfa _ (List.getElem_mem hil)
                        refine SOps.move rfl ?_
                        refine SOps.move rfl ?_
                        refine SOps.move rfl ?_
                        refine SOps.move rfl ?_
                        refine SOps.indexM (i) rfl rfl sliceB_36_50_2 (by first | omega | (simp only [lenB]; omega)) (by first | omega | (simp only [lenB]; omega)) ?_
                        refine SOps.loadPinA rfl aggB_50_2 (Nat.le_of_ble_eq_true rfl) ?_
                        refine SOps.callP (cAttachAll hV a l _ hr) rfl ?_
                        rintro _ rfl
                        refine SOps.move rfl ?_
                        refine SOps.extract rfl rfl ?_
                        refine SOps.extract rfl rfl ?_
                        refine SOps.assign rfl ?_
                        refine SOps.assign rfl ?_
                        refine SOps.nil ?_
                        refine SCode.seq ?_
                        refine SCode.seqR ?_
                        refine SOps.move rfl ?_
                        refine SOps.move rfl ?_
                        refine SOps.bin rfl rfl rfl ?_
                        refine SOps.reSlot (t := 136) rfl (show _ = DV.v (.bool false) from congrArg (fun b => DV.v (.bool b)) (by rw [hfi]; simp)) ?_
                        refine SOps.move rfl ?_
                        refine SOps.move rfl ?_
                        refine SOps.bin rfl rfl rfl ?_
                        refine SOps.reSlot (t := 139) rfl (show _ = DV.v (.bool false) from congrArg (fun b => DV.v (.bool b)) (by rw [hfi]; rfl)) ?_
                        refine SOps.pick rfl rfl ?_
                        refine SOps.nil ?_
                        refine SCode.cond rfl (fun h => by cases h) (fun _ => ?_)
                        refine SCode.skip ?_
                        show SCode _ _ _ _
                        rcases hfb : fndB (splitL a l hs cs (allR a l sx).1) sx i with _ | _
                        · apply SCode.drawAuto mixed_ [141, 142, 143, 144, 145, 146, 147, 148, 149, 150, 151, 17] [[.inr 17], [.inl 0], [.inl 1, .inr 15], [.inl 1, .inr 18], [.inl 1, .inr 18], [.inl 1, .inl 4], [.inl 1, .inl 2, .inl 3, .inl 5], [.inl 1, .inr 11], [.inl 1, .inl 7], [.inl 1, .inl 6, .inl 8], [.inl 1, .inl 9], [.inl 10]]
                          · kernel_rfl
                          · kernel_rfl
                          · apply DOk.cons 141 (.v (.bool false))
                            · rfl
                            · exact (NeedIs.inr _ rfl NeedIs.nil)
                            · intro rest
                              refine SOps.move rfl ?_
                              exact SOps.nil (congrArg (fun b => St.put _ 141 (.v (.bool b))) (rfl))
                            apply DOk.cons 142 
                            · rfl
                            · exact (NeedIs.inl 0 _ _ rfl rfl NeedIs.nil)
                            · intro rest
                              refine SOps.move rfl ?_
                              exact SOps.nil rfl
                            apply DOk.cons 143 
                            · rfl
                            · exact (NeedIs.inl 0 _ _ rfl rfl (NeedIs.inr _ rfl NeedIs.nil))
                            · intro rest
                              refine SOps.move rfl ?_
                              exact SOps.nil rfl
                            apply DOk.cons 144 
                            · rfl
                            · exact (NeedIs.inl 1 _ _ rfl rfl (NeedIs.inr _ rfl NeedIs.nil))
                            · intro rest
                              refine SOps.move rfl ?_
                              exact SOps.nil rfl
                            apply DOk.cons 145 
                            · rfl
                            · exact (NeedIs.inl 2 _ _ rfl rfl (NeedIs.inr _ rfl NeedIs.nil))
                            · intro rest
                              refine SOps.move rfl ?_
                              exact SOps.nil rfl
                            apply DOk.cons 146 
                            · rfl
                            · exact (NeedIs.inl 3 _ _ rfl rfl (NeedIs.inl 0 _ _ rfl rfl NeedIs.nil))
                            · intro rest
                              refine SOps.addI rfl rfl (by first | omega | (simp only [lenB]; omega)) (by first | omega | (simp only [lenB]; omega)) ?_
                              exact SOps.nil rfl
                            apply DOk.cons 147 
                            · rfl
                            · exact (NeedIs.inl 4 _ _ rfl rfl (NeedIs.inl 3 _ _ rfl rfl (NeedIs.inl 2 _ _ rfl rfl (NeedIs.inl 0 _ _ rfl rfl NeedIs.nil))))
                            · intro rest
                              refine SOps.sliceM (n1 := 0) (i) ((i + 1)) sliceB_36_50_2 rfl (.at (i) rfl (by first | omega | (simp only [lenB]; omega))) (.at ((i + 1)) rfl (by first | omega | (simp only [lenB]; omega))) (by first | omega | (simp only [lenB]; omega)) (by first | omega | (simp only [lenB]; omega)) ?_
                              exact SOps.nil rfl
                            apply DOk.cons 148 
                            · rfl
                            · exact (NeedIs.inl 5 _ _ rfl rfl (NeedIs.inr _ rfl NeedIs.nil))
                            · intro rest
                              refine SOps.loadPinA rfl aggB_50_2 (Nat.le_of_ble_eq_true rfl) ?_
                              exact SOps.nil rfl
                            apply DOk.cons 149 
                            · rfl
                            · exact (NeedIs.inl 6 _ _ rfl rfl (NeedIs.inl 0 _ _ rfl rfl NeedIs.nil))
                            · intro rest
                              refine SOps.litF rfl sliceB_36_50_2 zeroIs_50 rfl ?_
                              exact SOps.nil rfl
                            apply DOk.cons 150 
                            · rfl
                            · exact (NeedIs.inl 7 _ _ rfl rfl (NeedIs.inl 2 _ _ rfl rfl (NeedIs.inl 0 _ _ rfl rfl NeedIs.nil)))
                            · intro rest
                              refine SOps.callP (q14Same _ [sx] (by simp; omega) (fun s h => split_two (List.mem_of_mem_drop (List.mem_of_mem_take h)))) rfl ?_
                              rintro _ rfl
                              exact SOps.nil rfl
                            apply DOk.cons 151 
                            · rfl
                            · exact (NeedIs.inl 8 _ _ rfl rfl (NeedIs.inl 0 _ _ rfl rfl NeedIs.nil))
                            · intro rest
                              refine SOps.pick rfl rfl ?_
                              exact SOps.nil rfl
                            apply DOk.cons 17 
                            · rfl
                            · exact (NeedIs.inl 0 _ _ rfl rfl NeedIs.nil)
                            · intro rest
                              refine SOps.assign rfl ?_
                              exact SOps.nil rfl
                            exact DOk.nil
                          · rfl
                          · show SCode _ _ _ _
                            refine SCode.region ?_
                            refine SOps.move rfl ?_
                            refine SOps.addI rfl rfl (by first | omega | (simp only [lenB]; omega)) (by first | omega | (simp only [lenB]; omega)) ?_
                            refine SOps.assign rfl ?_
                            refine SOps.nil ?_
                            exact ⟨i + 1, by omega, by omega, St.Le.of ⟨rfl, rfl, rfl, rfl, rfl, rfl, rfl, rfl, (by rw [fndB_next hil, hfb]; first | rfl | (rw [← one_same hil]; rfl)), rfl, trivial⟩⟩
                        · apply SCode.drawAuto mixed_ [141, 142, 143, 144, 145, 146, 147, 148, 149, 150, 151, 17] [[.inr 17], [.inl 0], [.inl 1], [.inl 1], [.inl 1], [.inl 1], [.inl 1], [.inl 1], [.inl 1], [.inl 1], [.inl 1, .inl 9], [.inl 10]]
                          · kernel_rfl
                          · kernel_rfl
                          · apply DOk.cons 141 (.v (.bool true))
                            · rfl
                            · exact (NeedIs.inr _ rfl NeedIs.nil)
                            · intro rest
                              refine SOps.move rfl ?_
                              exact SOps.nil (congrArg (fun b => St.put _ 141 (.v (.bool b))) (rfl))
                            apply DOk.cons 142 
                            · rfl
                            · exact (NeedIs.inl 0 _ _ rfl rfl NeedIs.nil)
                            · intro rest
                              refine SOps.move rfl ?_
                              exact SOps.nil rfl
                            apply DOk.cons 143 
                            · rfl
                            · exact (NeedIs.inl 0 _ _ rfl rfl NeedIs.nil)
                            · intro rest
                              refine SOps.skip rfl ?_
                              exact SOps.nil rfl
                            apply DOk.cons 144 
                            · rfl
                            · exact (NeedIs.inl 1 _ _ rfl rfl NeedIs.nil)
                            · intro rest
                              refine SOps.skip rfl ?_
                              exact SOps.nil rfl
                            apply DOk.cons 145 
                            · rfl
                            · exact (NeedIs.inl 2 _ _ rfl rfl NeedIs.nil)
                            · intro rest
                              refine SOps.skip rfl ?_
                              exact SOps.nil rfl
                            apply DOk.cons 146 
                            · rfl
                            · exact (NeedIs.inl 3 _ _ rfl rfl NeedIs.nil)
                            · intro rest
                              refine SOps.skip rfl ?_
                              exact SOps.nil rfl
                            apply DOk.cons 147 
                            · rfl
                            · exact (NeedIs.inl 4 _ _ rfl rfl NeedIs.nil)
                            · intro rest
                              refine SOps.skip rfl ?_
                              exact SOps.nil rfl
                            apply DOk.cons 148 
                            · rfl
                            · exact (NeedIs.inl 5 _ _ rfl rfl NeedIs.nil)
                            · intro rest
                              refine SOps.skip rfl ?_
                              exact SOps.nil rfl
                            apply DOk.cons 149 
                            · rfl
                            · exact (NeedIs.inl 6 _ _ rfl rfl NeedIs.nil)
                            · intro rest
                              refine SOps.skip rfl ?_
                              exact SOps.nil rfl
                            apply DOk.cons 150 
                            · rfl
                            · exact (NeedIs.inl 7 _ _ rfl rfl NeedIs.nil)
                            · intro rest
                              refine SOps.skip rfl ?_
                              exact SOps.nil rfl
                            apply DOk.cons 151 
                            · rfl
                            · exact (NeedIs.inl 8 _ _ rfl rfl (NeedIs.inl 0 _ _ rfl rfl NeedIs.nil))
                            · intro rest
                              refine SOps.pick rfl rfl ?_
                              exact SOps.nil rfl
                            apply DOk.cons 17 
                            · rfl
                            · exact (NeedIs.inl 0 _ _ rfl rfl NeedIs.nil)
                            · intro rest
                              refine SOps.assign rfl ?_
                              exact SOps.nil rfl
                            exact DOk.nil
                          · rfl
                          · show SCode _ _ _ _
                            refine SCode.region ?_
                            refine SOps.move rfl ?_
                            refine SOps.addI rfl rfl (by first | omega | (simp only [lenB]; omega)) (by first | omega | (simp only [lenB]; omega)) ?_
                            refine SOps.assign rfl ?_
                            refine SOps.nil ?_
                            exact ⟨i + 1, by omega, by omega, St.Le.of ⟨rfl, rfl, rfl, rfl, rfl, rfl, rfl, rfl, (by rw [fndB_next hil, hfb]; first | rfl | (rw [← one_same hil]; rfl)), rfl, trivial⟩⟩
                      · try simp only [nmL] at hc11
                        refine SCode.exit ?_
                        show SCode _ _ _ _
                        refine SCode.seqR ?_
                        have hfd := fndB_all (L := (splitL a l hs cs (allR a l sx).1)) (x := sx) (i := i) (by omega) hfx
                        rw [hfd]
                        refine SOps.move rfl ?_
                        refine SOps.bin rfl rfl rfl ?_
                        refine SOps.reSlot (t := 153) rfl (show _ = DV.v (.bool true) from congrArg (fun b => DV.v (.bool b)) (rfl)) ?_
                        refine SOps.move rfl ?_
                        refine SOps.move rfl ?_
                        refine SOps.pick rfl rfl ?_
                        refine SOps.assign rfl ?_
                        refine SOps.nil ?_
                        refine SCode.ret ?_
                        exact ⟨_, Res.one (.tmp rfl), rfl, rfl⟩
end Go.GH
