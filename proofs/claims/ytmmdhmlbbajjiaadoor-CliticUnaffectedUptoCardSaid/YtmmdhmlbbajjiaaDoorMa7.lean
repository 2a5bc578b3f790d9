/-
  Part 7 of the texts behind the walks of this claim: an own layer over the kit's wp, plain laws, and walks. No conditions.
-/
import Derived.Test.YtmmdhmlbbajjiaaDoorMa6
set_option linter.unusedVariables false
set_option linter.unusedSimpArgs false
set_option linter.deprecated false
namespace Go.GH
open Go Go.Proofs
variable {E : Env}
theorem l14Unaffected (hV : VS E) (hA : AW14 E) (a : List Letter) (l : List Rule) (h c : ByteArray) (hr : ∀ r ∈ l, SmR r) (hs1 : h.size ≤ 1048576) (hs2 : c.size ≤ 1048576) : GCall Tryd.prog E 7 [DLs a, DRs l, .v (.string h), .v (.string c)] [] (fun d H => d = .v (.bool true) ∧ H = []) := by
  refine GCall.body (C := ⟨Tryd.prog, E, true⟩) Tryd.func7 rfl (fun _ => rfl) (by kernel_rfl) rfl ?_
  refine SCode.seqR ?_
  refine SOps.assign rfl ?_
  refine SOps.nil ?_
  refine SCode.seq ?_
  refine SCode.seqR ?_
  refine SOps.callP hA rfl ?_
  rintro _ rfl
  refine SOps.un rfl rfl ?_
  refine SOps.nil ?_
  refine SCode.cond rfl (fun h => by cases h) (fun _ => ?_)
  refine SCode.skip ?_
  show SCode _ _ _ _
  refine SCode.seq ?_
  refine SCode.seqR ?_
  refine SOps.move rfl ?_
  refine SOps.move rfl ?_
  refine SOps.callP (l14Few _ _) rfl ?_
  rintro _ rfl
  refine SOps.un rfl rfl ?_
  refine SOps.move rfl ?_
  refine SOps.caseB 19 rfl (fun hb1 => ?_) (fun hb1 => ?_)
  · try simp only [nmL] at hb1
    refine SOps.skip rfl ?_
    refine SOps.skip rfl ?_
    refine SOps.skip rfl ?_
    refine SOps.skip rfl ?_
    refine SOps.pick rfl rfl ?_
    refine SOps.move rfl ?_
    refine SOps.skip rfl ?_
    refine SOps.skip rfl ?_
    refine SOps.skip rfl ?_
    refine SOps.skip rfl ?_
    refine SOps.pick rfl rfl ?_
    refine SOps.move rfl ?_
    refine SOps.skip rfl ?_
    refine SOps.skip rfl ?_
    refine SOps.skip rfl ?_
    refine SOps.skip rfl ?_
    refine SOps.pick rfl rfl ?_
    refine SOps.nil ?_
    refine SCode.cond rfl (fun _ => ?_) (fun h => by cases h)
    refine SCode.seqR ?_
    refine SOps.assign rfl ?_
    refine SOps.nil ?_
    refine SCode.ret ?_
    exact ⟨_, Res.one (.tmp rfl), congrArg (fun b => DV.v (.bool b)) (by first | rfl | (rcases hW with ⟨hw1, hw2⟩ | ⟨hw1, hw2⟩ <;> first | (rw [hw2]; done) | (exfalso; simp_all; done) | (exfalso; simp_all; omega) | (exfalso; omega))), rfl⟩
  · try simp only [nmL] at hb1
    refine SOps.move rfl ?_
    refine SOps.move rfl ?_
    refine SOps.callP (cValid hV _ _ (by assumption)) rfl ?_
    rintro _ rfl
    refine SOps.un rfl rfl ?_
    refine SOps.pick rfl rfl ?_
    refine SOps.move rfl ?_
    refine SOps.caseB 25 rfl (fun hb2 => ?_) (fun hb2 => ?_)
    · try simp only [nmL] at hb2
      refine SOps.skip rfl ?_
      refine SOps.skip rfl ?_
      refine SOps.skip rfl ?_
      refine SOps.skip rfl ?_
      refine SOps.pick rfl rfl ?_
      refine SOps.move rfl ?_
      refine SOps.skip rfl ?_
      refine SOps.skip rfl ?_
      refine SOps.skip rfl ?_
      refine SOps.skip rfl ?_
      refine SOps.pick rfl rfl ?_
      refine SOps.nil ?_
      refine SCode.cond rfl (fun _ => ?_) (fun h => by cases h)
      refine SCode.seqR ?_
      refine SOps.assign rfl ?_
      refine SOps.nil ?_
      refine SCode.ret ?_
      exact ⟨_, Res.one (.tmp rfl), congrArg (fun b => DV.v (.bool b)) (by first | rfl | (rcases hW with ⟨hw1, hw2⟩ | ⟨hw1, hw2⟩ <;> first | (rw [hw2]; done) | (exfalso; simp_all; done) | (exfalso; simp_all; omega) | (exfalso; omega))), rfl⟩
    · try simp only [nmL] at hb2
      refine SOps.move rfl ?_
      refine SOps.move rfl ?_
      refine SOps.callP (q10Word _ _ (by assumption)) rfl ?_
      rintro _ rfl
      refine SOps.un rfl rfl ?_
      refine SOps.pick rfl rfl ?_
      refine SOps.move rfl ?_
      refine SOps.caseB 31 rfl (fun hb3 => ?_) (fun hb3 => ?_)
      · try simp only [nmL] at hb3
        refine SOps.skip rfl ?_
        refine SOps.skip rfl ?_
        refine SOps.skip rfl ?_
        refine SOps.skip rfl ?_
        refine SOps.pick rfl rfl ?_
        refine SOps.nil ?_
        refine SCode.cond rfl (fun _ => ?_) (fun h => by cases h)
        refine SCode.seqR ?_
        refine SOps.assign rfl ?_
        refine SOps.nil ?_
        refine SCode.ret ?_
        exact ⟨_, Res.one (.tmp rfl), congrArg (fun b => DV.v (.bool b)) (by first | rfl | (rcases hW with ⟨hw1, hw2⟩ | ⟨hw1, hw2⟩ <;> first | (rw [hw2]; done) | (exfalso; simp_all; done) | (exfalso; simp_all; omega) | (exfalso; omega))), rfl⟩
      · try simp only [nmL] at hb3
        refine SOps.move rfl ?_
        refine SOps.move rfl ?_
        refine SOps.callP (q10Word _ _ (by assumption)) rfl ?_
        rintro _ rfl
        refine SOps.un rfl rfl ?_
        refine SOps.pick rfl rfl ?_
        refine SOps.nil ?_
        refine SCode.cond rfl (fun hc4 => ?_) (fun hc4 => ?_)
        · try simp only [nmL] at hc4
          refine SCode.seqR ?_
          refine SOps.assign rfl ?_
          refine SOps.nil ?_
          refine SCode.ret ?_
          exact ⟨_, Res.one (.tmp rfl), congrArg (fun b => DV.v (.bool b)) (by first | rfl | (rcases hW with ⟨hw1, hw2⟩ | ⟨hw1, hw2⟩ <;> first | (rw [hw2]; done) | (exfalso; simp_all; done) | (exfalso; simp_all; omega) | (exfalso; omega))), rfl⟩
        · try simp only [nmL] at hc4
          refine SCode.skip ?_
          show SCode _ _ _ _
          refine SCode.seqR ?_
          have hvs : validS a l = true := by simp_all
          have hwh : isWordA a h = true := by simp_all
          have hwc : isWordA a c = true := by simp_all
          have hal : a.length ≤ 64 := by have := validA_iff.1 (validS_iff.1 hvs).1; omega
          have hq1 := word_facts hwh
          have hq2 := word_facts hwc
          have hjs : (joinE h c).size ≤ 1048576 := by show (h ++ eqB ++ c).size ≤ _; rw [ByteArray.size_append, ByteArray.size_append, show eqB.size = 1 from rfl]; omega
          refine SOps.move rfl ?_
          refine SOps.concat rfl rfl (by simp only [lenB, ByteArray.size_append]; have : (ByteArray.mk #[61]).size = 1 := rfl; omega) ?_
          refine SOps.move rfl ?_
          refine SOps.concat rfl rfl (by simp only [lenB, ByteArray.size_append]; have : (ByteArray.mk #[61]).size = 1 := rfl; omega) ?_
          refine SOps.assign rfl ?_
          refine SOps.nil ?_
          refine SCode.seq ?_
          refine SCode.seqR ?_
          refine SOps.assign rfl ?_
          refine SOps.nil ?_
          refine SCode.block ?_
          refine SCode.loop1 (fun (i : Nat) => (⟨79, [(0, DLs a), (1, DRs l), (2, .v (.string h)), (3, .v (.string c)), (9, .v (.string (joinE h c))), (10, .v (.int .i64 (i : Int)))], []⟩ : St)) (fun (i : Nat) => i ≤ l.length ∧ ∀ r ∈ l.take i, sitesR (extA a) r (joinE h c) = []) (fun (i : Nat) => l.length - i) (0) (by simp) (St.Le.of ⟨(by first | rfl | (show some _ = some _; simp)), (by first | rfl | (show some _ = some _; simp)), (by first | rfl | (show some _ = some _; simp)), (by first | rfl | (show some _ = some _; simp)), (by first | rfl | (show some _ = some _; simp)), (by first | rfl | (show some _ = some _; simp)), trivial⟩ rfl (by first | rfl | (simp))) ?_
          rintro i ⟨hi, hf⟩
          refine SCode.fact (isl_len (t := 1) rfl) (fun hB => ?_)
          simp only [List.length_map, lenB] at hB
          refine SCode.seq ?_
          refine SCode.seqR ?_
          refine SOps.move rfl ?_
          refine SOps.move rfl ?_
          refine SOps.lenM rfl sliceB_23_47_6 ?_
          refine SOps.bin rfl rfl rfl ?_
          refine SOps.nil ?_
          refine SCode.cond rfl (fun hc5 => ?_) (fun hc5 => ?_)
          · try simp only [nmL] at hc5
            refine SCode.skip ?_
            show SCode _ _ _ _
            refine SCode.seq ?_
            refine SCode.block ?_
            refine SCode.seq ?_
            have hil : i < l.length := by omega
            apply SCode.drawAuto mixed_ [47, 48, 49, 50, 51, 52, 53, 54, 55, 56] [[.inr 0], [.inl 0], [.inr 1], [.inr 10], [.inl 2, .inl 3], [.inl 4], [.inr 9], [.inl 1, .inl 5, .inl 6], [.inl 7], [.inl 8]]
            · kernel_rfl
            · kernel_rfl
            · apply DOk.cons 47 
              · rfl
              · exact (NeedIs.inr _ rfl NeedIs.nil)
              · intro rest
                refine SOps.move rfl ?_
                exact SOps.nil rfl
              apply DOk.cons 48 
              · rfl
              · exact (NeedIs.inl 0 _ _ rfl rfl NeedIs.nil)
              · intro rest
                refine SOps.callP (cExtended _ (by omega)) rfl ?_
                rintro _ rfl
                exact SOps.nil rfl
              apply DOk.cons 49 
              · rfl
              · exact (NeedIs.inr _ rfl NeedIs.nil)
              · intro rest
                refine SOps.move rfl ?_
                exact SOps.nil rfl
              apply DOk.cons 50 
              · rfl
              · exact (NeedIs.inr _ rfl NeedIs.nil)
              · intro rest
                refine SOps.move rfl ?_
                exact SOps.nil rfl
              apply DOk.cons 51 
              · rfl
              · exact (NeedIs.inl 1 _ _ rfl rfl (NeedIs.inl 0 _ _ rfl rfl NeedIs.nil))
              · intro rest
                refine SOps.indexM (i) rfl rfl sliceB_23_47_6 (by first | omega | (simp only [lenB]; omega)) (by first | omega | (simp only [lenB]; omega)) ?_
                exact SOps.nil rfl
              apply DOk.cons 52 
              · rfl
              · exact (NeedIs.inl 0 _ _ rfl rfl NeedIs.nil)
              · intro rest
                refine SOps.loadPinA rfl aggB_47_6 (Nat.le_of_ble_eq_true rfl) ?_
                exact SOps.nil rfl
              apply DOk.cons 53 
              · rfl
              · exact (NeedIs.inr _ rfl NeedIs.nil)
              · intro rest
                refine SOps.move rfl ?_
                exact SOps.nil rfl
              apply DOk.cons 54 
              · rfl
              · exact (NeedIs.inl 5 _ _ rfl rfl (NeedIs.inl 1 _ _ rfl rfl (NeedIs.inl 0 _ _ rfl rfl NeedIs.nil)))
              · intro rest
                refine SOps.callP (qSites' hV (extA a) _ (joinE h c) hjs) rfl ?_
                rintro _ rfl
                exact SOps.nil rfl
              apply DOk.cons 55 
              · rfl
              · exact (NeedIs.inl 0 _ _ rfl rfl NeedIs.nil)
              · intro rest
                refine SOps.lenM rfl sliceB_43_3_1 ?_
                exact SOps.nil rfl
              apply DOk.cons 56 
              · rfl
              · exact (NeedIs.inl 0 _ _ rfl rfl NeedIs.nil)
              · intro rest
                refine SOps.bin rfl rfl rfl ?_
                exact SOps.nil rfl
              exact DOk.nil
            · rfl
            · show SCode _ _ _ _
              refine SCode.cond rfl (fun hc6 => ?_) (fun hc6 => ?_)
              · try simp only [nmL] at hc6
                refine SCode.seqR ?_
                refine SOps.assign rfl ?_
                refine SOps.nil ?_
                refine SCode.ret ?_
                exact ⟨_, Res.one (.tmp rfl), congrArg (fun b => DV.v (.bool b)) (by first | rfl | (rcases hW with ⟨hw1, hw2⟩ | ⟨hw1, hw2⟩ <;> first | (rw [hw2]; done) | (exfalso; simp_all; done) | (exfalso; simp_all; omega) | (exfalso; omega))), rfl⟩
              · try simp only [nmL] at hc6
                refine SCode.skip ?_
                show SCode _ _ _ _
                refine SCode.region ?_
                refine SOps.move rfl ?_
                refine SOps.addI rfl rfl (by first | omega | (simp only [lenB]; omega)) (by first | omega | (simp only [lenB]; omega)) ?_
                refine SOps.assign rfl ?_
                refine SOps.nil ?_
                exact ⟨i + 1, by exact ⟨by omega, take_more hf (by omega) (List.eq_nil_of_length_eq_zero (by omega))⟩, by omega, (St.Le.of ⟨(by first | rfl | (show some _ = some _; simp)), (by first | rfl | (show some _ = some _; simp)), (by first | rfl | (show some _ = some _; simp)), (by first | rfl | (show some _ = some _; simp)), (by first | rfl | (show some _ = some _; simp)), (by first | rfl | (show some _ = some _; simp)), trivial⟩ rfl (by first | rfl | (simp)))⟩
          · try simp only [nmL] at hc5
            refine SCode.exit ?_
            show SCode _ _ _ _
            refine SCode.seqR ?_
            refine SOps.move rfl ?_
            refine SOps.move rfl ?_
            refine SOps.move rfl ?_
            refine SOps.move rfl ?_
            refine SOps.callP (cPlain hV _ _ _ _ (by assumption) (by omega) (by omega)) rfl ?_
            rintro _ rfl
            refine SOps.move rfl ?_
            refine SOps.extract rfl rfl ?_
            refine SOps.extract rfl rfl ?_
            refine SOps.assign rfl ?_
            refine SOps.assign rfl ?_
            refine SOps.nil ?_
            refine SCode.seqR ?_
            have hU := plain_none hvs hwh hwc (all_of (by omega) hf)
            have hjr : (runes (joinE h c)).length = (runes h).length + 1 + (runes c).length := by rw [(join_runes hq1.2.1 hq2.2.1).2, List.length_append, List.length_cons]; omega
            have hW : (40 < (runes h).length + 1 + (runes c).length ∧ plainR a l h c = (false, 2)) ∨ (¬ 40 < (runes h).length + 1 + (runes c).length ∧ plainR a l h c = (true, 0)) := by rw [hU]; split <;> simp_all
            refine SOps.move rfl ?_
            refine SOps.bin rfl rfl rfl ?_
            refine SOps.move rfl ?_
            refine SOps.caseB 67 rfl (fun hb7 => ?_) (fun hb7 => ?_)
            · try simp only [nmL] at hb7
              refine SOps.move rfl ?_
              refine SOps.callP (q10Runes (joinE h c)) rfl ?_
              rintro _ rfl
              refine SOps.bin rfl rfl rfl ?_
              refine SOps.pick rfl rfl ?_
              refine SOps.move rfl ?_
              refine SOps.caseB 72 rfl (fun hb8 => ?_) (fun hb8 => ?_)
              · try simp only [nmL] at hb8
                refine SOps.skip rfl ?_
                refine SOps.skip rfl ?_
                refine SOps.skip rfl ?_
                refine SOps.skip rfl ?_
                refine SOps.skip rfl ?_
                refine SOps.pick rfl rfl ?_
                refine SOps.assign rfl ?_
                refine SOps.nil ?_
                refine SCode.ret ?_
                exact ⟨_, Res.one (.tmp rfl), congrArg (fun b => DV.v (.bool b)) (by first | rfl | (rcases hW with ⟨hw1, hw2⟩ | ⟨hw1, hw2⟩ <;> first | (rw [hw2]; done) | (exfalso; simp_all; done) | (exfalso; simp_all; omega) | (exfalso; omega))), rfl⟩
              · try simp only [nmL] at hb8
                refine SOps.move rfl ?_
                refine SOps.bin rfl rfl rfl ?_
                refine SOps.move rfl ?_
                refine SOps.caseB 75 rfl (fun hb9 => ?_) (fun hb9 => ?_)
                · try simp only [nmL] at hb9
                  refine SOps.move rfl ?_
                  refine SOps.pick rfl rfl ?_
                  refine SOps.pick rfl rfl ?_
                  refine SOps.assign rfl ?_
                  refine SOps.nil ?_
                  refine SCode.ret ?_
                  exact ⟨_, Res.one (.tmp rfl), congrArg (fun b => DV.v (.bool b)) (by first | rfl | (rcases hW with ⟨hw1, hw2⟩ | ⟨hw1, hw2⟩ <;> first | (rw [hw2]; done) | (exfalso; simp_all; done) | (exfalso; simp_all; omega) | (exfalso; omega))), rfl⟩
                · try simp only [nmL] at hb9
                  refine SOps.skip rfl ?_
                  refine SOps.pick rfl rfl ?_
                  refine SOps.pick rfl rfl ?_
                  refine SOps.assign rfl ?_
                  refine SOps.nil ?_
                  refine SCode.ret ?_
                  exact ⟨_, Res.one (.tmp rfl), congrArg (fun b => DV.v (.bool b)) (by first | rfl | (rcases hW with ⟨hw1, hw2⟩ | ⟨hw1, hw2⟩ <;> first | (rw [hw2]; done) | (exfalso; simp_all; done) | (exfalso; simp_all; omega) | (exfalso; omega))), rfl⟩
            · try simp only [nmL] at hb7
              refine SOps.skip rfl ?_
              refine SOps.skip rfl ?_
              refine SOps.skip rfl ?_
              refine SOps.pick rfl rfl ?_
              refine SOps.move rfl ?_
              refine SOps.move rfl ?_
              refine SOps.bin rfl rfl rfl ?_
              refine SOps.move rfl ?_
              refine SOps.caseB 75 rfl (fun hb10 => ?_) (fun hb10 => ?_)
              · try simp only [nmL] at hb10
                refine SOps.move rfl ?_
                refine SOps.pick rfl rfl ?_
                refine SOps.pick rfl rfl ?_
                refine SOps.assign rfl ?_
                refine SOps.nil ?_
                refine SCode.ret ?_
                exact ⟨_, Res.one (.tmp rfl), congrArg (fun b => DV.v (.bool b)) (by first | rfl | (rcases hW with ⟨hw1, hw2⟩ | ⟨hw1, hw2⟩ <;> first | (rw [hw2]; done) | (exfalso; simp_all; done) | (exfalso; simp_all; omega) | (exfalso; omega))), rfl⟩
              · try simp only [nmL] at hb10
                refine SOps.skip rfl ?_
                refine SOps.pick rfl rfl ?_
                refine SOps.pick rfl rfl ?_
                refine SOps.assign rfl ?_
                refine SOps.nil ?_
                refine SCode.ret ?_
                exact ⟨_, Res.one (.tmp rfl), congrArg (fun b => DV.v (.bool b)) (by first | rfl | (rcases hW with ⟨hw1, hw2⟩ | ⟨hw1, hw2⟩ <;> first | (rw [hw2]; done) | (exfalso; simp_all; done) | (exfalso; simp_all; omega) | (exfalso; omega))), rfl⟩
end Go.GH
