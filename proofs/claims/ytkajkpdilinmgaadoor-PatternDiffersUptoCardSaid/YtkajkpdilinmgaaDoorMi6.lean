/-
  Part 6 of the texts behind the walks of this claim: an own layer over the kit's wp, plain laws, and walks. No conditions.
-/
import Derived.Test.YtkajkpdilinmgaaDoorMi5
set_option linter.unusedVariables false
set_option linter.unusedSimpArgs false
set_option linter.deprecated false
namespace Go.GH
open Go Go.Proofs
variable {E : Env}
def accV (x : Acc) : Bool := accOK x && decide (widthA x ≤ 65)
theorem accV_iff {x : Acc} : accV x = true ↔ headOK x = true ∧ ∀ (i : Nat) (h : i < x.nxt.length), (x.nxt[i]).length = widthA x ∧ (x.nxt[i]).length ≤ 65 ∧ ∀ t ∈ x.nxt[i], 0 ≤ t ∧ t < x.nxt.length := by
  simp only [accV, accOK, Bool.and_eq_true, decide_eq_true_eq, List.all_eq_true]
  constructor
  · rintro ⟨⟨h1, h2⟩, h3⟩
    refine ⟨h1, fun i h => ?_⟩
    have := rowOK_iff.1 (h2 _ (List.getElem_mem h))
    exact ⟨this.1, by omega, this.2⟩
  · rintro ⟨h1, h2⟩
    have h0 : 0 < x.nxt.length := by have := headOK_iff.1 h1; omega
    refine ⟨⟨h1, fun l hl => ?_⟩, by rw [← (h2 0 h0).1]; exact (h2 0 h0).2.1⟩
    obtain ⟨i, hi, rfl⟩ := List.getElem_of_mem hl
    exact rowOK_iff.2 ⟨(h2 i hi).1, (h2 i hi).2.2⟩
theorem qValidAcc (x : Acc)  : GCall Tryd.prog E 24 [.agg (encAcc x)] [] (fun d H => d = .v (.bool (accV x)) ∧ H = []) := by
  refine GCall.body (C := ⟨Tryd.prog, E, true⟩) Tryd.func24 rfl (fun _ => rfl) (by kernel_rfl) rfl ?_
  refine SCode.seqR ?_
  refine SOps.boxAM rfl rfl ?_
  refine SOps.assign rfl ?_
  refine SOps.nil ?_
  refine SCode.seqR ?_
  refine SOps.fieldPin rfl fieldB_28_2_2 ?_
  refine SOps.loadPin rfl flatB_26 ?_
  refine SOps.lenM rfl sliceB_26_39_1 ?_
  refine SOps.assign rfl ?_
  refine SOps.nil ?_
  refine SCode.seq ?_
  refine SCode.seqR ?_
  refine SOps.fact (isl_len (t := 7) rfl) (fun hB => ?_)
  simp only [List.length_map, lenB] at hB
  refine SOps.move rfl ?_
  refine SOps.bin rfl rfl rfl ?_
  refine SOps.move rfl ?_
  refine SOps.caseB 11 rfl (fun hb1 => ?_) (fun hb1 => ?_)
  · try simp only [decide_eq_true_eq, decide_eq_false_iff_not, Bool.not_eq_true', Bool.not_eq_false', beq_iff_eq, bne_iff_ne, ne_eq, beq_eq_false_iff_ne, bne_eq_false_iff_eq, Int.not_lt, Int.not_le, Nat.not_lt, Nat.not_le, Int.ofNat_lt, Int.ofNat_le, Bool.not_eq_eq_eq_not, Bool.not_true, Bool.not_false] at hb1
    refine SOps.skip rfl ?_
    refine SOps.skip rfl ?_
    refine SOps.pick rfl rfl ?_
    refine SOps.move rfl ?_
    refine SOps.skip rfl ?_
    refine SOps.skip rfl ?_
    refine SOps.skip rfl ?_
    refine SOps.skip rfl ?_
    refine SOps.skip rfl ?_
    refine SOps.pick rfl rfl ?_
    refine SOps.move rfl ?_
    refine SOps.skip rfl ?_
    refine SOps.skip rfl ?_
    refine SOps.skip rfl ?_
    refine SOps.pick rfl rfl ?_
    refine SOps.move rfl ?_
    refine SOps.skip rfl ?_
    refine SOps.skip rfl ?_
    refine SOps.skip rfl ?_
    refine SOps.skip rfl ?_
    refine SOps.pick rfl rfl ?_
    refine SOps.nil ?_
    refine SCode.cond rfl (fun _ => ?_) (fun h => by cases h)
    refine SCode.seqR ?_
    refine SOps.assign rfl ?_
    refine SOps.nil ?_
    refine SCode.ret ?_
    exact ⟨_, Res.one (.tmp rfl), congrArg (fun b => DV.v (.bool b)) (Eq.symm (Bool.eq_false_iff.2 (fun h => by obtain ⟨hh, hrows⟩ := accV_iff.1 h; have hho := headOK_iff.1 hh; omega))), rfl⟩
  · try simp only [decide_eq_true_eq, decide_eq_false_iff_not, Bool.not_eq_true', Bool.not_eq_false', beq_iff_eq, bne_iff_ne, ne_eq, beq_eq_false_iff_ne, bne_eq_false_iff_eq, Int.not_lt, Int.not_le, Nat.not_lt, Nat.not_le, Int.ofNat_lt, Int.ofNat_le, Bool.not_eq_eq_eq_not, Bool.not_true, Bool.not_false] at hb1
    refine SOps.move rfl ?_
    refine SOps.bin rfl rfl rfl ?_
    refine SOps.pick rfl rfl ?_
    refine SOps.move rfl ?_
    refine SOps.caseB 15 rfl (fun hb2 => ?_) (fun hb2 => ?_)
    · try simp only [decide_eq_true_eq, decide_eq_false_iff_not, Bool.not_eq_true', Bool.not_eq_false', beq_iff_eq, bne_iff_ne, ne_eq, beq_eq_false_iff_ne, bne_eq_false_iff_eq, Int.not_lt, Int.not_le, Nat.not_lt, Nat.not_le, Int.ofNat_lt, Int.ofNat_le, Bool.not_eq_eq_eq_not, Bool.not_true, Bool.not_false] at hb2
      refine SOps.skip rfl ?_
      refine SOps.skip rfl ?_
      refine SOps.skip rfl ?_
      refine SOps.skip rfl ?_
      refine SOps.skip rfl ?_
      refine SOps.pick rfl rfl ?_
      refine SOps.move rfl ?_
      refine SOps.skip rfl ?_
      refine SOps.skip rfl ?_
      refine SOps.skip rfl ?_
      refine SOps.pick rfl rfl ?_
      refine SOps.move rfl ?_
      refine SOps.skip rfl ?_
      refine SOps.skip rfl ?_
      refine SOps.skip rfl ?_
      refine SOps.skip rfl ?_
      refine SOps.pick rfl rfl ?_
      refine SOps.nil ?_
      refine SCode.cond rfl (fun _ => ?_) (fun h => by cases h)
      refine SCode.seqR ?_
      refine SOps.assign rfl ?_
      refine SOps.nil ?_
      refine SCode.ret ?_
      exact ⟨_, Res.one (.tmp rfl), congrArg (fun b => DV.v (.bool b)) (Eq.symm (Bool.eq_false_iff.2 (fun h => by obtain ⟨hh, hrows⟩ := accV_iff.1 h; have hho := headOK_iff.1 hh; omega))), rfl⟩
    · try simp only [decide_eq_true_eq, decide_eq_false_iff_not, Bool.not_eq_true', Bool.not_eq_false', beq_iff_eq, bne_iff_ne, ne_eq, beq_eq_false_iff_ne, bne_eq_false_iff_eq, Int.not_lt, Int.not_le, Nat.not_lt, Nat.not_le, Int.ofNat_lt, Int.ofNat_le, Bool.not_eq_eq_eq_not, Bool.not_true, Bool.not_false] at hb2
      refine SOps.fieldPin rfl fieldB_28_1_1 ?_
      refine SOps.loadPin rfl flatB_25 ?_
      refine SOps.lenM rfl sliceB_25_4_1 ?_
      refine SOps.move rfl ?_
      refine SOps.bin rfl rfl rfl ?_
      refine SOps.pick rfl rfl ?_
      refine SOps.move rfl ?_
      refine SOps.caseB 22 rfl (fun hb3 => ?_) (fun hb3 => ?_)
      · try simp only [decide_eq_true_eq, decide_eq_false_iff_not, Bool.not_eq_true', Bool.not_eq_false', beq_iff_eq, bne_iff_ne, ne_eq, beq_eq_false_iff_ne, bne_eq_false_iff_eq, Int.not_lt, Int.not_le, Nat.not_lt, Nat.not_le, Int.ofNat_lt, Int.ofNat_le, Bool.not_eq_eq_eq_not, Bool.not_true, Bool.not_false] at hb3
        refine SOps.skip rfl ?_
        refine SOps.skip rfl ?_
        refine SOps.skip rfl ?_
        refine SOps.pick rfl rfl ?_
        refine SOps.move rfl ?_
        refine SOps.skip rfl ?_
        refine SOps.skip rfl ?_
        refine SOps.skip rfl ?_
        refine SOps.skip rfl ?_
        refine SOps.pick rfl rfl ?_
        refine SOps.nil ?_
        refine SCode.cond rfl (fun _ => ?_) (fun h => by cases h)
        refine SCode.seqR ?_
        refine SOps.assign rfl ?_
        refine SOps.nil ?_
        refine SCode.ret ?_
        exact ⟨_, Res.one (.tmp rfl), congrArg (fun b => DV.v (.bool b)) (Eq.symm (Bool.eq_false_iff.2 (fun h => by obtain ⟨hh, hrows⟩ := accV_iff.1 h; have hho := headOK_iff.1 hh; omega))), rfl⟩
      · try simp only [decide_eq_true_eq, decide_eq_false_iff_not, Bool.not_eq_true', Bool.not_eq_false', beq_iff_eq, bne_iff_ne, ne_eq, beq_eq_false_iff_ne, bne_eq_false_iff_eq, Int.not_lt, Int.not_le, Nat.not_lt, Nat.not_le, Int.ofNat_lt, Int.ofNat_le, Bool.not_eq_eq_eq_not, Bool.not_true, Bool.not_false] at hb3
        refine SOps.fieldPin rfl fieldB_28_0_0 ?_
        refine SOps.loadPin rfl flatB_3 ?_
        refine SOps.bin rfl rfl rfl ?_
        refine SOps.pick rfl rfl ?_
        refine SOps.move rfl ?_
        refine SOps.caseB 27 rfl (fun hb4 => ?_) (fun hb4 => ?_)
        · try simp only [decide_eq_true_eq, decide_eq_false_iff_not, Bool.not_eq_true', Bool.not_eq_false', beq_iff_eq, bne_iff_ne, ne_eq, beq_eq_false_iff_ne, bne_eq_false_iff_eq, Int.not_lt, Int.not_le, Nat.not_lt, Nat.not_le, Int.ofNat_lt, Int.ofNat_le, Bool.not_eq_eq_eq_not, Bool.not_true, Bool.not_false] at hb4
          refine SOps.skip rfl ?_
          refine SOps.skip rfl ?_
          refine SOps.skip rfl ?_
          refine SOps.skip rfl ?_
          refine SOps.pick rfl rfl ?_
          refine SOps.nil ?_
          refine SCode.cond rfl (fun _ => ?_) (fun h => by cases h)
          refine SCode.seqR ?_
          refine SOps.assign rfl ?_
          refine SOps.nil ?_
          refine SCode.ret ?_
          exact ⟨_, Res.one (.tmp rfl), congrArg (fun b => DV.v (.bool b)) (Eq.symm (Bool.eq_false_iff.2 (fun h => by obtain ⟨hh, hrows⟩ := accV_iff.1 h; have hho := headOK_iff.1 hh; omega))), rfl⟩
        · try simp only [decide_eq_true_eq, decide_eq_false_iff_not, Bool.not_eq_true', Bool.not_eq_false', beq_iff_eq, bne_iff_ne, ne_eq, beq_eq_false_iff_ne, bne_eq_false_iff_eq, Int.not_lt, Int.not_le, Nat.not_lt, Nat.not_le, Int.ofNat_lt, Int.ofNat_le, Bool.not_eq_eq_eq_not, Bool.not_true, Bool.not_false] at hb4
          refine SOps.fieldPin rfl fieldB_28_0_0 ?_
          refine SOps.loadPin rfl flatB_3 ?_
          refine SOps.move rfl ?_
          refine SOps.bin rfl rfl rfl ?_
          refine SOps.pick rfl rfl ?_
          refine SOps.nil ?_
          refine SCode.cond rfl (fun hc5 => ?_) (fun hc5 => ?_)
          · try simp only [decide_eq_true_eq, decide_eq_false_iff_not, Bool.not_eq_true', Bool.not_eq_false', beq_iff_eq, bne_iff_ne, ne_eq, beq_eq_false_iff_ne, bne_eq_false_iff_eq, Int.not_lt, Int.not_le, Nat.not_lt, Nat.not_le, Int.ofNat_lt, Int.ofNat_le, Bool.not_eq_eq_eq_not, Bool.not_true, Bool.not_false] at hc5
            refine SCode.seqR ?_
            refine SOps.assign rfl ?_
            refine SOps.nil ?_
            refine SCode.ret ?_
            exact ⟨_, Res.one (.tmp rfl), congrArg (fun b => DV.v (.bool b)) (Eq.symm (Bool.eq_false_iff.2 (fun h => by obtain ⟨hh, hrows⟩ := accV_iff.1 h; have hho := headOK_iff.1 hh; omega))), rfl⟩
          · try simp only [decide_eq_true_eq, decide_eq_false_iff_not, Bool.not_eq_true', Bool.not_eq_false', beq_iff_eq, bne_iff_ne, ne_eq, beq_eq_false_iff_ne, bne_eq_false_iff_eq, Int.not_lt, Int.not_le, Nat.not_lt, Nat.not_le, Int.ofNat_lt, Int.ofNat_le, Bool.not_eq_eq_eq_not, Bool.not_true, Bool.not_false] at hc5
            refine SCode.skip ?_
            show SCode _ _ _ _
            refine SCode.seq ?_
            refine SCode.seqR ?_
            have hh : headOK x = true := headOK_iff.2 ⟨by omega, by omega, by omega, by omega, by omega⟩
            have hx0 : 0 < x.nxt.length := by omega
            have hw0 := widthA_at hx0
            refine SOps.assign rfl ?_
            refine SOps.nil ?_
            refine SCode.block ?_
            refine SCode.loop1 (fun (i : Nat) => (⟨90, [(1, .ipin (encAcc x)), (3, .v (.int .i64 ((x.nxt.length : Nat) : Int))), (4, .v (.int .i64 (i : Int)))], []⟩ : St)) (fun (i : Nat) => i ≤ x.nxt.length ∧ ∀ (k : Nat) (h : k < x.nxt.length), k < i → (x.nxt[k]).length = widthA x ∧ (x.nxt[k]).length ≤ 65 ∧ ∀ t ∈ x.nxt[k], 0 ≤ t ∧ t < x.nxt.length) (fun (i : Nat) => x.nxt.length - i) (0) (by exact ⟨Nat.zero_le _, fun k h h2 => absurd h2 (Nat.not_lt_zero _)⟩) (St.Le.of ⟨(by first | rfl | (show some _ = some _; simp)), (by first | rfl | (show some _ = some _; simp)), (by first | rfl | (show some _ = some _; simp)), trivial⟩ rfl (by first | rfl | (simp))) ?_
            rintro i ⟨hi, hf⟩
            refine SCode.seq ?_
            refine SCode.seqR ?_
            refine SOps.move rfl ?_
            refine SOps.move rfl ?_
            refine SOps.bin rfl rfl rfl ?_
            refine SOps.nil ?_
            refine SCode.cond rfl (fun hc6 => ?_) (fun hc6 => ?_)
            · try simp only [decide_eq_true_eq, decide_eq_false_iff_not, Bool.not_eq_true', Bool.not_eq_false', beq_iff_eq, bne_iff_ne, ne_eq, beq_eq_false_iff_ne, bne_eq_false_iff_eq, Int.not_lt, Int.not_le, Nat.not_lt, Nat.not_le, Int.ofNat_lt, Int.ofNat_le, Bool.not_eq_eq_eq_not, Bool.not_true, Bool.not_false] at hc6
              refine SCode.skip ?_
              show SCode _ _ _ _
              refine SCode.seq ?_
              refine SCode.block ?_
              refine SCode.seq ?_
              refine SCode.seq ?_
              have hix : i < x.nxt.length := by omega
              rcases (show ¬ (x.nxt[i]).length = (x.nxt[0]).length ∨ (x.nxt[i]).length = (x.nxt[0]).length from (Classical.em _).symm) with hq | hq
              · apply SCode.drawAuto mixed_ [38, 39, 40, 41, 42, 43, 44, 45, 46, 47, 48, 49, 50, 51, 52, 53, 54, 55, 56, 57, 58] [[.inr 1], [.inl 0], [.inr 4], [.inl 1, .inl 2], [.inl 3], [.inl 4], [.inr 1], [.inl 6], [.inl 7], [.inl 8], [.inl 9], [.inl 5, .inl 10], [.inl 11], [.inl 12], [.inl 12], [.inl 12], [.inl 12], [.inl 12], [.inl 12], [.inl 12], [.inl 12, .inl 19]]
                · kernel_rfl
                · kernel_rfl
                · apply DOk.cons 38 
                  · rfl
                  · exact (NeedIs.inr _ rfl NeedIs.nil)
                  · intro rest
                    refine SOps.fieldPin rfl fieldB_28_2_2 ?_
                    exact SOps.nil rfl
                  apply DOk.cons 39 
                  · rfl
                  · exact (NeedIs.inl 0 _ _ rfl rfl NeedIs.nil)
                  · intro rest
                    refine SOps.loadPin rfl flatB_26 ?_
                    exact SOps.nil rfl
                  apply DOk.cons 40 
                  · rfl
                  · exact (NeedIs.inr _ rfl NeedIs.nil)
                  · intro rest
                    refine SOps.move rfl ?_
                    exact SOps.nil rfl
                  apply DOk.cons 41 
                  · rfl
                  · exact (NeedIs.inl 1 _ _ rfl rfl (NeedIs.inl 0 _ _ rfl rfl NeedIs.nil))
                  · intro rest
                    refine SOps.indexM (i) rfl rfl sliceB_26_39_1 (by first | omega | (simp only [lenB]; omega)) (by first | omega | (simp only [lenB]; omega)) ?_
                    exact SOps.nil rfl
                  apply DOk.cons 42 
                  · rfl
                  · exact (NeedIs.inl 0 _ _ rfl rfl NeedIs.nil)
                  · intro rest
                    refine SOps.loadPin rfl flatB_39 ?_
                    exact SOps.nil rfl
                  apply DOk.cons 43 
                  · rfl
                  · exact (NeedIs.inl 0 _ _ rfl rfl NeedIs.nil)
                  · intro rest
                    refine SOps.lenM rfl sliceB_39_3_1 ?_
                    exact SOps.nil rfl
                  apply DOk.cons 44 
                  · rfl
                  · exact (NeedIs.inr _ rfl NeedIs.nil)
                  · intro rest
                    refine SOps.fieldPin rfl fieldB_28_2_2 ?_
                    exact SOps.nil rfl
                  apply DOk.cons 45 
                  · rfl
                  · exact (NeedIs.inl 0 _ _ rfl rfl NeedIs.nil)
                  · intro rest
                    refine SOps.loadPin rfl flatB_26 ?_
                    exact SOps.nil rfl
                  apply DOk.cons 46 
                  · rfl
                  · exact (NeedIs.inl 0 _ _ rfl rfl NeedIs.nil)
                  · intro rest
                    refine SOps.indexM (0) rfl rfl sliceB_26_39_1 (by first | omega | (simp only [lenB]; omega)) (by first | omega | (simp only [lenB]; omega)) ?_
                    exact SOps.nil rfl
                  apply DOk.cons 47 
                  · rfl
                  · exact (NeedIs.inl 0 _ _ rfl rfl NeedIs.nil)
                  · intro rest
                    refine SOps.loadPin rfl flatB_39 ?_
                    exact SOps.nil rfl
                  apply DOk.cons 48 
                  · rfl
                  · exact (NeedIs.inl 0 _ _ rfl rfl NeedIs.nil)
                  · intro rest
                    refine SOps.lenM rfl sliceB_39_3_1 ?_
                    exact SOps.nil rfl
                  apply DOk.cons 49 (.v (.bool true))
                  · rfl
                  · exact (NeedIs.inl 5 _ _ rfl rfl (NeedIs.inl 0 _ _ rfl rfl NeedIs.nil))
                  · intro rest
                    refine SOps.bin rfl rfl rfl ?_
                    exact SOps.nil (congrArg (fun b => St.put _ 49 (.v (.bool b))) (bne_iff_ne.2 (by omega)))
                  apply DOk.cons 50 
                  · rfl
                  · exact (NeedIs.inl 0 _ _ rfl rfl NeedIs.nil)
                  · intro rest
                    refine SOps.move rfl ?_
                    exact SOps.nil rfl
                  apply DOk.cons 51 
                  · rfl
                  · exact (NeedIs.inl 0 _ _ rfl rfl NeedIs.nil)
                  · intro rest
                    refine SOps.skip rfl ?_
                    exact SOps.nil rfl
                  apply DOk.cons 52 
                  · rfl
                  · exact (NeedIs.inl 1 _ _ rfl rfl NeedIs.nil)
                  · intro rest
                    refine SOps.skip rfl ?_
                    exact SOps.nil rfl
                  apply DOk.cons 53 
                  · rfl
                  · exact (NeedIs.inl 2 _ _ rfl rfl NeedIs.nil)
                  · intro rest
                    refine SOps.skip rfl ?_
                    exact SOps.nil rfl
                  apply DOk.cons 54 
                  · rfl
                  · exact (NeedIs.inl 3 _ _ rfl rfl NeedIs.nil)
                  · intro rest
                    refine SOps.skip rfl ?_
                    exact SOps.nil rfl
                  apply DOk.cons 55 
                  · rfl
                  · exact (NeedIs.inl 4 _ _ rfl rfl NeedIs.nil)
                  · intro rest
                    refine SOps.skip rfl ?_
                    exact SOps.nil rfl
                  apply DOk.cons 56 
                  · rfl
                  · exact (NeedIs.inl 5 _ _ rfl rfl NeedIs.nil)
                  · intro rest
                    refine SOps.skip rfl ?_
                    exact SOps.nil rfl
                  apply DOk.cons 57 
                  · rfl
                  · exact (NeedIs.inl 6 _ _ rfl rfl NeedIs.nil)
                  · intro rest
                    refine SOps.skip rfl ?_
                    exact SOps.nil rfl
                  apply DOk.cons 58 
                  · rfl
                  · exact (NeedIs.inl 7 _ _ rfl rfl (NeedIs.inl 0 _ _ rfl rfl NeedIs.nil))
                  · intro rest
                    refine SOps.pick rfl rfl ?_
                    exact SOps.nil rfl
                  exact DOk.nil
                · rfl
                · show SCode _ _ _ _
                  refine SCode.cond rfl (fun _ => ?_) (fun h => by cases h)
                  refine SCode.seqR ?_
                  refine SOps.assign rfl ?_
                  refine SOps.nil ?_
                  refine SCode.ret ?_
                  exact ⟨_, Res.one (.tmp rfl), congrArg (fun b => DV.v (.bool b)) (Eq.symm (Bool.eq_false_iff.2 (fun h => by obtain ⟨hh, hrows⟩ := accV_iff.1 h; have hho := headOK_iff.1 hh; have h9 := hrows i hix; omega))), rfl⟩
              · apply SCode.drawAuto mixed_ [38, 39, 40, 41, 42, 43, 44, 45, 46, 47, 48, 49, 50, 51, 52, 53, 54, 55, 56, 57, 58] [[.inr 1], [.inl 0], [.inr 4], [.inl 1, .inl 2], [.inl 3], [.inl 4], [.inr 1], [.inl 6], [.inl 7], [.inl 8], [.inl 9], [.inl 5, .inl 10], [.inl 11], [.inl 12, .inr 1], [.inl 12, .inl 13], [.inl 12, .inr 4], [.inl 12, .inl 14, .inl 15], [.inl 12, .inl 16], [.inl 12, .inl 17], [.inl 12, .inl 18], [.inl 12, .inl 19]]
                · kernel_rfl
                · kernel_rfl
                · apply DOk.cons 38 
                  · rfl
                  · exact (NeedIs.inr _ rfl NeedIs.nil)
                  · intro rest
                    refine SOps.fieldPin rfl fieldB_28_2_2 ?_
                    exact SOps.nil rfl
                  apply DOk.cons 39 
                  · rfl
                  · exact (NeedIs.inl 0 _ _ rfl rfl NeedIs.nil)
                  · intro rest
                    refine SOps.loadPin rfl flatB_26 ?_
                    exact SOps.nil rfl
                  apply DOk.cons 40 
                  · rfl
                  · exact (NeedIs.inr _ rfl NeedIs.nil)
                  · intro rest
                    refine SOps.move rfl ?_
                    exact SOps.nil rfl
                  apply DOk.cons 41 
                  · rfl
                  · exact (NeedIs.inl 1 _ _ rfl rfl (NeedIs.inl 0 _ _ rfl rfl NeedIs.nil))
                  · intro rest
                    refine SOps.indexM (i) rfl rfl sliceB_26_39_1 (by first | omega | (simp only [lenB]; omega)) (by first | omega | (simp only [lenB]; omega)) ?_
                    exact SOps.nil rfl
                  apply DOk.cons 42 
                  · rfl
                  · exact (NeedIs.inl 0 _ _ rfl rfl NeedIs.nil)
                  · intro rest
                    refine SOps.loadPin rfl flatB_39 ?_
                    exact SOps.nil rfl
                  apply DOk.cons 43 
                  · rfl
                  · exact (NeedIs.inl 0 _ _ rfl rfl NeedIs.nil)
                  · intro rest
                    refine SOps.lenM rfl sliceB_39_3_1 ?_
                    exact SOps.nil rfl
                  apply DOk.cons 44 
                  · rfl
                  · exact (NeedIs.inr _ rfl NeedIs.nil)
                  · intro rest
                    refine SOps.fieldPin rfl fieldB_28_2_2 ?_
                    exact SOps.nil rfl
                  apply DOk.cons 45 
                  · rfl
                  · exact (NeedIs.inl 0 _ _ rfl rfl NeedIs.nil)
                  · intro rest
                    refine SOps.loadPin rfl flatB_26 ?_
                    exact SOps.nil rfl
                  apply DOk.cons 46 
                  · rfl
                  · exact (NeedIs.inl 0 _ _ rfl rfl NeedIs.nil)
                  · intro rest
                    refine SOps.indexM (0) rfl rfl sliceB_26_39_1 (by first | omega | (simp only [lenB]; omega)) (by first | omega | (simp only [lenB]; omega)) ?_
                    exact SOps.nil rfl
                  apply DOk.cons 47 
                  · rfl
                  · exact (NeedIs.inl 0 _ _ rfl rfl NeedIs.nil)
                  · intro rest
                    refine SOps.loadPin rfl flatB_39 ?_
                    exact SOps.nil rfl
                  apply DOk.cons 48 
                  · rfl
                  · exact (NeedIs.inl 0 _ _ rfl rfl NeedIs.nil)
                  · intro rest
                    refine SOps.lenM rfl sliceB_39_3_1 ?_
                    exact SOps.nil rfl
                  apply DOk.cons 49 (.v (.bool false))
                  · rfl
                  · exact (NeedIs.inl 5 _ _ rfl rfl (NeedIs.inl 0 _ _ rfl rfl NeedIs.nil))
                  · intro rest
                    refine SOps.bin rfl rfl rfl ?_
                    exact SOps.nil (congrArg (fun b => St.put _ 49 (.v (.bool b))) (bne_eq_false_iff_eq.2 (by omega)))
                  apply DOk.cons 50 
                  · rfl
                  · exact (NeedIs.inl 0 _ _ rfl rfl NeedIs.nil)
                  · intro rest
                    refine SOps.move rfl ?_
                    exact SOps.nil rfl
                  apply DOk.cons 51 
                  · rfl
                  · exact (NeedIs.inl 0 _ _ rfl rfl (NeedIs.inr _ rfl NeedIs.nil))
                  · intro rest
                    refine SOps.fieldPin rfl fieldB_28_2_2 ?_
                    exact SOps.nil rfl
                  apply DOk.cons 52 
                  · rfl
                  · exact (NeedIs.inl 1 _ _ rfl rfl (NeedIs.inl 0 _ _ rfl rfl NeedIs.nil))
                  · intro rest
                    refine SOps.loadPin rfl flatB_26 ?_
                    exact SOps.nil rfl
                  apply DOk.cons 53 
                  · rfl
                  · exact (NeedIs.inl 2 _ _ rfl rfl (NeedIs.inr _ rfl NeedIs.nil))
                  · intro rest
                    refine SOps.move rfl ?_
                    exact SOps.nil rfl
                  apply DOk.cons 54 
                  · rfl
                  · exact (NeedIs.inl 3 _ _ rfl rfl (NeedIs.inl 1 _ _ rfl rfl (NeedIs.inl 0 _ _ rfl rfl NeedIs.nil)))
                  · intro rest
                    refine SOps.indexM (i) rfl rfl sliceB_26_39_1 (by first | omega | (simp only [lenB]; omega)) (by first | omega | (simp only [lenB]; omega)) ?_
                    exact SOps.nil rfl
                  apply DOk.cons 55 
                  · rfl
                  · exact (NeedIs.inl 4 _ _ rfl rfl (NeedIs.inl 0 _ _ rfl rfl NeedIs.nil))
                  · intro rest
                    refine SOps.loadPin rfl flatB_39 ?_
                    exact SOps.nil rfl
                  apply DOk.cons 56 
                  · rfl
                  · exact (NeedIs.inl 5 _ _ rfl rfl (NeedIs.inl 0 _ _ rfl rfl NeedIs.nil))
                  · intro rest
                    refine SOps.lenM rfl sliceB_39_3_1 ?_
                    exact SOps.nil rfl
                  apply DOk.cons 57 
                  · rfl
                  · exact (NeedIs.inl 6 _ _ rfl rfl (NeedIs.inl 0 _ _ rfl rfl NeedIs.nil))
                  · intro rest
                    refine SOps.bin rfl rfl rfl ?_
                    exact SOps.nil rfl
                  apply DOk.cons 58 
                  · rfl
                  · exact (NeedIs.inl 7 _ _ rfl rfl (NeedIs.inl 0 _ _ rfl rfl NeedIs.nil))
                  · intro rest
                    refine SOps.pick rfl rfl ?_
                    exact SOps.nil rfl
                  exact DOk.nil
                · rfl
                · show SCode _ _ _ _
                  refine SCode.cond rfl (fun hc7 => ?_) (fun hc7 => ?_)
                  · try simp only [decide_eq_true_eq, decide_eq_false_iff_not, Bool.not_eq_true', Bool.not_eq_false', beq_iff_eq, bne_iff_ne, ne_eq, beq_eq_false_iff_ne, bne_eq_false_iff_eq, Int.not_lt, Int.not_le, Nat.not_lt, Nat.not_le, Int.ofNat_lt, Int.ofNat_le, Bool.not_eq_eq_eq_not, Bool.not_true, Bool.not_false] at hc7
                    refine SCode.seqR ?_
                    refine SOps.assign rfl ?_
                    refine SOps.nil ?_
                    refine SCode.ret ?_
                    exact ⟨_, Res.one (.tmp rfl), congrArg (fun b => DV.v (.bool b)) (Eq.symm (Bool.eq_false_iff.2 (fun h => by obtain ⟨hh, hrows⟩ := accV_iff.1 h; have hho := headOK_iff.1 hh; have h9 := hrows i hix; omega))), rfl⟩
                  · try simp only [decide_eq_true_eq, decide_eq_false_iff_not, Bool.not_eq_true', Bool.not_eq_false', beq_iff_eq, bne_iff_ne, ne_eq, beq_eq_false_iff_ne, bne_eq_false_iff_eq, Int.not_lt, Int.not_le, Nat.not_lt, Nat.not_le, Int.ofNat_lt, Int.ofNat_le, Bool.not_eq_eq_eq_not, Bool.not_true, Bool.not_false] at hc7
                    refine SCode.skip ?_
                    show SCode _ _ _ _
                    refine SCode.seqR ?_
                    refine SOps.assign rfl ?_
                    refine SOps.nil ?_
                    refine SCode.block ?_
                    refine SCode.loop1 (fun (j : Nat) => (⟨90, [(1, .ipin (encAcc x)), (3, .v (.int .i64 ((x.nxt.length : Nat) : Int))), (4, .v (.int .i64 (i : Int))), (5, .v (.int .i64 (j : Int)))], []⟩ : St)) (fun (j : Nat) => j ≤ (x.nxt[i]).length ∧ ∀ t ∈ (x.nxt[i]).take j, 0 ≤ t ∧ t < x.nxt.length) (fun (j : Nat) => (x.nxt[i]).length - j) (0) (by simp) (St.Le.of ⟨(by first | rfl | (show some _ = some _; simp)), (by first | rfl | (show some _ = some _; simp)), (by first | rfl | (show some _ = some _; simp)), (by first | rfl | (show some _ = some _; simp)), trivial⟩ rfl (by first | rfl | (simp))) ?_
                    rintro j ⟨hj, hg⟩
                    refine SCode.seq ?_
                    refine SCode.seqR ?_
                    refine SOps.move rfl ?_
                    refine SOps.fieldPin rfl fieldB_28_2_2 ?_
                    refine SOps.loadPin rfl flatB_26 ?_
                    refine SOps.move rfl ?_
                    refine SOps.indexM (i) rfl rfl sliceB_26_39_1 (by first | omega | (simp only [lenB]; omega)) (by first | omega | (simp only [lenB]; omega)) ?_
                    refine SOps.loadPin rfl flatB_39 ?_
                    refine SOps.lenM rfl sliceB_39_3_1 ?_
                    refine SOps.bin rfl rfl rfl ?_
                    refine SOps.nil ?_
                    refine SCode.cond rfl (fun hc8 => ?_) (fun hc8 => ?_)
                    · try simp only [decide_eq_true_eq, decide_eq_false_iff_not, Bool.not_eq_true', Bool.not_eq_false', beq_iff_eq, bne_iff_ne, ne_eq, beq_eq_false_iff_ne, bne_eq_false_iff_eq, Int.not_lt, Int.not_le, Nat.not_lt, Nat.not_le, Int.ofNat_lt, Int.ofNat_le, Bool.not_eq_eq_eq_not, Bool.not_true, Bool.not_false] at hc8
                      refine SCode.skip ?_
                      show SCode _ _ _ _
                      refine SCode.seq ?_
                      refine SCode.block ?_
                      refine SCode.seqR ?_
                      have hjx : j < (x.nxt[i]).length := by omega
                      refine SOps.fieldPin rfl fieldB_28_2_2 ?_
                      refine SOps.loadPin rfl flatB_26 ?_
                      refine SOps.move rfl ?_
                      refine SOps.indexM (i) rfl rfl sliceB_26_39_1 (by first | omega | (simp only [lenB]; omega)) (by first | omega | (simp only [lenB]; omega)) ?_
                      refine SOps.loadPin rfl flatB_39 ?_
                      refine SOps.move rfl ?_
                      refine SOps.indexM (j) rfl rfl sliceB_39_3_1 (by first | omega | (simp only [lenB]; omega)) (by first | omega | (simp only [lenB]; omega)) ?_
                      refine SOps.loadPin rfl flatB_3 ?_
                      refine SOps.bin rfl rfl rfl ?_
                      refine SOps.move rfl ?_
                      refine SOps.caseB 78 rfl (fun hb9 => ?_) (fun hb9 => ?_)
                      · try simp only [decide_eq_true_eq, decide_eq_false_iff_not, Bool.not_eq_true', Bool.not_eq_false', beq_iff_eq, bne_iff_ne, ne_eq, beq_eq_false_iff_ne, bne_eq_false_iff_eq, Int.not_lt, Int.not_le, Nat.not_lt, Nat.not_le, Int.ofNat_lt, Int.ofNat_le, Bool.not_eq_eq_eq_not, Bool.not_true, Bool.not_false] at hb9
                        refine SOps.skip rfl ?_
                        refine SOps.skip rfl ?_
                        refine SOps.skip rfl ?_
                        refine SOps.skip rfl ?_
                        refine SOps.skip rfl ?_
                        refine SOps.skip rfl ?_
                        refine SOps.skip rfl ?_
                        refine SOps.skip rfl ?_
                        refine SOps.skip rfl ?_
                        refine SOps.skip rfl ?_
                        refine SOps.pick rfl rfl ?_
                        refine SOps.nil ?_
                        refine SCode.cond rfl (fun _ => ?_) (fun h => by cases h)
                        refine SCode.seqR ?_
                        refine SOps.assign rfl ?_
                        refine SOps.nil ?_
                        refine SCode.ret ?_
                        exact ⟨_, Res.one (.tmp rfl), congrArg (fun b => DV.v (.bool b)) (Eq.symm (Bool.eq_false_iff.2 (fun h => by obtain ⟨hh, hrows⟩ := accV_iff.1 h; have hho := headOK_iff.1 hh; have h9 := (hrows i hix).2.2 _ (List.getElem_mem hjx); omega))), rfl⟩
                      · try simp only [decide_eq_true_eq, decide_eq_false_iff_not, Bool.not_eq_true', Bool.not_eq_false', beq_iff_eq, bne_iff_ne, ne_eq, beq_eq_false_iff_ne, bne_eq_false_iff_eq, Int.not_lt, Int.not_le, Nat.not_lt, Nat.not_le, Int.ofNat_lt, Int.ofNat_le, Bool.not_eq_eq_eq_not, Bool.not_true, Bool.not_false] at hb9
                        refine SOps.fieldPin rfl fieldB_28_2_2 ?_
                        refine SOps.loadPin rfl flatB_26 ?_
                        refine SOps.move rfl ?_
                        refine SOps.indexM (i) rfl rfl sliceB_26_39_1 (by first | omega | (simp only [lenB]; omega)) (by first | omega | (simp only [lenB]; omega)) ?_
                        refine SOps.loadPin rfl flatB_39 ?_
                        refine SOps.move rfl ?_
                        refine SOps.indexM (j) rfl rfl sliceB_39_3_1 (by first | omega | (simp only [lenB]; omega)) (by first | omega | (simp only [lenB]; omega)) ?_
                        refine SOps.loadPin rfl flatB_3 ?_
                        refine SOps.move rfl ?_
                        refine SOps.bin rfl rfl rfl ?_
                        refine SOps.pick rfl rfl ?_
                        refine SOps.nil ?_
                        refine SCode.cond rfl (fun hc10 => ?_) (fun hc10 => ?_)
                        · try simp only [decide_eq_true_eq, decide_eq_false_iff_not, Bool.not_eq_true', Bool.not_eq_false', beq_iff_eq, bne_iff_ne, ne_eq, beq_eq_false_iff_ne, bne_eq_false_iff_eq, Int.not_lt, Int.not_le, Nat.not_lt, Nat.not_le, Int.ofNat_lt, Int.ofNat_le, Bool.not_eq_eq_eq_not, Bool.not_true, Bool.not_false] at hc10
                          refine SCode.seqR ?_
                          refine SOps.assign rfl ?_
                          refine SOps.nil ?_
                          refine SCode.ret ?_
                          exact ⟨_, Res.one (.tmp rfl), congrArg (fun b => DV.v (.bool b)) (Eq.symm (Bool.eq_false_iff.2 (fun h => by obtain ⟨hh, hrows⟩ := accV_iff.1 h; have hho := headOK_iff.1 hh; have h9 := (hrows i hix).2.2 _ (List.getElem_mem hjx); omega))), rfl⟩
                        · try simp only [decide_eq_true_eq, decide_eq_false_iff_not, Bool.not_eq_true', Bool.not_eq_false', beq_iff_eq, bne_iff_ne, ne_eq, beq_eq_false_iff_ne, bne_eq_false_iff_eq, Int.not_lt, Int.not_le, Nat.not_lt, Nat.not_le, Int.ofNat_lt, Int.ofNat_le, Bool.not_eq_eq_eq_not, Bool.not_true, Bool.not_false] at hc10
                          refine SCode.skip ?_
                          show SCode _ _ _ _
                          refine SCode.region ?_
                          refine SOps.move rfl ?_
                          refine SOps.addI rfl rfl (by first | omega | (simp only [lenB]; omega)) (by first | omega | (simp only [lenB]; omega)) ?_
                          refine SOps.assign rfl ?_
                          refine SOps.nil ?_
                          exact ⟨j + 1, by exact ⟨by omega, take_more hg hjx ⟨by omega, by omega⟩⟩, by omega, (St.Le.of ⟨(by first | rfl | (show some _ = some _; simp)), (by first | rfl | (show some _ = some _; simp)), (by first | rfl | (show some _ = some _; simp)), (by first | rfl | (show some _ = some _; simp)), trivial⟩ rfl (by first | rfl | (simp)))⟩
                    · try simp only [decide_eq_true_eq, decide_eq_false_iff_not, Bool.not_eq_true', Bool.not_eq_false', beq_iff_eq, bne_iff_ne, ne_eq, beq_eq_false_iff_ne, bne_eq_false_iff_eq, Int.not_lt, Int.not_le, Nat.not_lt, Nat.not_le, Int.ofNat_lt, Int.ofNat_le, Bool.not_eq_eq_eq_not, Bool.not_true, Bool.not_false] at hc8
                      refine SCode.exit ?_
                      show SCode _ _ _ _
                      refine SCode.region ?_
                      refine SOps.move rfl ?_
                      refine SOps.addI rfl rfl (by first | omega | (simp only [lenB]; omega)) (by first | omega | (simp only [lenB]; omega)) ?_
                      refine SOps.assign rfl ?_
                      refine SOps.nil ?_
                      exact ⟨i + 1, by exact ⟨by omega, fun k h hk => by rcases Nat.lt_or_ge k i with h2 | h2; exact hf k h h2; obtain rfl : k = i := (by omega); exact ⟨by omega, by omega, all_of (by omega) hg⟩⟩, by omega, (St.Le.of ⟨(by first | rfl | (show some _ = some _; simp)), (by first | rfl | (show some _ = some _; simp)), (by first | rfl | (show some _ = some _; simp)), trivial⟩ rfl (by first | rfl | (simp)))⟩
            · try simp only [decide_eq_true_eq, decide_eq_false_iff_not, Bool.not_eq_true', Bool.not_eq_false', beq_iff_eq, bne_iff_ne, ne_eq, beq_eq_false_iff_ne, bne_eq_false_iff_eq, Int.not_lt, Int.not_le, Nat.not_lt, Nat.not_le, Int.ofNat_lt, Int.ofNat_le, Bool.not_eq_eq_eq_not, Bool.not_true, Bool.not_false] at hc6
              refine SCode.exit ?_
              show SCode _ _ _ _
              refine SCode.seqR ?_
              refine SOps.assign rfl ?_
              refine SOps.nil ?_
              refine SCode.ret ?_
              exact ⟨_, Res.one (.tmp rfl), congrArg (fun b => DV.v (.bool b)) (Eq.symm (accV_iff.2 ⟨hh, fun k h => hf k h (by omega)⟩)), rfl⟩
theorem qAccepts (x : Acc) (w : List Nat) (hx : accOK x = true) (hw : ∀ c ∈ w, c < widthA x) : GCall Tryd.prog E 25 [.agg (encAcc x), DNats w] [] (fun d H => d = .v (.bool (finA x (runA x x.start w))) ∧ H = []) := by
  refine GCall.body (C := ⟨Tryd.prog, E, true⟩) Tryd.func25 rfl (fun _ => rfl) (by kernel_rfl) rfl ?_
  refine SCode.seqR ?_
  refine SOps.boxAM rfl rfl ?_
  refine SOps.assign rfl ?_
  refine SOps.nil ?_
  refine SCode.seqR ?_
  refine SOps.fieldPin rfl fieldB_28_0_0 ?_
  refine SOps.loadPin rfl flatB_3 ?_
  refine SOps.assign rfl ?_
  refine SOps.nil ?_
  refine SCode.seq ?_
  refine SCode.seqR ?_
  refine SOps.assign rfl ?_
  refine SOps.nil ?_
  refine SCode.block ?_
  have hho := headOK_iff.1 (by have h := hx; simp only [accOK, Bool.and_eq_true] at h; exact h.1)
  refine SCode.loop1 (fun (i : Nat) => (⟨31, [(1, DNats w), (2, .ipin (encAcc x)), (5, .v (.int .i64 (runA x x.start (w.take i)))), (6, .v (.int .i64 (i : Int)))], []⟩ : St)) (fun (i : Nat) => i ≤ w.length) (fun (i : Nat) => w.length - i) (0) (by exact Nat.zero_le _) (St.Le.of ⟨(by first | rfl | (show some _ = some _; simp)), (by first | rfl | (show some _ = some _; simp)), (by first | rfl | (show some _ = some _; simp)), (by first | rfl | (show some _ = some _; simp)), trivial⟩ rfl (by first | rfl | (simp))) ?_
  rintro i hi
  obtain ⟨hr1, hr2⟩ := runA_ok hx (w.take i) x.start (by omega) (by omega) (fun c hc => hw c (List.mem_of_mem_take hc))
  refine SCode.fact (isl_len (t := 1) rfl) (fun hB => ?_)
  simp only [List.length_map, lenB] at hB
  refine SCode.seq ?_
  refine SCode.seqR ?_
  refine SOps.move rfl ?_
  refine SOps.move rfl ?_
  refine SOps.lenM rfl sliceB_39_3_1 ?_
  refine SOps.bin rfl rfl rfl ?_
  refine SOps.nil ?_
  refine SCode.cond rfl (fun hc1 => ?_) (fun hc1 => ?_)
  · try simp only [decide_eq_true_eq, decide_eq_false_iff_not, Bool.not_eq_true', Bool.not_eq_false', beq_iff_eq, bne_iff_ne, ne_eq, beq_eq_false_iff_ne, bne_eq_false_iff_eq, Int.not_lt, Int.not_le, Nat.not_lt, Nat.not_le, Int.ofNat_lt, Int.ofNat_le, Bool.not_eq_eq_eq_not, Bool.not_true, Bool.not_false] at hc1
    refine SCode.skip ?_
    show SCode _ _ _ _
    refine SCode.seq ?_
    refine SCode.block ?_
    have hi5 : i < w.length := by omega
    have hri : (runA x x.start (w.take i)).toNat < x.nxt.length := by omega
    have hrc : w[i] < (x.nxt[(runA x x.start (w.take i)).toNat]).length := by rw [(accOK_row hx hri).1]; exact hw _ (List.getElem_mem hi5)
    apply SCode.drawAuto mixed_ [15, 16, 17, 18, 19, 20, 21, 22, 23, 24, 25, 5] [[.inr 2], [.inl 0], [.inr 5], [.inl 1, .inl 2], [.inl 3], [.inr 1], [.inr 6], [.inl 5, .inl 6], [.inl 7], [.inl 4, .inl 8], [.inl 9], [.inl 10]]
    · kernel_rfl
    · kernel_rfl
    · apply DOk.cons 15 
      · rfl
      · exact (NeedIs.inr _ rfl NeedIs.nil)
      · intro rest
        refine SOps.fieldPin rfl fieldB_28_2_2 ?_
        exact SOps.nil rfl
      apply DOk.cons 16 
      · rfl
      · exact (NeedIs.inl 0 _ _ rfl rfl NeedIs.nil)
      · intro rest
        refine SOps.loadPin rfl flatB_26 ?_
        exact SOps.nil rfl
      apply DOk.cons 17 
      · rfl
      · exact (NeedIs.inr _ rfl NeedIs.nil)
      · intro rest
        refine SOps.move rfl ?_
        exact SOps.nil rfl
      apply DOk.cons 18 
      · rfl
      · exact (NeedIs.inl 1 _ _ rfl rfl (NeedIs.inl 0 _ _ rfl rfl NeedIs.nil))
      · intro rest
        refine SOps.indexM ((runA x x.start (w.take i)).toNat) rfl rfl sliceB_26_39_1 (by first | omega | (simp only [lenB]; omega)) (by first | omega | (simp only [lenB]; omega)) ?_
        exact SOps.nil rfl
      apply DOk.cons 19 
      · rfl
      · exact (NeedIs.inl 0 _ _ rfl rfl NeedIs.nil)
      · intro rest
        refine SOps.loadPin rfl flatB_39 ?_
        exact SOps.nil rfl
      apply DOk.cons 20 
      · rfl
      · exact (NeedIs.inr _ rfl NeedIs.nil)
      · intro rest
        refine SOps.move rfl ?_
        exact SOps.nil rfl
      apply DOk.cons 21 
      · rfl
      · exact (NeedIs.inr _ rfl NeedIs.nil)
      · intro rest
        refine SOps.move rfl ?_
        exact SOps.nil rfl
      apply DOk.cons 22 
      · rfl
      · exact (NeedIs.inl 1 _ _ rfl rfl (NeedIs.inl 0 _ _ rfl rfl NeedIs.nil))
      · intro rest
        refine SOps.indexM (i) rfl rfl sliceB_39_3_1 (by first | omega | (simp only [lenB]; omega)) (by first | omega | (simp only [lenB]; omega)) ?_
        exact SOps.nil rfl
      apply DOk.cons 23 
      · rfl
      · exact (NeedIs.inl 0 _ _ rfl rfl NeedIs.nil)
      · intro rest
        refine SOps.loadPin rfl flatB_3 ?_
        exact SOps.nil rfl
      apply DOk.cons 24 
      · rfl
      · exact (NeedIs.inl 4 _ _ rfl rfl (NeedIs.inl 0 _ _ rfl rfl NeedIs.nil))
      · intro rest
        refine SOps.indexM (w[i]) rfl rfl sliceB_39_3_1 (by first | omega | (simp only [lenB]; omega)) (by first | omega | (simp only [lenB]; omega)) ?_
        exact SOps.nil rfl
      apply DOk.cons 25 
      · rfl
      · exact (NeedIs.inl 0 _ _ rfl rfl NeedIs.nil)
      · intro rest
        refine SOps.loadPin rfl flatB_3 ?_
        exact SOps.nil rfl
      apply DOk.cons 5 
      · rfl
      · exact (NeedIs.inl 0 _ _ rfl rfl NeedIs.nil)
      · intro rest
        refine SOps.assign rfl ?_
        exact SOps.nil rfl
      exact DOk.nil
    · rfl
    · show SCode _ _ _ _
      refine SCode.region ?_
      refine SOps.move rfl ?_
      refine SOps.addI rfl rfl (by first | omega | (simp only [lenB]; omega)) (by first | omega | (simp only [lenB]; omega)) ?_
      refine SOps.assign rfl ?_
      refine SOps.nil ?_
      exact ⟨i + 1, by omega, by omega, St.Le.of ⟨rfl, rfl, (by show some _ = some _; rw [runA_succ hi5 hri hrc]), rfl, trivial⟩⟩
  · try simp only [decide_eq_true_eq, decide_eq_false_iff_not, Bool.not_eq_true', Bool.not_eq_false', beq_iff_eq, bne_iff_ne, ne_eq, beq_eq_false_iff_ne, bne_eq_false_iff_eq, Int.not_lt, Int.not_le, Nat.not_lt, Nat.not_le, Int.ofNat_lt, Int.ofNat_le, Bool.not_eq_eq_eq_not, Bool.not_true, Bool.not_false] at hc1
    refine SCode.exit ?_
    show SCode _ _ _ _
    refine SCode.seqR ?_
    refine SOps.fieldPin rfl fieldB_28_1_1 ?_
    refine SOps.loadPin rfl flatB_25 ?_
    refine SOps.move rfl ?_
    refine SOps.indexM ((runA x x.start (w.take i)).toNat) rfl rfl sliceB_25_4_1 (by first | omega | (simp only [lenB]; omega)) (by first | omega | (simp only [lenB]; omega)) ?_
    refine SOps.loadPin rfl flatB_4 ?_
    refine SOps.assign rfl ?_
    refine SOps.nil ?_
    refine SCode.ret ?_
    exact ⟨_, Res.one (.tmp rfl), congrArg (fun b => DV.v (.bool b)) (by rw [finA_at, List.take_of_length_le (show w.length ≤ i by omega)]), rfl⟩
theorem qInts (x y : List Int)  : GCall Tryd.prog E 33 [DInts x, DInts y] [] (fun d H => d = .v (.bool (decide (x = y))) ∧ H = []) := by
  refine GCall.body (C := ⟨Tryd.prog, E, true⟩) Tryd.func33 rfl (fun _ => rfl) (by kernel_rfl) rfl ?_
  refine SCode.seqR ?_
  refine SOps.assign rfl ?_
  refine SOps.nil ?_
  refine SCode.seq ?_
  refine SCode.seqR ?_
  refine SOps.move rfl ?_
  refine SOps.lenM rfl sliceB_39_3_1 ?_
  refine SOps.move rfl ?_
  refine SOps.lenM rfl sliceB_39_3_1 ?_
  refine SOps.bin rfl rfl rfl ?_
  refine SOps.nil ?_
  refine SCode.cond rfl (fun hc1 => ?_) (fun hc1 => ?_)
  · try simp only [decide_eq_true_eq, decide_eq_false_iff_not, Bool.not_eq_true', Bool.not_eq_false', beq_iff_eq, bne_iff_ne, ne_eq, beq_eq_false_iff_ne, bne_eq_false_iff_eq, Int.not_lt, Int.not_le, Nat.not_lt, Nat.not_le, Int.ofNat_lt, Int.ofNat_le, Bool.not_eq_eq_eq_not, Bool.not_true, Bool.not_false] at hc1
    refine SCode.seqR ?_
    refine SOps.assign rfl ?_
    refine SOps.nil ?_
    refine SCode.ret ?_
    exact ⟨_, Res.one (.tmp rfl), congrArg (fun b => DV.v (.bool b)) ((decide_eq_false (fun e => hc1 (by rw [e]))).symm), rfl⟩
  · try simp only [decide_eq_true_eq, decide_eq_false_iff_not, Bool.not_eq_true', Bool.not_eq_false', beq_iff_eq, bne_iff_ne, ne_eq, beq_eq_false_iff_ne, bne_eq_false_iff_eq, Int.not_lt, Int.not_le, Nat.not_lt, Nat.not_le, Int.ofNat_lt, Int.ofNat_le, Bool.not_eq_eq_eq_not, Bool.not_true, Bool.not_false] at hc1
    refine SCode.skip ?_
    show SCode _ _ _ _
    refine SCode.seq ?_
    refine SCode.seqR ?_
    refine SOps.assign rfl ?_
    refine SOps.nil ?_
    refine SCode.block ?_
    refine SCode.loop1 (fun (i : Nat) => (⟨26, [(0, DInts x), (1, DInts y), (5, .v (.int .i64 (i : Int)))], []⟩ : St)) (fun (i : Nat) => i ≤ x.length ∧ x.take i = y.take i) (fun (i : Nat) => x.length - i) (0) (by simp) (St.Le.of ⟨(by first | rfl | (show some _ = some _; simp)), (by first | rfl | (show some _ = some _; simp)), (by first | rfl | (show some _ = some _; simp)), trivial⟩ rfl (by first | rfl | (simp))) ?_
    rintro i ⟨hi, hf⟩
    refine SCode.fact (isl_len (t := 0) rfl) (fun hB => ?_)
    simp only [List.length_map, lenB] at hB
    refine SCode.seq ?_
    refine SCode.seqR ?_
    refine SOps.move rfl ?_
    refine SOps.move rfl ?_
    refine SOps.lenM rfl sliceB_39_3_1 ?_
    refine SOps.bin rfl rfl rfl ?_
    refine SOps.nil ?_
    refine SCode.cond rfl (fun hc2 => ?_) (fun hc2 => ?_)
    · try simp only [decide_eq_true_eq, decide_eq_false_iff_not, Bool.not_eq_true', Bool.not_eq_false', beq_iff_eq, bne_iff_ne, ne_eq, beq_eq_false_iff_ne, bne_eq_false_iff_eq, Int.not_lt, Int.not_le, Nat.not_lt, Nat.not_le, Int.ofNat_lt, Int.ofNat_le, Bool.not_eq_eq_eq_not, Bool.not_true, Bool.not_false] at hc2
      refine SCode.skip ?_
      show SCode _ _ _ _
      refine SCode.seq ?_
      refine SCode.block ?_
      refine SCode.seq ?_
      have hx : i < x.length := by omega
      have hy : i < y.length := by omega
      apply SCode.drawAuto mixed_ [17, 18, 19, 20, 21, 22, 23, 24, 25] [[.inr 0], [.inr 5], [.inl 0, .inl 1], [.inl 2], [.inr 1], [.inr 5], [.inl 4, .inl 5], [.inl 6], [.inl 3, .inl 7]]
      · kernel_rfl
      · kernel_rfl
      · apply DOk.cons 17 
        · rfl
        · exact (NeedIs.inr _ rfl NeedIs.nil)
        · intro rest
          refine SOps.move rfl ?_
          exact SOps.nil rfl
        apply DOk.cons 18 
        · rfl
        · exact (NeedIs.inr _ rfl NeedIs.nil)
        · intro rest
          refine SOps.move rfl ?_
          exact SOps.nil rfl
        apply DOk.cons 19 
        · rfl
        · exact (NeedIs.inl 1 _ _ rfl rfl (NeedIs.inl 0 _ _ rfl rfl NeedIs.nil))
        · intro rest
          refine SOps.indexM (i) rfl rfl sliceB_39_3_1 (by first | omega | (simp only [lenB]; omega)) (by first | omega | (simp only [lenB]; omega)) ?_
          exact SOps.nil rfl
        apply DOk.cons 20 
        · rfl
        · exact (NeedIs.inl 0 _ _ rfl rfl NeedIs.nil)
        · intro rest
          refine SOps.loadPin rfl flatB_3 ?_
          exact SOps.nil rfl
        apply DOk.cons 21 
        · rfl
        · exact (NeedIs.inr _ rfl NeedIs.nil)
        · intro rest
          refine SOps.move rfl ?_
          exact SOps.nil rfl
        apply DOk.cons 22 
        · rfl
        · exact (NeedIs.inr _ rfl NeedIs.nil)
        · intro rest
          refine SOps.move rfl ?_
          exact SOps.nil rfl
        apply DOk.cons 23 
        · rfl
        · exact (NeedIs.inl 1 _ _ rfl rfl (NeedIs.inl 0 _ _ rfl rfl NeedIs.nil))
        · intro rest
          refine SOps.indexM (i) rfl rfl sliceB_39_3_1 (by first | omega | (simp only [lenB]; omega)) (by first | omega | (simp only [lenB]; omega)) ?_
          exact SOps.nil rfl
        apply DOk.cons 24 
        · rfl
        · exact (NeedIs.inl 0 _ _ rfl rfl NeedIs.nil)
        · intro rest
          refine SOps.loadPin rfl flatB_3 ?_
          exact SOps.nil rfl
        apply DOk.cons 25 
        · rfl
        · exact (NeedIs.inl 4 _ _ rfl rfl (NeedIs.inl 0 _ _ rfl rfl NeedIs.nil))
        · intro rest
          refine SOps.bin rfl rfl rfl ?_
          exact SOps.nil rfl
        exact DOk.nil
      · rfl
      · show SCode _ _ _ _
        refine SCode.cond rfl (fun hc3 => ?_) (fun hc3 => ?_)
        · try simp only [decide_eq_true_eq, decide_eq_false_iff_not, Bool.not_eq_true', Bool.not_eq_false', beq_iff_eq, bne_iff_ne, ne_eq, beq_eq_false_iff_ne, bne_eq_false_iff_eq, Int.not_lt, Int.not_le, Nat.not_lt, Nat.not_le, Int.ofNat_lt, Int.ofNat_le, Bool.not_eq_eq_eq_not, Bool.not_true, Bool.not_false] at hc3
          refine SCode.seqR ?_
          refine SOps.assign rfl ?_
          refine SOps.nil ?_
          refine SCode.ret ?_
          exact ⟨_, Res.one (.tmp rfl), congrArg (fun b => DV.v (.bool b)) ((decide_eq_false (ne_of_getElem hx hy (by omega))).symm), rfl⟩
        · try simp only [decide_eq_true_eq, decide_eq_false_iff_not, Bool.not_eq_true', Bool.not_eq_false', beq_iff_eq, bne_iff_ne, ne_eq, beq_eq_false_iff_ne, bne_eq_false_iff_eq, Int.not_lt, Int.not_le, Nat.not_lt, Nat.not_le, Int.ofNat_lt, Int.ofNat_le, Bool.not_eq_eq_eq_not, Bool.not_true, Bool.not_false] at hc3
          refine SCode.skip ?_
          show SCode _ _ _ _
          refine SCode.region ?_
          refine SOps.move rfl ?_
          refine SOps.addI rfl rfl (by first | omega | (simp only [lenB]; omega)) (by first | omega | (simp only [lenB]; omega)) ?_
          refine SOps.assign rfl ?_
          refine SOps.nil ?_
          exact ⟨i + 1, by exact ⟨by omega, take_eq_succ hx hy hf (by omega)⟩, by omega, (St.Le.of ⟨(by first | rfl | (show some _ = some _; simp)), (by first | rfl | (show some _ = some _; simp)), (by first | rfl | (show some _ = some _; simp)), trivial⟩ rfl (by first | rfl | (simp)))⟩
    · try simp only [decide_eq_true_eq, decide_eq_false_iff_not, Bool.not_eq_true', Bool.not_eq_false', beq_iff_eq, bne_iff_ne, ne_eq, beq_eq_false_iff_ne, bne_eq_false_iff_eq, Int.not_lt, Int.not_le, Nat.not_lt, Nat.not_le, Int.ofNat_lt, Int.ofNat_le, Bool.not_eq_eq_eq_not, Bool.not_true, Bool.not_false] at hc2
      refine SCode.exit ?_
      show SCode _ _ _ _
      refine SCode.seqR ?_
      refine SOps.assign rfl ?_
      refine SOps.nil ?_
      refine SCode.ret ?_
      exact ⟨_, Res.one (.tmp rfl), congrArg (fun b => DV.v (.bool b)) ((decide_eq_true (take_full (by omega) (by omega) hf)).symm), rfl⟩
theorem qSameA (x y : Acc)  : GCall Tryd.prog E 15 [.agg (encAcc x), .agg (encAcc y)] [] (fun d H => d = .v (.bool (decide (x.start = y.start ∧ x.fin = y.fin ∧ x.nxt = y.nxt))) ∧ H = []) := by
  refine GCall.body (C := ⟨Tryd.prog, E, true⟩) Tryd.func15 rfl (fun _ => rfl) (by kernel_rfl) rfl ?_
  refine SCode.seqR ?_
  refine SOps.boxAM rfl rfl ?_
  refine SOps.boxAM rfl rfl ?_
  refine SOps.assign rfl ?_
  refine SOps.nil ?_
  refine SCode.seq ?_
  refine SCode.seqR ?_
  refine SOps.fieldPin rfl fieldB_28_0_0 ?_
  refine SOps.loadPin rfl flatB_3 ?_
  refine SOps.fieldPin rfl fieldB_28_0_0 ?_
  refine SOps.loadPin rfl flatB_3 ?_
  refine SOps.bin rfl rfl rfl ?_
  refine SOps.move rfl ?_
  refine SOps.caseB 12 rfl (fun hb1 => ?_) (fun hb1 => ?_)
  · try simp only [decide_eq_true_eq, decide_eq_false_iff_not, Bool.not_eq_true', Bool.not_eq_false', beq_iff_eq, bne_iff_ne, ne_eq, beq_eq_false_iff_ne, bne_eq_false_iff_eq, Int.not_lt, Int.not_le, Nat.not_lt, Nat.not_le, Int.ofNat_lt, Int.ofNat_le, Bool.not_eq_eq_eq_not, Bool.not_true, Bool.not_false] at hb1
    refine SOps.skip rfl ?_
    refine SOps.skip rfl ?_
    refine SOps.skip rfl ?_
    refine SOps.skip rfl ?_
    refine SOps.skip rfl ?_
    refine SOps.skip rfl ?_
    refine SOps.skip rfl ?_
    refine SOps.pick rfl rfl ?_
    refine SOps.move rfl ?_
    refine SOps.skip rfl ?_
    refine SOps.skip rfl ?_
    refine SOps.skip rfl ?_
    refine SOps.skip rfl ?_
    refine SOps.skip rfl ?_
    refine SOps.skip rfl ?_
    refine SOps.skip rfl ?_
    refine SOps.pick rfl rfl ?_
    refine SOps.nil ?_
    refine SCode.cond rfl (fun _ => ?_) (fun h => by cases h)
    refine SCode.seqR ?_
    refine SOps.assign rfl ?_
    refine SOps.nil ?_
    refine SCode.ret ?_
    exact ⟨_, Res.one (.tmp rfl), congrArg (fun b => DV.v (.bool b)) ((decide_eq_false (fun e => hb1 e.1)).symm), rfl⟩
  · try simp only [decide_eq_true_eq, decide_eq_false_iff_not, Bool.not_eq_true', Bool.not_eq_false', beq_iff_eq, bne_iff_ne, ne_eq, beq_eq_false_iff_ne, bne_eq_false_iff_eq, Int.not_lt, Int.not_le, Nat.not_lt, Nat.not_le, Int.ofNat_lt, Int.ofNat_le, Bool.not_eq_eq_eq_not, Bool.not_true, Bool.not_false] at hb1
    refine SOps.fieldPin rfl fieldB_28_1_1 ?_
    refine SOps.loadPin rfl flatB_25 ?_
    refine SOps.lenM rfl sliceB_25_4_1 ?_
    refine SOps.fieldPin rfl fieldB_28_1_1 ?_
    refine SOps.loadPin rfl flatB_25 ?_
    refine SOps.lenM rfl sliceB_25_4_1 ?_
    refine SOps.bin rfl rfl rfl ?_
    refine SOps.pick rfl rfl ?_
    refine SOps.move rfl ?_
    refine SOps.caseB 21 rfl (fun hb2 => ?_) (fun hb2 => ?_)
    · try simp only [decide_eq_true_eq, decide_eq_false_iff_not, Bool.not_eq_true', Bool.not_eq_false', beq_iff_eq, bne_iff_ne, ne_eq, beq_eq_false_iff_ne, bne_eq_false_iff_eq, Int.not_lt, Int.not_le, Nat.not_lt, Nat.not_le, Int.ofNat_lt, Int.ofNat_le, Bool.not_eq_eq_eq_not, Bool.not_true, Bool.not_false] at hb2
      refine SOps.skip rfl ?_
      refine SOps.skip rfl ?_
      refine SOps.skip rfl ?_
      refine SOps.skip rfl ?_
      refine SOps.skip rfl ?_
      refine SOps.skip rfl ?_
      refine SOps.skip rfl ?_
      refine SOps.pick rfl rfl ?_
      refine SOps.nil ?_
      refine SCode.cond rfl (fun _ => ?_) (fun h => by cases h)
      refine SCode.seqR ?_
      refine SOps.assign rfl ?_
      refine SOps.nil ?_
      refine SCode.ret ?_
      exact ⟨_, Res.one (.tmp rfl), congrArg (fun b => DV.v (.bool b)) ((decide_eq_false (fun e => by rw [e.2.1] at hb2; exact hb2 rfl)).symm), rfl⟩
    · try simp only [decide_eq_true_eq, decide_eq_false_iff_not, Bool.not_eq_true', Bool.not_eq_false', beq_iff_eq, bne_iff_ne, ne_eq, beq_eq_false_iff_ne, bne_eq_false_iff_eq, Int.not_lt, Int.not_le, Nat.not_lt, Nat.not_le, Int.ofNat_lt, Int.ofNat_le, Bool.not_eq_eq_eq_not, Bool.not_true, Bool.not_false] at hb2
      refine SOps.fieldPin rfl fieldB_28_2_2 ?_
      refine SOps.loadPin rfl flatB_26 ?_
      refine SOps.lenM rfl sliceB_26_39_1 ?_
      refine SOps.fieldPin rfl fieldB_28_2_2 ?_
      refine SOps.loadPin rfl flatB_26 ?_
      refine SOps.lenM rfl sliceB_26_39_1 ?_
      refine SOps.bin rfl rfl rfl ?_
      refine SOps.pick rfl rfl ?_
      refine SOps.nil ?_
      refine SCode.cond rfl (fun hc3 => ?_) (fun hc3 => ?_)
      · try simp only [decide_eq_true_eq, decide_eq_false_iff_not, Bool.not_eq_true', Bool.not_eq_false', beq_iff_eq, bne_iff_ne, ne_eq, beq_eq_false_iff_ne, bne_eq_false_iff_eq, Int.not_lt, Int.not_le, Nat.not_lt, Nat.not_le, Int.ofNat_lt, Int.ofNat_le, Bool.not_eq_eq_eq_not, Bool.not_true, Bool.not_false] at hc3
        refine SCode.seqR ?_
        refine SOps.assign rfl ?_
        refine SOps.nil ?_
        refine SCode.ret ?_
        exact ⟨_, Res.one (.tmp rfl), congrArg (fun b => DV.v (.bool b)) ((decide_eq_false (fun e => by rw [e.2.2] at hc3; exact hc3 rfl)).symm), rfl⟩
      · try simp only [decide_eq_true_eq, decide_eq_false_iff_not, Bool.not_eq_true', Bool.not_eq_false', beq_iff_eq, bne_iff_ne, ne_eq, beq_eq_false_iff_ne, bne_eq_false_iff_eq, Int.not_lt, Int.not_le, Nat.not_lt, Nat.not_le, Int.ofNat_lt, Int.ofNat_le, Bool.not_eq_eq_eq_not, Bool.not_true, Bool.not_false] at hc3
        refine SCode.skip ?_
        show SCode _ _ _ _
        refine SCode.seq ?_
        refine SCode.seqR ?_
        refine SOps.assign rfl ?_
        refine SOps.nil ?_
        refine SCode.block ?_
        refine SCode.loop1 (fun (i : Nat) => (⟨67, [(2, .ipin (encAcc x)), (3, .ipin (encAcc y)), (5, .v (.int .i64 (i : Int)))], []⟩ : St)) (fun (i : Nat) => i ≤ x.fin.length ∧ x.fin.take i = y.fin.take i) (fun (i : Nat) => x.fin.length - i) (0) (by simp) (St.Le.of ⟨(by first | rfl | (show some _ = some _; simp)), (by first | rfl | (show some _ = some _; simp)), (by first | rfl | (show some _ = some _; simp)), trivial⟩ rfl (by first | rfl | (simp))) ?_
        rintro i ⟨hi, hf⟩
        refine SCode.seq ?_
        refine SCode.seqR ?_
        refine SOps.move rfl ?_
        refine SOps.fieldPin rfl fieldB_28_1_1 ?_
        refine SOps.loadPin rfl flatB_25 ?_
        refine SOps.fact (isl_len (t := 32) rfl) (fun hB => ?_)
        simp only [List.length_map, lenB] at hB
        refine SOps.lenM rfl sliceB_25_4_1 ?_
        refine SOps.bin rfl rfl rfl ?_
        refine SOps.nil ?_
        refine SCode.cond rfl (fun hc4 => ?_) (fun hc4 => ?_)
        · try simp only [decide_eq_true_eq, decide_eq_false_iff_not, Bool.not_eq_true', Bool.not_eq_false', beq_iff_eq, bne_iff_ne, ne_eq, beq_eq_false_iff_ne, bne_eq_false_iff_eq, Int.not_lt, Int.not_le, Nat.not_lt, Nat.not_le, Int.ofNat_lt, Int.ofNat_le, Bool.not_eq_eq_eq_not, Bool.not_true, Bool.not_false] at hc4
          refine SCode.skip ?_
          show SCode _ _ _ _
          refine SCode.seq ?_
          refine SCode.block ?_
          refine SCode.seq ?_
          have hx : i < x.fin.length := by omega
          have hy : i < y.fin.length := by omega
          apply SCode.drawAuto mixed_ [37, 38, 39, 40, 41, 42, 43, 44, 45, 46, 47] [[.inr 2], [.inl 0], [.inr 5], [.inl 1, .inl 2], [.inl 3], [.inr 3], [.inl 5], [.inr 5], [.inl 6, .inl 7], [.inl 8], [.inl 4, .inl 9]]
          · kernel_rfl
          · kernel_rfl
          · apply DOk.cons 37 
            · rfl
            · exact (NeedIs.inr _ rfl NeedIs.nil)
            · intro rest
              refine SOps.fieldPin rfl fieldB_28_1_1 ?_
              exact SOps.nil rfl
            apply DOk.cons 38 
            · rfl
            · exact (NeedIs.inl 0 _ _ rfl rfl NeedIs.nil)
            · intro rest
              refine SOps.loadPin rfl flatB_25 ?_
              exact SOps.nil rfl
            apply DOk.cons 39 
            · rfl
            · exact (NeedIs.inr _ rfl NeedIs.nil)
            · intro rest
              refine SOps.move rfl ?_
              exact SOps.nil rfl
            apply DOk.cons 40 
            · rfl
            · exact (NeedIs.inl 1 _ _ rfl rfl (NeedIs.inl 0 _ _ rfl rfl NeedIs.nil))
            · intro rest
              refine SOps.indexM (i) rfl rfl sliceB_25_4_1 (by first | omega | (simp only [lenB]; omega)) (by first | omega | (simp only [lenB]; omega)) ?_
              exact SOps.nil rfl
            apply DOk.cons 41 
            · rfl
            · exact (NeedIs.inl 0 _ _ rfl rfl NeedIs.nil)
            · intro rest
              refine SOps.loadPin rfl flatB_4 ?_
              exact SOps.nil rfl
            apply DOk.cons 42 
            · rfl
            · exact (NeedIs.inr _ rfl NeedIs.nil)
            · intro rest
              refine SOps.fieldPin rfl fieldB_28_1_1 ?_
              exact SOps.nil rfl
            apply DOk.cons 43 
            · rfl
            · exact (NeedIs.inl 0 _ _ rfl rfl NeedIs.nil)
            · intro rest
              refine SOps.loadPin rfl flatB_25 ?_
              exact SOps.nil rfl
            apply DOk.cons 44 
            · rfl
            · exact (NeedIs.inr _ rfl NeedIs.nil)
            · intro rest
              refine SOps.move rfl ?_
              exact SOps.nil rfl
            apply DOk.cons 45 
            · rfl
            · exact (NeedIs.inl 1 _ _ rfl rfl (NeedIs.inl 0 _ _ rfl rfl NeedIs.nil))
            · intro rest
              refine SOps.indexM (i) rfl rfl sliceB_25_4_1 (by first | omega | (simp only [lenB]; omega)) (by first | omega | (simp only [lenB]; omega)) ?_
              exact SOps.nil rfl
            apply DOk.cons 46 
            · rfl
            · exact (NeedIs.inl 0 _ _ rfl rfl NeedIs.nil)
            · intro rest
              refine SOps.loadPin rfl flatB_4 ?_
              exact SOps.nil rfl
            apply DOk.cons 47 
            · rfl
            · exact (NeedIs.inl 5 _ _ rfl rfl (NeedIs.inl 0 _ _ rfl rfl NeedIs.nil))
            · intro rest
              refine SOps.boolNe rfl rfl boolTy_4 ?_
              exact SOps.nil rfl
            exact DOk.nil
          · rfl
          · show SCode _ _ _ _
            refine SCode.cond rfl (fun hc5 => ?_) (fun hc5 => ?_)
            · try simp only [decide_eq_true_eq, decide_eq_false_iff_not, Bool.not_eq_true', Bool.not_eq_false', beq_iff_eq, bne_iff_ne, ne_eq, beq_eq_false_iff_ne, bne_eq_false_iff_eq, Int.not_lt, Int.not_le, Nat.not_lt, Nat.not_le, Int.ofNat_lt, Int.ofNat_le, Bool.not_eq_eq_eq_not, Bool.not_true, Bool.not_false] at hc5
              refine SCode.seqR ?_
              refine SOps.assign rfl ?_
              refine SOps.nil ?_
              refine SCode.ret ?_
              exact ⟨_, Res.one (.tmp rfl), congrArg (fun b => DV.v (.bool b)) ((decide_eq_false (fun e => ne_of_getElem hx hy (by simpa using hc5) e.2.1)).symm), rfl⟩
            · try simp only [decide_eq_true_eq, decide_eq_false_iff_not, Bool.not_eq_true', Bool.not_eq_false', beq_iff_eq, bne_iff_ne, ne_eq, beq_eq_false_iff_ne, bne_eq_false_iff_eq, Int.not_lt, Int.not_le, Nat.not_lt, Nat.not_le, Int.ofNat_lt, Int.ofNat_le, Bool.not_eq_eq_eq_not, Bool.not_true, Bool.not_false] at hc5
              refine SCode.skip ?_
              show SCode _ _ _ _
              refine SCode.region ?_
              refine SOps.move rfl ?_
              refine SOps.addI rfl rfl (by first | omega | (simp only [lenB]; omega)) (by first | omega | (simp only [lenB]; omega)) ?_
              refine SOps.assign rfl ?_
              refine SOps.nil ?_
              exact ⟨i + 1, by exact ⟨by omega, take_eq_succ hx hy hf (by simpa using hc5)⟩, by omega, (St.Le.of ⟨(by first | rfl | (show some _ = some _; simp)), (by first | rfl | (show some _ = some _; simp)), (by first | rfl | (show some _ = some _; simp)), trivial⟩ rfl (by first | rfl | (simp)))⟩
        · try simp only [decide_eq_true_eq, decide_eq_false_iff_not, Bool.not_eq_true', Bool.not_eq_false', beq_iff_eq, bne_iff_ne, ne_eq, beq_eq_false_iff_ne, bne_eq_false_iff_eq, Int.not_lt, Int.not_le, Nat.not_lt, Nat.not_le, Int.ofNat_lt, Int.ofNat_le, Bool.not_eq_eq_eq_not, Bool.not_true, Bool.not_false] at hc4
          refine SCode.exit ?_
          show SCode _ _ _ _
          refine SCode.seq ?_
          refine SCode.seqR ?_
          refine SOps.assign rfl ?_
          refine SOps.nil ?_
          refine SCode.block ?_
          refine SCode.loop1 (fun (i : Nat) => (⟨67, [(2, .ipin (encAcc x)), (3, .ipin (encAcc y)), (6, .v (.int .i64 (i : Int)))], []⟩ : St)) (fun (i : Nat) => i ≤ x.nxt.length ∧ x.nxt.take i = y.nxt.take i) (fun (i : Nat) => x.nxt.length - i) (0) (by simp) (St.Le.of ⟨(by first | rfl | (show some _ = some _; simp)), (by first | rfl | (show some _ = some _; simp)), (by first | rfl | (show some _ = some _; simp)), trivial⟩ rfl (by first | rfl | (simp))) ?_
          rintro i ⟨hj, hg⟩
          refine SCode.seq ?_
          refine SCode.seqR ?_
          refine SOps.move rfl ?_
          refine SOps.fieldPin rfl fieldB_28_2_2 ?_
          refine SOps.loadPin rfl flatB_26 ?_
          refine SOps.fact (isl_len (t := 50) rfl) (fun hB => ?_)
          simp only [List.length_map, lenB] at hB
          refine SOps.lenM rfl sliceB_26_39_1 ?_
          refine SOps.bin rfl rfl rfl ?_
          refine SOps.nil ?_
          refine SCode.cond rfl (fun hc6 => ?_) (fun hc6 => ?_)
          · try simp only [decide_eq_true_eq, decide_eq_false_iff_not, Bool.not_eq_true', Bool.not_eq_false', beq_iff_eq, bne_iff_ne, ne_eq, beq_eq_false_iff_ne, bne_eq_false_iff_eq, Int.not_lt, Int.not_le, Nat.not_lt, Nat.not_le, Int.ofNat_lt, Int.ofNat_le, Bool.not_eq_eq_eq_not, Bool.not_true, Bool.not_false] at hc6
            refine SCode.skip ?_
            show SCode _ _ _ _
            refine SCode.seq ?_
            refine SCode.block ?_
            refine SCode.seq ?_
            have hx : i < x.nxt.length := by omega
            have hy : i < y.nxt.length := by omega
            apply SCode.drawAuto mixed_ [55, 56, 57, 58, 59, 60, 61, 62, 63, 64, 65, 66] [[.inr 2], [.inl 0], [.inr 6], [.inl 1, .inl 2], [.inl 3], [.inr 3], [.inl 5], [.inr 6], [.inl 6, .inl 7], [.inl 8], [.inl 4, .inl 9], [.inl 10]]
            · kernel_rfl
            · kernel_rfl
            · apply DOk.cons 55 
              · rfl
              · exact (NeedIs.inr _ rfl NeedIs.nil)
              · intro rest
                refine SOps.fieldPin rfl fieldB_28_2_2 ?_
                exact SOps.nil rfl
              apply DOk.cons 56 
              · rfl
              · exact (NeedIs.inl 0 _ _ rfl rfl NeedIs.nil)
              · intro rest
                refine SOps.loadPin rfl flatB_26 ?_
                exact SOps.nil rfl
              apply DOk.cons 57 
              · rfl
              · exact (NeedIs.inr _ rfl NeedIs.nil)
              · intro rest
                refine SOps.move rfl ?_
                exact SOps.nil rfl
              apply DOk.cons 58 
              · rfl
              · exact (NeedIs.inl 1 _ _ rfl rfl (NeedIs.inl 0 _ _ rfl rfl NeedIs.nil))
              · intro rest
                refine SOps.indexM (i) rfl rfl sliceB_26_39_1 (by first | omega | (simp only [lenB]; omega)) (by first | omega | (simp only [lenB]; omega)) ?_
                exact SOps.nil rfl
              apply DOk.cons 59 
              · rfl
              · exact (NeedIs.inl 0 _ _ rfl rfl NeedIs.nil)
              · intro rest
                refine SOps.loadPin rfl flatB_39 ?_
                exact SOps.nil rfl
              apply DOk.cons 60 
              · rfl
              · exact (NeedIs.inr _ rfl NeedIs.nil)
              · intro rest
                refine SOps.fieldPin rfl fieldB_28_2_2 ?_
                exact SOps.nil rfl
              apply DOk.cons 61 
              · rfl
              · exact (NeedIs.inl 0 _ _ rfl rfl NeedIs.nil)
              · intro rest
                refine SOps.loadPin rfl flatB_26 ?_
                exact SOps.nil rfl
              apply DOk.cons 62 
              · rfl
              · exact (NeedIs.inr _ rfl NeedIs.nil)
              · intro rest
                refine SOps.move rfl ?_
                exact SOps.nil rfl
              apply DOk.cons 63 
              · rfl
              · exact (NeedIs.inl 1 _ _ rfl rfl (NeedIs.inl 0 _ _ rfl rfl NeedIs.nil))
              · intro rest
                refine SOps.indexM (i) rfl rfl sliceB_26_39_1 (by first | omega | (simp only [lenB]; omega)) (by first | omega | (simp only [lenB]; omega)) ?_
                exact SOps.nil rfl
              apply DOk.cons 64 
              · rfl
              · exact (NeedIs.inl 0 _ _ rfl rfl NeedIs.nil)
              · intro rest
                refine SOps.loadPin rfl flatB_39 ?_
                exact SOps.nil rfl
              apply DOk.cons 65 
              · rfl
              · exact (NeedIs.inl 5 _ _ rfl rfl (NeedIs.inl 0 _ _ rfl rfl NeedIs.nil))
              · intro rest
                refine SOps.callP (qInts _ _) rfl ?_
                rintro _ rfl
                exact SOps.nil rfl
              apply DOk.cons 66 
              · rfl
              · exact (NeedIs.inl 0 _ _ rfl rfl NeedIs.nil)
              · intro rest
                refine SOps.un rfl rfl ?_
                exact SOps.nil rfl
              exact DOk.nil
            · rfl
            · show SCode _ _ _ _
              refine SCode.cond rfl (fun hc7 => ?_) (fun hc7 => ?_)
              · try simp only [decide_eq_true_eq, decide_eq_false_iff_not, Bool.not_eq_true', Bool.not_eq_false', beq_iff_eq, bne_iff_ne, ne_eq, beq_eq_false_iff_ne, bne_eq_false_iff_eq, Int.not_lt, Int.not_le, Nat.not_lt, Nat.not_le, Int.ofNat_lt, Int.ofNat_le, Bool.not_eq_eq_eq_not, Bool.not_true, Bool.not_false] at hc7
                refine SCode.seqR ?_
                refine SOps.assign rfl ?_
                refine SOps.nil ?_
                refine SCode.ret ?_
                exact ⟨_, Res.one (.tmp rfl), congrArg (fun b => DV.v (.bool b)) ((decide_eq_false (fun e => ne_of_getElem hx hy (by simpa using hc7) e.2.2)).symm), rfl⟩
              · try simp only [decide_eq_true_eq, decide_eq_false_iff_not, Bool.not_eq_true', Bool.not_eq_false', beq_iff_eq, bne_iff_ne, ne_eq, beq_eq_false_iff_ne, bne_eq_false_iff_eq, Int.not_lt, Int.not_le, Nat.not_lt, Nat.not_le, Int.ofNat_lt, Int.ofNat_le, Bool.not_eq_eq_eq_not, Bool.not_true, Bool.not_false] at hc7
                refine SCode.skip ?_
                show SCode _ _ _ _
                refine SCode.region ?_
                refine SOps.move rfl ?_
                refine SOps.addI rfl rfl (by first | omega | (simp only [lenB]; omega)) (by first | omega | (simp only [lenB]; omega)) ?_
                refine SOps.assign rfl ?_
                refine SOps.nil ?_
                exact ⟨i + 1, by exact ⟨by omega, take_eq_succ hx hy hg (by simpa using hc7)⟩, by omega, (St.Le.of ⟨(by first | rfl | (show some _ = some _; simp)), (by first | rfl | (show some _ = some _; simp)), (by first | rfl | (show some _ = some _; simp)), trivial⟩ rfl (by first | rfl | (simp)))⟩
          · try simp only [decide_eq_true_eq, decide_eq_false_iff_not, Bool.not_eq_true', Bool.not_eq_false', beq_iff_eq, bne_iff_ne, ne_eq, beq_eq_false_iff_ne, bne_eq_false_iff_eq, Int.not_lt, Int.not_le, Nat.not_lt, Nat.not_le, Int.ofNat_lt, Int.ofNat_le, Bool.not_eq_eq_eq_not, Bool.not_true, Bool.not_false] at hc6
            refine SCode.exit ?_
            show SCode _ _ _ _
            refine SCode.seqR ?_
            refine SOps.assign rfl ?_
            refine SOps.nil ?_
            refine SCode.ret ?_
            exact ⟨_, Res.one (.tmp rfl), congrArg (fun b => DV.v (.bool b)) ((decide_eq_true ⟨by omega, take_full (by omega) (by omega) hf, take_full (by omega) (by omega) hg⟩).symm), rfl⟩
theorem qSpell (a : List Letter) (w : List Nat) (hw : ∀ c ∈ w, c < a.length) (hl : w.length ≤ 1048576) : GCall Tryd.prog E 51 [DLs a, DNats w] [] (fun d H => d = .v (.string (encs (spellA a w))) ∧ H = []) := by
  refine GCall.body (C := ⟨Tryd.prog, E, true⟩) Tryd.func51 rfl (fun _ => rfl) (by kernel_rfl) rfl ?_
  refine SCode.seqR ?_
  refine SOps.assign rfl ?_
  refine SOps.nil ?_
  refine SCode.seqR ?_
  refine SOps.assign rfl ?_
  refine SOps.nil ?_
  refine SCode.seq ?_
  refine SCode.seqR ?_
  refine SOps.assign rfl ?_
  refine SOps.nil ?_
  refine SCode.block ?_
  refine SCode.loop1 (fun (i : Nat) => (⟨25, [(0, DLs a), (1, DNats w), (5, .v (.string (encs (spellA a (w.take i))))), (6, .v (.int .i64 (i : Int)))], []⟩ : St)) (fun (i : Nat) => i ≤ w.length ∧ (encs (spellA a (w.take i))).size ≤ 4 * i) (fun (i : Nat) => w.length - i) (0) (by exact ⟨Nat.zero_le _, Nat.le_refl _⟩) (St.Le.of ⟨(by first | rfl | (show some _ = some _; simp)), (by first | rfl | (show some _ = some _; simp)), (by first | rfl | (show some _ = some _; simp)), (by first | rfl | (show some _ = some _; simp)), trivial⟩ rfl (by first | rfl | (simp))) ?_
  rintro i ⟨hi, hsz⟩
  refine SCode.seq ?_
  refine SCode.seqR ?_
  refine SOps.move rfl ?_
  refine SOps.move rfl ?_
  refine SOps.lenM rfl sliceB_39_3_1 ?_
  refine SOps.bin rfl rfl rfl ?_
  refine SOps.nil ?_
  refine SCode.cond rfl (fun hc1 => ?_) (fun hc1 => ?_)
  · try simp only [decide_eq_true_eq, decide_eq_false_iff_not, Bool.not_eq_true', Bool.not_eq_false', beq_iff_eq, bne_iff_ne, ne_eq, beq_eq_false_iff_ne, bne_eq_false_iff_eq, Int.not_lt, Int.not_le, Nat.not_lt, Nat.not_le, Int.ofNat_lt, Int.ofNat_le, Bool.not_eq_eq_eq_not, Bool.not_true, Bool.not_false] at hc1
    refine SCode.skip ?_
    show SCode _ _ _ _
    refine SCode.seq ?_
    refine SCode.block ?_
    refine SCode.region ?_
    have hi5 : i < w.length := by omega
    have hci := hw _ (List.getElem_mem hi5)
    have hsp : encs (spellA a (w.take (i + 1))) = (encs (spellA a (w.take i))) ++ Utf8.encode (a[w[i]]).rune := by rw [List.take_add_one, List.getElem?_eq_getElem hi5, spellA, List.map_append]; show encs (_ ++ [(atL a w[i]).rune]) = _; rw [encs_snoc, atL_lt hci]; rfl
    refine SOps.move rfl ?_
    refine SOps.move rfl ?_
    refine SOps.move rfl ?_
    refine SOps.move rfl ?_
    refine SOps.indexM (i) rfl rfl sliceB_39_3_1 (by first | omega | (simp only [lenB]; omega)) (by first | omega | (simp only [lenB]; omega)) ?_
    refine SOps.loadPin rfl flatB_3 ?_
    refine SOps.indexM (w[i]) rfl rfl sliceB_22_69_2 (by first | omega | (simp only [lenB]; omega)) (by first | omega | (simp only [lenB]; omega)) ?_
    refine SOps.fieldPin rfl fieldB_69_0_0 ?_
    refine SOps.loadPin rfl flatB_21 ?_
    refine SOps.convIntStr rfl someB_21 strB_9 ?_
    refine SOps.concat rfl rfl (by simp only [lenB]; have := encode_size (a[w[i]]).rune; omega) ?_
    refine SOps.assign rfl ?_
    refine SOps.nil ?_
    show SCode _ _ _ _
    refine SCode.region ?_
    refine SOps.move rfl ?_
    refine SOps.addI rfl rfl (by first | omega | (simp only [lenB]; omega)) (by first | omega | (simp only [lenB]; omega)) ?_
    refine SOps.assign rfl ?_
    refine SOps.nil ?_
    exact ⟨i + 1, ⟨by omega, by rw [hsp, ByteArray.size_append]; have := encode_size (a[w[i]]).rune; omega⟩, by omega, St.Le.of ⟨rfl, rfl, (by show some _ = some _; rw [hsp]), rfl, trivial⟩⟩
  · try simp only [decide_eq_true_eq, decide_eq_false_iff_not, Bool.not_eq_true', Bool.not_eq_false', beq_iff_eq, bne_iff_ne, ne_eq, beq_eq_false_iff_ne, bne_eq_false_iff_eq, Int.not_lt, Int.not_le, Nat.not_lt, Nat.not_le, Int.ofNat_lt, Int.ofNat_le, Bool.not_eq_eq_eq_not, Bool.not_true, Bool.not_false] at hc1
    refine SCode.exit ?_
    show SCode _ _ _ _
    refine SCode.seqR ?_
    refine SOps.move rfl ?_
    refine SOps.assign rfl ?_
    refine SOps.nil ?_
    refine SCode.ret ?_
    exact ⟨_, Res.one (.tmp rfl), by rw [List.take_of_length_le (show w.length ≤ i by omega)], rfl⟩
theorem qBefore (s t : List Nat)  : GCall Tryd.prog E 29 [DNats s, DNats t] [] (fun d H => d = .v (.bool (befB s t)) ∧ H = []) := by
  refine GCall.body (C := ⟨Tryd.prog, E, true⟩) Tryd.func29 rfl (fun _ => rfl) (by kernel_rfl) rfl ?_
  refine SCode.seqR ?_
  refine SOps.assign rfl ?_
  refine SOps.nil ?_
  refine SCode.seq ?_
  refine SCode.seqR ?_
  refine SOps.move rfl ?_
  refine SOps.lenM rfl sliceB_39_3_1 ?_
  refine SOps.move rfl ?_
  refine SOps.lenM rfl sliceB_39_3_1 ?_
  refine SOps.bin rfl rfl rfl ?_
  refine SOps.nil ?_
  refine SCode.cond rfl (fun hc1 => ?_) (fun hc1 => ?_)
  · try simp only [decide_eq_true_eq, decide_eq_false_iff_not, Bool.not_eq_true', Bool.not_eq_false', beq_iff_eq, bne_iff_ne, ne_eq, beq_eq_false_iff_ne, bne_eq_false_iff_eq, Int.not_lt, Int.not_le, Nat.not_lt, Nat.not_le, Int.ofNat_lt, Int.ofNat_le, Bool.not_eq_eq_eq_not, Bool.not_true, Bool.not_false] at hc1
    refine SCode.seqR ?_
    refine SOps.move rfl ?_
    refine SOps.lenM rfl sliceB_39_3_1 ?_
    refine SOps.move rfl ?_
    refine SOps.lenM rfl sliceB_39_3_1 ?_
    refine SOps.bin rfl rfl rfl ?_
    refine SOps.assign rfl ?_
    refine SOps.nil ?_
    refine SCode.ret ?_
    exact ⟨_, Res.one (.tmp rfl), congrArg (fun b => DV.v (.bool b)) (by rw [befB_len (by omega)]; exact decide_eq_decide.2 (by omega)), rfl⟩
  · try simp only [decide_eq_true_eq, decide_eq_false_iff_not, Bool.not_eq_true', Bool.not_eq_false', beq_iff_eq, bne_iff_ne, ne_eq, beq_eq_false_iff_ne, bne_eq_false_iff_eq, Int.not_lt, Int.not_le, Nat.not_lt, Nat.not_le, Int.ofNat_lt, Int.ofNat_le, Bool.not_eq_eq_eq_not, Bool.not_true, Bool.not_false] at hc1
    refine SCode.skip ?_
    show SCode _ _ _ _
    refine SCode.seq ?_
    refine SCode.seqR ?_
    refine SOps.assign rfl ?_
    refine SOps.nil ?_
    refine SCode.block ?_
    refine SCode.loop1 (fun (i : Nat) => (⟨40, [(0, DNats s), (1, DNats t), (5, .v (.int .i64 (i : Int)))], []⟩ : St)) (fun (i : Nat) => i ≤ s.length ∧ s.take i = t.take i) (fun (i : Nat) => s.length - i) (0) (by simp) (St.Le.of ⟨(by first | rfl | (show some _ = some _; simp)), (by first | rfl | (show some _ = some _; simp)), (by first | rfl | (show some _ = some _; simp)), trivial⟩ rfl (by first | rfl | (simp))) ?_
    rintro i ⟨hi, hf⟩
    refine SCode.fact (isl_len (t := 0) rfl) (fun hB => ?_)
    simp only [List.length_map, lenB] at hB
    refine SCode.seq ?_
    refine SCode.seqR ?_
    refine SOps.move rfl ?_
    refine SOps.move rfl ?_
    refine SOps.lenM rfl sliceB_39_3_1 ?_
    refine SOps.bin rfl rfl rfl ?_
    refine SOps.nil ?_
    refine SCode.cond rfl (fun hc2 => ?_) (fun hc2 => ?_)
    · try simp only [decide_eq_true_eq, decide_eq_false_iff_not, Bool.not_eq_true', Bool.not_eq_false', beq_iff_eq, bne_iff_ne, ne_eq, beq_eq_false_iff_ne, bne_eq_false_iff_eq, Int.not_lt, Int.not_le, Nat.not_lt, Nat.not_le, Int.ofNat_lt, Int.ofNat_le, Bool.not_eq_eq_eq_not, Bool.not_true, Bool.not_false] at hc2
      refine SCode.skip ?_
      show SCode _ _ _ _
      refine SCode.seq ?_
      refine SCode.block ?_
      refine SCode.seq ?_
      have hx : i < s.length := by omega
      have hy : i < t.length := by omega
      apply SCode.drawAuto mixed_ [22, 23, 24, 25, 26, 27, 28, 29, 30] [[.inr 0], [.inr 5], [.inl 0, .inl 1], [.inl 2], [.inr 1], [.inr 5], [.inl 4, .inl 5], [.inl 6], [.inl 3, .inl 7]]
      · kernel_rfl
      · kernel_rfl
      · apply DOk.cons 22 
        · rfl
        · exact (NeedIs.inr _ rfl NeedIs.nil)
        · intro rest
          refine SOps.move rfl ?_
          exact SOps.nil rfl
        apply DOk.cons 23 
        · rfl
        · exact (NeedIs.inr _ rfl NeedIs.nil)
        · intro rest
          refine SOps.move rfl ?_
          exact SOps.nil rfl
        apply DOk.cons 24 
        · rfl
        · exact (NeedIs.inl 1 _ _ rfl rfl (NeedIs.inl 0 _ _ rfl rfl NeedIs.nil))
        · intro rest
          refine SOps.indexM (i) rfl rfl sliceB_39_3_1 (by first | omega | (simp only [lenB]; omega)) (by first | omega | (simp only [lenB]; omega)) ?_
          exact SOps.nil rfl
        apply DOk.cons 25 
        · rfl
        · exact (NeedIs.inl 0 _ _ rfl rfl NeedIs.nil)
        · intro rest
          refine SOps.loadPin rfl flatB_3 ?_
          exact SOps.nil rfl
        apply DOk.cons 26 
        · rfl
        · exact (NeedIs.inr _ rfl NeedIs.nil)
        · intro rest
          refine SOps.move rfl ?_
          exact SOps.nil rfl
        apply DOk.cons 27 
        · rfl
        · exact (NeedIs.inr _ rfl NeedIs.nil)
        · intro rest
          refine SOps.move rfl ?_
          exact SOps.nil rfl
        apply DOk.cons 28 
        · rfl
        · exact (NeedIs.inl 1 _ _ rfl rfl (NeedIs.inl 0 _ _ rfl rfl NeedIs.nil))
        · intro rest
          refine SOps.indexM (i) rfl rfl sliceB_39_3_1 (by first | omega | (simp only [lenB]; omega)) (by first | omega | (simp only [lenB]; omega)) ?_
          exact SOps.nil rfl
        apply DOk.cons 29 
        · rfl
        · exact (NeedIs.inl 0 _ _ rfl rfl NeedIs.nil)
        · intro rest
          refine SOps.loadPin rfl flatB_3 ?_
          exact SOps.nil rfl
        apply DOk.cons 30 
        · rfl
        · exact (NeedIs.inl 4 _ _ rfl rfl (NeedIs.inl 0 _ _ rfl rfl NeedIs.nil))
        · intro rest
          refine SOps.bin rfl rfl rfl ?_
          exact SOps.nil rfl
        exact DOk.nil
      · rfl
      · show SCode _ _ _ _
        refine SCode.cond rfl (fun hc3 => ?_) (fun hc3 => ?_)
        · try simp only [decide_eq_true_eq, decide_eq_false_iff_not, Bool.not_eq_true', Bool.not_eq_false', beq_iff_eq, bne_iff_ne, ne_eq, beq_eq_false_iff_ne, bne_eq_false_iff_eq, Int.not_lt, Int.not_le, Nat.not_lt, Nat.not_le, Int.ofNat_lt, Int.ofNat_le, Bool.not_eq_eq_eq_not, Bool.not_true, Bool.not_false] at hc3
          refine SCode.seq ?_
          apply SCode.drawAuto mixed_ [31, 32, 33, 34, 35, 36, 37, 38, 39, 4] [[.inr 0], [.inr 5], [.inl 0, .inl 1], [.inl 2], [.inr 1], [.inr 5], [.inl 4, .inl 5], [.inl 6], [.inl 3, .inl 7], [.inl 8]]
          · kernel_rfl
          · kernel_rfl
          · apply DOk.cons 31 
            · rfl
            · exact (NeedIs.inr _ rfl NeedIs.nil)
            · intro rest
              refine SOps.move rfl ?_
              exact SOps.nil rfl
            apply DOk.cons 32 
            · rfl
            · exact (NeedIs.inr _ rfl NeedIs.nil)
            · intro rest
              refine SOps.move rfl ?_
              exact SOps.nil rfl
            apply DOk.cons 33 
            · rfl
            · exact (NeedIs.inl 1 _ _ rfl rfl (NeedIs.inl 0 _ _ rfl rfl NeedIs.nil))
            · intro rest
              refine SOps.indexM (i) rfl rfl sliceB_39_3_1 (by first | omega | (simp only [lenB]; omega)) (by first | omega | (simp only [lenB]; omega)) ?_
              exact SOps.nil rfl
            apply DOk.cons 34 
            · rfl
            · exact (NeedIs.inl 0 _ _ rfl rfl NeedIs.nil)
            · intro rest
              refine SOps.loadPin rfl flatB_3 ?_
              exact SOps.nil rfl
            apply DOk.cons 35 
            · rfl
            · exact (NeedIs.inr _ rfl NeedIs.nil)
            · intro rest
              refine SOps.move rfl ?_
              exact SOps.nil rfl
            apply DOk.cons 36 
            · rfl
            · exact (NeedIs.inr _ rfl NeedIs.nil)
            · intro rest
              refine SOps.move rfl ?_
              exact SOps.nil rfl
            apply DOk.cons 37 
            · rfl
            · exact (NeedIs.inl 1 _ _ rfl rfl (NeedIs.inl 0 _ _ rfl rfl NeedIs.nil))
            · intro rest
              refine SOps.indexM (i) rfl rfl sliceB_39_3_1 (by first | omega | (simp only [lenB]; omega)) (by first | omega | (simp only [lenB]; omega)) ?_
              exact SOps.nil rfl
            apply DOk.cons 38 
            · rfl
            · exact (NeedIs.inl 0 _ _ rfl rfl NeedIs.nil)
            · intro rest
              refine SOps.loadPin rfl flatB_3 ?_
              exact SOps.nil rfl
            apply DOk.cons 39 
            · rfl
            · exact (NeedIs.inl 4 _ _ rfl rfl (NeedIs.inl 0 _ _ rfl rfl NeedIs.nil))
            · intro rest
              refine SOps.bin rfl rfl rfl ?_
              exact SOps.nil rfl
            apply DOk.cons 4 
            · rfl
            · exact (NeedIs.inl 0 _ _ rfl rfl NeedIs.nil)
            · intro rest
              refine SOps.assign rfl ?_
              exact SOps.nil rfl
            exact DOk.nil
          · rfl
          · show SCode _ _ _ _
            refine SCode.ret ?_
            exact ⟨_, Res.one (.tmp rfl), congrArg (fun b => DV.v (.bool b)) (by rw [befB_at (by omega) hx hy hf (by omega)]; exact decide_eq_decide.2 (by omega)), rfl⟩
        · try simp only [decide_eq_true_eq, decide_eq_false_iff_not, Bool.not_eq_true', Bool.not_eq_false', beq_iff_eq, bne_iff_ne, ne_eq, beq_eq_false_iff_ne, bne_eq_false_iff_eq, Int.not_lt, Int.not_le, Nat.not_lt, Nat.not_le, Int.ofNat_lt, Int.ofNat_le, Bool.not_eq_eq_eq_not, Bool.not_true, Bool.not_false] at hc3
          refine SCode.skip ?_
          show SCode _ _ _ _
          refine SCode.region ?_
          refine SOps.move rfl ?_
          refine SOps.addI rfl rfl (by first | omega | (simp only [lenB]; omega)) (by first | omega | (simp only [lenB]; omega)) ?_
          refine SOps.assign rfl ?_
          refine SOps.nil ?_
          exact ⟨i + 1, by exact ⟨by omega, take_eq_succ hx hy hf (by omega)⟩, by omega, (St.Le.of ⟨(by first | rfl | (show some _ = some _; simp)), (by first | rfl | (show some _ = some _; simp)), (by first | rfl | (show some _ = some _; simp)), trivial⟩ rfl (by first | rfl | (simp)))⟩
    · try simp only [decide_eq_true_eq, decide_eq_false_iff_not, Bool.not_eq_true', Bool.not_eq_false', beq_iff_eq, bne_iff_ne, ne_eq, beq_eq_false_iff_ne, bne_eq_false_iff_eq, Int.not_lt, Int.not_le, Nat.not_lt, Nat.not_le, Int.ofNat_lt, Int.ofNat_le, Bool.not_eq_eq_eq_not, Bool.not_true, Bool.not_false] at hc2
      refine SCode.exit ?_
      show SCode _ _ _ _
      refine SCode.seqR ?_
      refine SOps.assign rfl ?_
      refine SOps.nil ?_
      refine SCode.ret ?_
      exact ⟨_, Res.one (.tmp rfl), congrArg (fun b => DV.v (.bool b)) (Eq.symm (Bool.eq_false_iff.2 (fun h => by rw [take_full (x := s) (y := t) (by omega) (by omega) hf, befB_irr] at h; cases h))), rfl⟩
end Go.GH
namespace Go.GH
open Go

structure TbOK (m : Nat) (F : List Bool) (X : List (List Nat)) : Prop where
  fl : F.length = X.length
  le : X.length ≤ 256
  pos : 0 < X.length
  rows : ∀ (i : Nat) (h : i < X.length), (X[i]).length = m ∧ ∀ k ∈ X[i], k < X.length
def nxI (X Y : List (List Nat)) (k : Nat × Nat) : List (Nat × Nat) := (X.getD k.1 []).zip (Y.getD k.2 [])
def badI (F G : List Bool) (k : Nat × Nat) : Bool := F.getD k.1 false != G.getD k.2 false
def difI (F : List Bool) (X : List (List Nat)) (G : List Bool) (Y : List (List Nat)) : Option (List Nat) := difE eqP (nxI X Y) (badI F G) 65537 0 [((0, 0), [])]
structure QK (m a b : Nat) (qs : List Key) : Prop where
  nodup : (qs.map (·.1)).Nodup
  small : ∀ k ∈ qs.map (·.1), k.1 < a ∧ k.2 < b
  lets : ∀ x ∈ qs, ∀ c ∈ x.2, c < m
  len : ∀ (j : Nat) x, qs[j]? = some x → x.2.length ≤ j
theorem QK.one (m : Nat) {a b : Nat} (ha : 0 < a) (hb : 0 < b) : QK m a b [((0, 0), [])] where
  nodup := by simp
  small := fun k hk => by simp only [List.map_cons, List.map_nil, List.mem_singleton] at hk; subst hk; exact ⟨ha, hb⟩
  lets := fun x hx c hc => by simp only [List.mem_singleton] at hx; subst hx; cases hc
  len := fun j x h => by
    cases j with
    | zero => simp only [List.getElem?_cons_zero, Option.some.injEq] at h; subst h; exact Nat.le_refl _
    | succ j => simp at h
theorem QK.add {m a b : Nat} {qs : List Key} (h : QK m a b qs) {i c : Nat} {k t : Nat × Nat} {w : List Nat} (hi : qs[i]? = some (k, w)) (hc : c < m) (ht : t ∉ qs.map (·.1)) (hs : t.1 < a ∧ t.2 < b) : QK m a b (qs ++ [(t, w ++ [c])]) where
  nodup := by
    rw [List.map_append, List.nodup_append]
    exact ⟨h.nodup, by simp, fun a ha b hb e => by simp only [List.map_cons, List.map_nil, List.mem_singleton] at hb; subst hb; subst e; exact ht ha⟩
  small := fun u hu => by
    rw [List.map_append, List.mem_append] at hu
    rcases hu with hu | hu
    · exact h.small u hu
    · simp only [List.map_cons, List.map_nil, List.mem_singleton] at hu; subst hu; exact hs
  lets := fun x hx d hd => by
    rcases List.mem_append.1 hx with hx | hx
    · exact h.lets x hx d hd
    · rw [List.mem_singleton] at hx
      subst hx
      rcases List.mem_append.1 hd with hd | hd
      · exact h.lets _ (List.mem_of_getElem? hi) d hd
      · rw [List.mem_singleton] at hd; subst hd; exact hc
  len := fun j x hx => by
    by_cases hj : j < qs.length
    · rw [List.getElem?_append_left hj] at hx; exact h.len j x hx
    · have hj2 : j = qs.length := by
        have := (List.getElem?_eq_some_iff.1 hx).1
        simp at this; omega
      subst hj2
      rw [List.getElem?_concat_length] at hx
      obtain rfl := Option.some.inj hx
      have h1 := h.len i _ hi
      have h2 := (List.getElem?_eq_some_iff.1 hi).1
      simp only [List.length_append, List.length_singleton] at *
      omega
theorem QK.le {m a b : Nat} {qs : List Key} (h : QK m a b qs) (ha : a ≤ 256) (hb : b ≤ 256) : qs.length ≤ 65536 := by
  have := pairs_len h.nodup (fun k hk => ⟨Nat.lt_of_lt_of_le (h.small k hk).1 ha, Nat.lt_of_lt_of_le (h.small k hk).2 hb⟩)
  rwa [List.length_map] at this
theorem nxI_drop {X Y : List (List Nat)} {k : Nat × Nat} {j : Nat} (h1 : k.1 < X.length) (h2 : k.2 < Y.length) (h3 : j < (X[k.1]).length) (h4 : j < (Y[k.2]).length) : (nxI X Y k).drop j = ((X[k.1])[j], (Y[k.2])[j]) :: (nxI X Y k).drop (j + 1) := by
  have e1 : X.getD k.1 [] = X[k.1] := by rw [List.getD_eq_getElem?_getD, List.getElem?_eq_getElem h1]; rfl
  have e2 : Y.getD k.2 [] = Y[k.2] := by rw [List.getD_eq_getElem?_getD, List.getElem?_eq_getElem h2]; rfl
  unfold nxI
  rw [e1, e2, List.drop_eq_getElem_cons (by rw [List.length_zip]; omega)]
  simp
theorem nxI_end {m : Nat} {X Y : List (List Nat)} {F : List Bool} {k : Nat × Nat} {j : Nat} (h : TbOK m F X) (h1 : k.1 < X.length) (hj : m ≤ j) : (nxI X Y k).drop j = [] := by
  refine List.drop_eq_nil_of_le ?_
  have e1 : X.getD k.1 [] = X[k.1] := by rw [List.getD_eq_getElem?_getD, List.getElem?_eq_getElem h1]; rfl
  unfold nxI
  rw [List.length_zip, e1, (h.rows k.1 h1).1]
  omega
theorem badI_at {F G : List Bool} {k : Nat × Nat} (h1 : k.1 < F.length) (h2 : k.2 < G.length) : badI F G k = (F[k.1] != G[k.2]) := by
  unfold badI
  rw [List.getD_eq_getElem?_getD, List.getD_eq_getElem?_getD, List.getElem?_eq_getElem h1, List.getElem?_eq_getElem h2]
  rfl
theorem accQ_ok (a : List Letter) {p : List Item} (hp : p.length < 8) : TbOK a.length (accQ a p).1 (accQ a p).2 := by
  obtain ⟨ns, e, ho⟩ := quQ_ok a hp
  have g := accEqG a hp
  have hb := g.bnd _ ho.pw ho.good
  rw [accQ_eq]
  refine ⟨by rw [ho.fins, ho.len]; simp, by rw [ho.len]; exact hb, by rw [ho.len]; simp, fun i hi => ?_⟩
  have hq : i < (closedN p 1 :: ns).length := by rw [← ho.len]; exact hi
  have hr := ho.rows i _ _ (List.getElem?_eq_getElem hi) (List.getElem?_eq_getElem hq)
  have gq := ho.good _ (List.getElem_mem hq)
  refine ⟨by rw [hr.1, g.len _ gq], fun k hk => ?_⟩
  obtain ⟨c, hc, rfl⟩ := List.mem_iff_getElem.1 hk
  obtain ⟨q', h1, _⟩ := hr.2 c _ _ (List.getElem?_eq_getElem hc) (List.getElem?_eq_getElem (by rw [← hr.1]; exact hc))
  rw [ho.len]
  exact (List.getElem?_eq_some_iff.1 h1).1
theorem pw_inj {l : List Nat} (h : PWE (fun a b => a == b) l) {i j : Nat} {x : Nat} (hi : l[i]? = some x) (hj : l[j]? = some x) : i = j := by
  have hn : l.Nodup := h.imp (fun {a b} hab => by simpa using hab)
  obtain ⟨h1, e1⟩ := List.getElem?_eq_some_iff.1 hi
  obtain ⟨h2, e2⟩ := List.getElem?_eq_some_iff.1 hj
  rcases Nat.lt_trichotomy i j with h3 | h3 | h3
  · exact absurd (e1.trans e2.symm) (List.pairwise_iff_getElem.1 hn i j h1 h2 h3)
  · exact h3
  · exact absurd (e2.trans e1.symm) (List.pairwise_iff_getElem.1 hn j i h2 h1 h3)
theorem difI_eq (a : List Letter) {p q : List Item} (hp : p.length < 8) (hq : q.length < 8) : difI (accQ a p).1 (accQ a p).2 (accQ a q).1 (accQ a q).2 = difP a p q := by
  obtain ⟨ns, e1, o1⟩ := quQ_ok a hp
  obtain ⟨ms, e2, o2⟩ := quQ_ok a hq
  have g1 := accEqG a hp
  have g2 := accEqG a hq
  rw [accQ_eq, accQ_eq]
  generalize hX : (quQ a p).2.2 = X at o1
  generalize hF : (quQ a p).2.1 = F at o1
  generalize hY : (quQ a q).2.2 = Y at o2
  generalize hG : (quQ a q).2.1 = G at o2
  generalize hQ1 : closedN p 1 :: ns = Q1 at o1
  generalize hQ2 : closedN q 1 :: ms = Q2 at o2
  let r : (Nat × Nat) → (Nat × Nat) → Prop := fun i k => Q1[i.1]? = some k.1 ∧ Q2[i.2]? = some k.2
  have hrow : ∀ {R : List Nat} {F : List Bool} {X : List (List Nat)} {u : List Item} (g : EqG (fun a b => a == b) (nxQ a u) (finQ u) (· < 256) a.length 256) (o : RunOK (fun a b => a == b) (nxQ a u) (finQ u) (· < 256) R.length R F X) {i k : Nat}, R[i]? = some k →
      (X.getD i []).length = a.length ∧ F.getD i false = finQ u k ∧ ∀ (c n : Nat), (X.getD i [])[c]? = some n → R[n]? = some (stepA a u k c) := by
    intro R F X u g o i k hi
    have hil := (List.getElem?_eq_some_iff.1 hi).1
    have hX : i < X.length := by rw [o.len]; exact hil
    have e : X.getD i [] = X[i] := by rw [List.getD_eq_getElem?_getD, List.getElem?_eq_getElem hX]; rfl
    have hr := o.rows i _ _ (List.getElem?_eq_getElem hX) hi
    have gk := o.good _ (List.mem_of_getElem? hi)
    refine ⟨by rw [e, hr.1, g.len _ gk], ?_, fun c n hc => ?_⟩
    · rw [o.fins, List.take_length, List.getD_eq_getElem?_getD, List.getElem?_map, hi]; rfl
    · rw [e] at hc
      have hcl := (List.getElem?_eq_some_iff.1 hc).1
      have hcl' := hcl
      rw [hr.1, g.len _ gk] at hcl'
      obtain ⟨q', h1, h2⟩ := hr.2 c n (stepA a u k c) hc (by simp [nxQ, hcl'])
      rw [h1, beq_iff_eq.1 h2]
  refine difE_sim (r := r) ?_ ?_ ?_ 65537 0 (.cons ⟨⟨?_, ?_⟩, rfl⟩ .nil)
  · intro i k i' k' h h'
    unfold eqP
    rw [Bool.eq_iff_iff, beq_iff_eq, beq_iff_eq]
    constructor
    · rintro rfl
      have a1 := h.1.symm.trans h'.1
      have a2 := h.2.symm.trans h'.2
      exact Prod.ext (Option.some.inj a1) (Option.some.inj a2)
    · rintro rfl
      exact Prod.ext (pw_inj o1.pw h.1 h'.1) (pw_inj o2.pw h.2 h'.2)
  · intro i k h
    obtain ⟨l1, f1, s1⟩ := hrow g1 o1 h.1
    obtain ⟨l2, f2, s2⟩ := hrow g2 o2 h.2
    refine Rel2.of ?_ ?_
    · unfold nxI nxP
      rw [List.length_zip, l1, l2, List.length_map, List.length_range, Nat.min_self]
    · intro c x y hx hy
      unfold nxI at hx
      unfold nxP at hy
      rw [List.getElem?_zip_eq_some] at hx
      rw [List.getElem?_map] at hy
      obtain ⟨c', hc', rfl⟩ := Option.map_eq_some_iff.1 hy
      have hcc : c = c' := by
        rw [List.getElem?_range (by have := (List.getElem?_eq_some_iff.1 hc').1; simpa using this)] at hc'
        exact Option.some.inj hc'
      subst hcc
      exact ⟨s1 c _ hx.1, s2 c _ hx.2⟩
  · intro i k h
    obtain ⟨l1, f1, s1⟩ := hrow g1 o1 h.1
    obtain ⟨l2, f2, s2⟩ := hrow g2 o2 h.2
    unfold badI badP
    rw [f1, f2]
    rfl
  · rw [← hQ1]; rfl
  · rw [← hQ2]; rfl
end Go.GH
namespace Go.GH
open Go

abbrev Ids := Nat → Nat
/-- A chain: its operations, and what its memory is after so many of them. -/
structure Chn where
  T : List Nat
  Y : List Nat → Nat → DHeap
def Chn.X (x : Chn) (b : Ids) (c : Nat) : DHeap := x.Y (x.T.map b) c
def Chn.at (L : Nat → Bool) (b : Ids) (x : Chn) : DHeap := x.X b (cntL L x.T)
def chnH (L : Nat → Bool) (b : Ids) (xs : List Chn) : DHeap := (xs.map (Chn.at L b)).flatten
inductive NeedG (D : List (Ids → ORes)) (s : List (Nat × DV)) (b : Ids) : List (Nat ⊕ Nat) → List (Nat × DV) → Prop
  | nil : NeedG D s b [] []
  | inl {j : Nat} {ss : List (Nat ⊕ Nat)} {nd : List (Nat × DV)} {r : Ids → ORes} (k t : Nat) (d : DV) (hk : k + j + 1 = D.length) (h : D[k]? = some r) (h2 : r b = some (t, d)) (q : NeedG D s b ss nd) : NeedG D s b (.inl j :: ss) ((t, d) :: nd)
  | inr {t : Nat} {ss : List (Nat ⊕ Nat)} {nd : List (Nat × DV)} (d : DV) (h : getL s t = some d) (q : NeedG D s b ss nd) : NeedG D s b (.inr t :: ss) ((t, d) :: nd)
/-- What each operation does. 'none': it reads alone; 'some (m, c)': it is number c of chain m. -/
inductive GOk (C : Ctx) (ops : Array Oper) (n : Nat) (base : DHeap) (s : List (Nat × DV)) (xs : List Chn) : List (Ids → ORes) → List Oper → List (List (Nat ⊕ Nat)) → List (Option (Nat × Nat)) → List (List Nat) → List (Ids → ORes) → Prop
  | nil {D : List (Ids → ORes)} : GOk C ops n base s xs D [] [] [] [] []
  | pure {D E : List (Ids → ORes)} {o : Oper} {os : List Oper} {ss : List (Nat ⊕ Nat)} {sss : List (List (Nat ⊕ Nat))} {cls : List (Option (Nat × Nat))} {Ss : List (List Nat)} (S : List Nat) (g : List Nat → ORes) {nd : Ids → List (Nat × DV)} (hj : inlB D.length ss = true) (hn : ∀ b, NeedG D s b ss (nd b))
      (h : ∀ b rest ext, SOps C ops [o] ⟨n, nd b ++ rest, base ++ ext⟩ (fun st' => st' = ⟨n, (g (S.map b)).toList ++ (nd b ++ rest), base ++ ext⟩)) (k : GOk C ops n base s xs ((fun b => g (S.map b)) :: D) os sss cls Ss E) : GOk C ops n base s xs D (o :: os) (ss :: sss) (none :: cls) (S :: Ss) ((fun b => g (S.map b)) :: E)
  | act {D E : List (Ids → ORes)} {o : Oper} {os : List Oper} {ss : List (Nat ⊕ Nat)} {sss : List (List (Nat ⊕ Nat))} {cls : List (Option (Nat × Nat))} {Ss : List (List Nat)} {m c : Nat} {x : Chn} (S : List Nat) (g : List Nat → ORes) {nd : Ids → List (Nat × DV)} (hx : xs[m]? = some x) (hc : x.T[c]? = some D.length) (hj : inlB D.length ss = true) (hn : ∀ b, NeedG D s b ss (nd b))
      (h : ∀ b rest ext, SOps C ops [o] ⟨n, nd b ++ rest, base ++ (x.X b c ++ ext)⟩ (fun st' => ∃ b', (∀ k, k ≠ D.length → b' k = b k) ∧ (⟨n, (g (S.map b')).toList ++ (nd b ++ rest), base ++ (x.X b' (c + 1) ++ ext)⟩ : St).Le st')) (k : GOk C ops n base s xs ((fun b => g (S.map b)) :: D) os sss cls Ss E) :
      GOk C ops n base s xs D (o :: os) (ss :: sss) (some (m, c) :: cls) (S :: Ss) ((fun b => g (S.map b)) :: E)
theorem needO_more {D E : List ORes} {s : List (Nat × DV)} : ∀ {ss : List (Nat ⊕ Nat)}, inlB D.length ss = true → needO (D ++ E) s ss = needO D s ss
  | [], _ => rfl
  | .inl j :: r, h => by
    simp only [inlB, List.all_cons, Bool.and_eq_true] at h
    have hj := Nat.le_of_ble_eq_true h.1
    simp only [needO, List.getElem?_append_left (show j < D.length from hj), needO_more (E := E) (s := s) (ss := r) h.2]
  | .inr t :: r, h => by
    simp only [inlB, List.all_cons, Bool.and_eq_true] at h
    simp only [needO, needO_more (E := E) (s := s) (ss := r) h.2]
theorem NeedG.eq {D : List (Ids → ORes)} {s : List (Nat × DV)} {b : Ids} : ∀ {ss : List (Nat ⊕ Nat)} {nd : List (Nat × DV)}, NeedG D s b ss nd → needO (D.reverse.map (fun r => r b)) s ss = nd
  | _, _, .nil => rfl
  | _, _, .inl (j := j) (r := r) k t d hk h h2 q => by
    have e : (D.reverse.map (fun r => r b))[j]? = some (some (t, d)) := by
      rw [List.getElem?_map, List.getElem?_reverse (by omega), show D.length - 1 - j = k by omega, h]
      simp [h2]
    simp only [needO, e, q.eq]
  | _, _, .inr d h q => by simp only [needO, h, q.eq]
/-- Operation i: its sources, its class, what it does. -/
theorem GOk.at {C : Ctx} {ops : Array Oper} {n : Nat} {base : DHeap} {s : List (Nat × DV)} {xs : List Chn} : ∀ {D E : List (Ids → ORes)} {os : List Oper} {sss : List (List (Nat ⊕ Nat))} {cls : List (Option (Nat × Nat))} {Ss : List (List Nat)}, GOk C ops n base s xs D os sss cls Ss E → ∀ (i : Nat) o, os[i]? = some o →
    ∃ (ss : List (Nat ⊕ Nat)) (cl : Option (Nat × Nat)) (r : Ids → ORes) (nd : Ids → List (Nat × DV)), sss[i]? = some ss ∧ cls[i]? = some cl ∧ E[i]? = some r ∧ (∀ b, needO ((D.reverse ++ E).map (fun r => r b)) s ss = nd b) ∧
      (cl = none → ∀ b rest ext, SOps C ops [o] ⟨n, nd b ++ rest, base ++ ext⟩ (fun st' => st' = ⟨n, (r b).toList ++ (nd b ++ rest), base ++ ext⟩)) ∧
      (∀ m c, cl = some (m, c) → ∃ x, xs[m]? = some x ∧ x.T[c]? = some (D.length + i) ∧ ∀ b rest ext, SOps C ops [o] ⟨n, nd b ++ rest, base ++ (x.X b c ++ ext)⟩ (fun st' => ∃ b', (∀ k, k ≠ D.length + i → b' k = b k) ∧ (⟨n, (r b').toList ++ (nd b ++ rest), base ++ (x.X b' (c + 1) ++ ext)⟩ : St).Le st'))
  | _, _, _, _, _, _, .nil, i, o, hi => by simp at hi
  | D, _, _, _, _, _, .pure (E := E) (ss := ss) S g (nd := nd) hj hn h k, 0, o, hi => by
    simp only [List.getElem?_cons_zero, Option.some.injEq] at hi
    subst hi
    refine ⟨ss, none, fun b => g (S.map b), nd, rfl, rfl, rfl, fun b => ?_, fun _ => h, fun m c e => by cases e⟩
    rw [List.map_append, needO_more (by simpa using hj)]
    exact (hn b).eq
  | D, _, _, _, _, _, .act (E := E) (ss := ss) (m := m) (c := c) (x := x) S g (nd := nd) hx hc hj hn h k, 0, o, hi => by
    simp only [List.getElem?_cons_zero, Option.some.injEq] at hi
    subst hi
    refine ⟨ss, some (m, c), fun b => g (S.map b), nd, rfl, rfl, rfl, fun b => ?_, (fun e => by cases e), fun m' c' e => ?_⟩
    · rw [List.map_append, needO_more (by simpa using hj)]
      exact (hn b).eq
    · simp only [Option.some.injEq, Prod.mk.injEq] at e
      obtain ⟨rfl, rfl⟩ := e
      exact ⟨x, hx, by simpa using hc, h⟩
  | D, _, _, _, _, _, .pure (E := E) S g hj hn h k, i + 1, o, hi => by
    obtain ⟨ss, cl, r', nd, h1, h2, h3, h4, h5, h6⟩ := k.at i o (by simpa using hi)
    refine ⟨ss, cl, r', nd, by simpa using h1, by simpa using h2, by simpa using h3, ?_, h5, ?_⟩
    · simpa using h4
    · simpa [Nat.add_assoc, Nat.add_comm 1 i] using h6
  | D, _, _, _, _, _, .act (E := E) S g hx hc hj hn h k, i + 1, o, hi => by
    obtain ⟨ss, cl, r', nd, h1, h2, h3, h4, h5, h6⟩ := k.at i o (by simpa using hi)
    refine ⟨ss, cl, r', nd, by simpa using h1, by simpa using h2, by simpa using h3, ?_, h5, ?_⟩
    · simpa using h4
    · simpa [Nat.add_assoc, Nat.add_comm 1 i] using h6
/-- The chains are chains; an operation is of at most one of them; what an operation yields hangs on names of such as it waits for. -/
def genB (l : List Oper) (ts : List (Option Nat)) (srcs : List (List (Nat ⊕ Nat))) (Ts : List (List Nat)) (cls : List (Option (Nat × Nat))) (Ss : List (List Nat)) (f : Nat) : Bool :=
  ordB l && distO ts && (Ts.all (fun T => distB T && T.all (fun x => Nat.blt x l.length) && (T.zip (T.drop 1)).all (fun p => memB (reqF l f p.2) p.1))) &&
  (l.zipIdx).all (fun p => match srcs[p.2]? with
    | some ss => ss.all (srcO l ts p.2 p.1)
    | none => true) &&
  (List.range l.length).all (fun i => match cls[i]? with
    | some (some (m, _)) => (Ts.zipIdx).all (fun p => Nat.beq p.2 m || !memB p.1 i)
    | some none => Ts.all (fun T => !memB T i)
    | none => false) &&
  (l.zipIdx).all (fun p => match Ss[p.2]? with
    | some S => S.all (fun k => Nat.beq k p.2 || afterB p.1 k)
    | none => false)
theorem chnH_congr {L L' : Nat → Bool} {b b' : Ids} : ∀ {xs : List Chn}, (∀ x ∈ xs, Chn.at L b x = Chn.at L' b' x) → chnH L b xs = chnH L' b' xs := fun {xs} h => by
  unfold chnH
  rw [List.map_congr_left h]
theorem chnH_out {L : Nat → Bool} {b : Ids} : ∀ {xs : List Chn} {m : Nat} {x : Chn}, xs[m]? = some x → (chnH L b xs).Perm (Chn.at L b x ++ chnH L b (xs.eraseIdx m))
  | [], _, _, h => by simp at h
  | y :: xs, 0, x, h => by
    simp only [List.getElem?_cons_zero, Option.some.injEq] at h
    subst h
    exact .refl _
  | y :: xs, m + 1, x, h => by
    have := chnH_out (L := L) (b := b) (xs := xs) (m := m) (by simpa using h)
    show (Chn.at L b y ++ chnH L b xs).Perm (Chn.at L b x ++ (Chn.at L b y ++ chnH L b (xs.eraseIdx m)))
    refine (this.append_left _).trans ?_
    rw [← List.append_assoc, ← List.append_assoc]
    exact List.Perm.append_right _ List.perm_append_comm
theorem mem_eraseIdx_ne {α : Type} {xs : List α} {m : Nat} {y : α} (h : y ∈ xs.eraseIdx m) : ∃ j, j ≠ m ∧ xs[j]? = some y := by
  rw [List.mem_eraseIdx_iff_getElem?] at h
  exact h
theorem GOk.dep {C : Ctx} {ops : Array Oper} {n : Nat} {base : DHeap} {s : List (Nat × DV)} {xs : List Chn} {D E : List (Ids → ORes)} {os : List Oper} {sss : List (List (Nat ⊕ Nat))} {cls : List (Option (Nat × Nat))} {Ss : List (List Nat)} (h : GOk C ops n base s xs D os sss cls Ss E) :
    E.length = os.length ∧ ∀ (j : Nat) r S, E[j]? = some r → Ss[j]? = some S → ∀ b b', (∀ k ∈ S, b k = b' k) → r b = r b' := by
  induction h with
  | nil => exact ⟨rfl, fun j r S h => by simp at h⟩
  | pure S g _ _ _ _ ih =>
    refine ⟨by simp [ih.1], fun j r S' h1 h2 b b' hb => ?_⟩
    cases j with
    | zero =>
      simp only [List.getElem?_cons_zero, Option.some.injEq] at h1 h2
      subst h1; subst h2
      show g (S.map b) = g (S.map b')
      rw [List.map_congr_left hb]
    | succ j => exact ih.2 j r S' (by simpa using h1) (by simpa using h2) b b' hb
  | act S g _ _ _ _ _ _ ih =>
    refine ⟨by simp [ih.1], fun j r S' h1 h2 b b' hb => ?_⟩
    cases j with
    | zero =>
      simp only [List.getElem?_cons_zero, Option.some.injEq] at h1 h2
      subst h1; subst h2
      show g (S.map b) = g (S.map b')
      rw [List.map_congr_left hb]
    | succ j => exact ih.2 j r S' (by simpa using h1) (by simpa using h2) b b' hb
theorem SCode.drawGen {C : Ctx} {id : Nat} {l : List Oper} {n : Nat} {s : List (Nat × DV)} {H : DHeap} {Q : Exit → St → Prop} {D : List (Ids → ORes)} (hm : C.P.follows .mixedOrders = true) (f : Nat) (ts : List (Option Nat)) (srcs : List (List (Nat ⊕ Nat))) (cls : List (Option (Nat × Nat))) (Ss : List (List Nat)) (base : DHeap) (xs : List Chn)
    (hB : genB l ts srcs (xs.map (·.T)) cls Ss f = true) (hH : ∀ b, (base ++ (xs.map (fun x => x.X b 0)).flatten).Perm H)
    (hops : GOk C l.toArray n base s xs [] l srcs cls Ss D) (hts : ∀ b, D.map (fun r => (r b).map (·.1)) = ts)
    (hQ : ∀ b, Q .normal ⟨n, resO (D.map (fun r => r b)) ++ s, base ++ (xs.map (fun x => x.X b x.T.length)).flatten⟩) : SCode C (.region id l.toArray true) ⟨n, s, H⟩ Q := by
  obtain ⟨hDl, hS⟩ := hops.dep
  have hX : ∀ x ∈ xs, ∀ b b', (∀ k ∈ x.T, b k = b' k) → ∀ c, x.X b c = x.X b' c := fun x _ b b' h c => by unfold Chn.X; rw [List.map_congr_left h]
  simp only [genB, Bool.and_eq_true, List.all_eq_true] at hB
  obtain ⟨⟨⟨⟨⟨hord, hdist⟩, hTs⟩, hsrc⟩, hcls⟩, hSs⟩ := hB
  have hdB : ∀ b, distO ((D.map (fun r => r b)).map (fun x => x.map (·.1))) = true := fun b => by
    have := hts b
    rw [List.map_map, show ((fun x : ORes => x.map (·.1)) ∘ fun r : Ids → ORes => r b) = (fun r => (r b).map (·.1)) from rfl, this]; exact hdist
  have hlen : ∀ i o, l[i]? = some o → ∃ r, D[i]? = some r := fun i o hi => by
    obtain ⟨_, _, r, _, _, _, h, _⟩ := hops.at i o hi
    exact ⟨r, h⟩
  have hT : ∀ x ∈ xs, x.T.Nodup ∧ (∀ y ∈ x.T, y < l.length) ∧ ∀ (j : Nat) u v, x.T[j]? = some u → x.T[j + 1]? = some v → u ∈ reqF l f v := fun x hx => by
    have := hTs x.T (List.mem_map.2 ⟨x, hx, rfl⟩)
    obtain ⟨⟨h1, h2⟩, h3⟩ := this
    refine ⟨distB_spec _ h1, fun y hy => by simpa using h2 y hy, fun j u v hu hv => ?_⟩
    have := h3 (u, v) (by
      rw [List.mem_iff_getElem?]
      refine ⟨j, ?_⟩
      rw [List.getElem?_zip_eq_some]
      exact ⟨hu, by rw [List.getElem?_drop, Nat.add_comm]; exact hv⟩)
    exact memB_iff.1 this
  refine SCode.drawAny hm hord (fun L st' => ∃ b, (⟨n, pickO L 0 (D.map (fun r => r b)) s, base ++ chnH L b xs⟩ : St).Le st') ?_ ?_ ?_
  · refine ⟨fun _ => 0, ?_⟩
    rw [pickO_false]
    refine ⟨rfl, fun t d h => .inl h, H, ?_, .refl _⟩
    have e : chnH (fun _ => false) (fun _ => 0) xs = (xs.map (fun x => x.X (fun _ => 0) 0)).flatten := by
      unfold chnH Chn.at
      congr 1
      refine List.map_congr_left (fun x _ => ?_)
      rw [show cntL (fun _ => false) x.T = 0 by simp [cntL]]
    show (base ++ chnH (fun _ => false) (fun _ => 0) xs).Perm H
    rw [e]; exact hH _
  · intro L st' i o hi hLi hinv haft hbef hcl
    obtain ⟨b, hle⟩ := hinv
    have hil := (List.getElem?_eq_some_iff.1 hi).1
    obtain ⟨ss, cl, r, nd, h1, h2, h3, h4, h5, h6⟩ := hops.at i o hi
    have hreq : ∀ x ∈ reqF l f i, L x = true := fun x hx => by
      cases f with
      | zero => simp [reqF] at hx
      | succ f =>
        simp only [reqF, hi] at hx
        rcases List.mem_append.1 hx with hx | hx
        · exact haft x (by simpa using (List.mem_filter.1 hx).2)
        · obtain ⟨js, hjs, hjx⟩ := List.mem_flatten.1 hx
          obtain ⟨y, hy, rfl⟩ := List.mem_map.1 hjs
          exact reqF_spec hcl f y (haft y (by simpa using (List.mem_filter.1 hy).2)) x hjx
    refine SOps.weaken hle ?_
    have hneed : ∀ t d, getL (nd b) t = some d → getL (pickO L 0 (D.map (fun r => r b)) s) t = some d := by
      have hn := h4 b
      simp only [List.reverse_nil, List.nil_append] at hn
      have hchk := hsrc (o, i) (by rw [List.mem_iff_getElem?]; exact ⟨i, by simp [List.getElem?_zipIdx, hi]⟩)
      simp only [h1, List.all_eq_true] at hchk
      rw [← hn]
      have key : ∀ (ss : List (Nat ⊕ Nat)), (∀ x ∈ ss, srcO l ts i o x = true) → ∀ t d, getL (needO (D.map (fun r => r b)) s ss) t = some d → getL (pickO L 0 (D.map (fun r => r b)) s) t = some d := by
        intro ss
        induction ss with
        | nil => intro _ t d h; simp [needO, getL] at h
        | cons x ss ih =>
          intro hx t d h
          have ih' := ih (fun y hy => hx y (List.mem_cons_of_mem _ hy)) t d
          have hx0 := hx x (List.mem_cons_self ..)
          cases x with
          | inl j =>
            simp only [srcO] at hx0
            simp only [needO] at h
            split at h
            · rename_i q hq
              rw [getL_cons] at h
              split at h
              · rename_i e
                subst e
                obtain rfl := Option.some.inj h
                exact pickO_some _ 0 j s q (hdB b) hq (by simpa using haft j hx0)
              · exact ih' h
            · exact ih' h
          | inr u =>
            simp only [srcO, List.all_eq_true] at hx0
            simp only [needO] at h
            split at h
            · rename_i q hq
              rw [getL_cons] at h
              split at h
              · rename_i e
                simp only at e
                subst e
                obtain rfl := Option.some.inj h
                rw [pickO_none _ 0 s (fun k p hk hp => ?_)]
                · exact hq
                · have h4 := hx0 (some p.1, k) (by
                    rw [List.mem_iff_getElem?]
                    refine ⟨k, ?_⟩
                    rw [← hts b, List.getElem?_zipIdx]
                    simp only [List.getElem?_map] at hk ⊢
                    cases hD : D[k]? with
                    | none => rw [hD] at hk; simp at hk
                    | some rr => rw [hD] at hk; simp at hk; simp [hk])
                  simp only [hp, BEq.rfl, Bool.not_true, Bool.false_or, Bool.or_eq_true] at h4
                  rw [Nat.zero_add]
                  rcases h4 with h4 | h4
                  · rw [Nat.eq_of_beq_eq_true h4]; exact hLi
                  · unfold nthB at h4
                    split at h4
                    · rename_i o' ho'
                      exact hbef k o' ho' h4
                    · cases h4
              · exact ih' h
            · exact ih' h
      exact key ss hchk
    have hnl : ∀ t, getL (nd b ++ pickO L 0 (D.map (fun r => r b)) s) t = getL (pickO L 0 (D.map (fun r => r b)) s) t := by
      intro t
      have : ∀ (nd : List (Nat × DV)), (∀ d, getL nd t = some d → getL (pickO L 0 (D.map (fun r => r b)) s) t = some d) → getL (nd ++ pickO L 0 (D.map (fun r => r b)) s) t = getL (pickO L 0 (D.map (fun r => r b)) s) t := by
        intro nd
        induction nd with
        | nil => intro _; rfl
        | cons q nd ih =>
          intro h
          rw [List.cons_append, getL_cons]
          split
          · rename_i e
            exact (h q.2 (by rw [getL_cons, if_pos e])).symm
          · rename_i e
            exact ih (fun d hd => h d (by rw [getL_cons, if_neg e]; exact hd))
      exact this (nd b) (hneed t)
    have hDi : ∀ b, (D.map (fun r => r b))[i]? = some (r b) := fun b => by simp [h3]
    -- what is known of the slots behind the operation
    have hslots : ∀ b', (∀ k, k ≠ i → b' k = b k) → ∀ t d, getL (pickO (fun k => if k = i then true else L k) 0 (D.map (fun r => r b')) s) t = some d → getL ((r b').toList ++ (nd b ++ pickO L 0 (D.map (fun r => r b)) s)) t = some d := by
      intro b' hb' t d ht
      have hcase : (∃ p, r b' = some p ∧ p.1 = t) ∨ (∀ p, r b' = some p → p.1 ≠ t) := by
        cases hr : r b' with
        | none => exact .inr (fun p h => by cases h)
        | some p =>
          by_cases e : p.1 = t
          · exact .inl ⟨p, rfl, e⟩
          · exact .inr (fun q h => by cases h; exact e)
      rcases hcase with ⟨p, hp, e⟩ | hne
      · subst e
        rw [hp]
        simp only [Option.toList_some, List.singleton_append]
        rw [getL_cons, if_pos rfl]
        rw [pickO_some _ 0 i s p (hdB b') (by rw [hDi, hp]) (by simp)] at ht
        exact ht
      · have e1 : getL ((r b').toList ++ (nd b ++ pickO L 0 (D.map (fun r => r b)) s)) t = getL (nd b ++ pickO L 0 (D.map (fun r => r b)) s) t := by
          cases hr : r b' with
          | none => rfl
          | some p => simp only [Option.toList_some, List.singleton_append]; rw [getL_cons, if_neg (hne p hr)]
        rw [e1, hnl, ← ht]
        refine pickO_set _ _ 0 (by simp) (fun k hk hLk => ?_) (fun k p hk hki => ?_) (fun k p hk hki => ?_)
        · rw [Nat.zero_add] at hk hLk
          simp only [List.getElem?_map]
          cases hDk : D[k]? with
          | none => rfl
          | some rr =>
            simp only [Option.map_some]
            congr 1
            have hkl : k < l.length := by
              rcases Nat.lt_or_ge k l.length with h | h
              · exact h
              · exfalso
                have hlt := (List.getElem?_eq_some_iff.1 hDk).1
                omega
            have hSk := hSs (l[k], k) (by rw [List.mem_iff_getElem?]; exact ⟨k, by simp [List.getElem?_zipIdx, hkl]⟩)
            cases hS' : Ss[k]? with
            | none => rw [hS'] at hSk; cases hSk
            | some S =>
              rw [hS'] at hSk
              simp only [List.all_eq_true, Bool.or_eq_true] at hSk
              refine hS k rr S hDk hS' b' b (fun u hu => hb' u (fun e => ?_))
              subst e
              rcases hSk u hu with h7 | h7
              · exact hk (Nat.eq_of_beq_eq_true h7).symm
              · rw [hcl k _ u (List.getElem?_eq_getElem hkl) hLk h7] at hLi; cases hLi
        · have : k = i := by omega
          subst this
          rw [hDi] at hk
          exact hne p (Option.some.inj hk)
        · have : k = i := by omega
          subst this
          have hb1 := hts b
          have hb2 := hts b'
          have := congrArg (fun x => x[k]?) (hb1.trans hb2.symm)
          simp only [List.getElem?_map, h3, Option.map_some, Option.some.injEq] at this
          rw [hDi] at hk
          rw [Option.some.inj hk] at this
          simp only [Option.map_some] at this
          obtain ⟨q, hq, e⟩ := Option.map_eq_some_iff.1 this.symm
          rw [← e]
          exact hne q hq
    have hci := hcls i (List.mem_range.2 hil)
    rw [h2] at hci
    cases cl with
    | none =>
      simp only [List.all_eq_true] at hci
      have hsame : ∀ x ∈ xs, Chn.at (fun k => if k = i then true else L k) b x = Chn.at L b x := fun x hx => by
        unfold Chn.at
        rw [cnt_set hLi x.T (hT x hx).1]
        have := hci x.T (List.mem_map.2 ⟨x, hx, rfl⟩)
        rw [if_neg (fun hm => by rw [memB_iff.2 hm] at this; cases this), Nat.add_zero]
      refine SOps.weaken (st' := ⟨n, nd b ++ pickO L 0 (D.map (fun r => r b)) s, base ++ chnH L b xs⟩) ⟨rfl, fun t d ht => .inl ((hnl t).symm.trans ht), _, .refl _, .refl _⟩ ((h5 rfl b (pickO L 0 (D.map (fun r => r b)) s) (chnH L b xs)).mono ?_)
      rintro st2 rfl
      exact ⟨b, rfl, fun t d ht => .inl (hslots b (fun _ _ => rfl) t d ht), _, by rw [chnH_congr hsame], .refl _⟩
    | some mc =>
      obtain ⟨m, c⟩ := mc
      obtain ⟨x, hx, hc, hstep⟩ := h6 m c rfl
      simp only [List.length_nil, Nat.zero_add] at hc hstep
      simp only [List.all_eq_true] at hci
      have hxm := List.mem_of_getElem? hx
      obtain ⟨t1, t2, t3⟩ := hT x hxm
      have hpre := cnt_prefix (L := L) x.T (fun j u v hu hv hLv => reqF_spec hcl f v hLv u (t3 j u v hu hv))
      have hcnt : cntL L x.T = c := by
        have h7 := hpre c i hc
        have h8 : ¬ c < cntL L x.T := fun h => by rw [h7.2 h] at hLi; cases hLi
        rcases Nat.eq_zero_or_pos c with h0 | h0
        · omega
        · have hlt := (List.getElem?_eq_some_iff.1 hc).1
          have h9 := t3 (c - 1) _ i (List.getElem?_eq_getElem (by omega)) (by rw [show c - 1 + 1 = c by omega]; exact hc)
          have := (hpre (c - 1) _ (List.getElem?_eq_getElem (by omega))).1 (hreq _ h9)
          omega
      have hmem : i ∈ x.T := List.mem_of_getElem? hc
      have hnot : ∀ j y, j ≠ m → xs[j]? = some y → i ∉ y.T := fun j y hj hy hm => by
        have := hci (y.T, j) (by
          rw [List.mem_iff_getElem?]
          exact ⟨j, by rw [List.getElem?_zipIdx, List.getElem?_map, hy]; simp⟩)
        simp only [Bool.or_eq_true] at this
        rcases this with h | h
        · exact hj (Nat.eq_of_beq_eq_true h)
        · rw [memB_iff.2 hm] at h; cases h
      have hat : Chn.at L b x = x.X b c := by unfold Chn.at; rw [hcnt]
      have hp := chnH_out (L := L) (b := b) hx
      rw [hat] at hp
      refine SOps.weaken (st' := ⟨n, nd b ++ pickO L 0 (D.map (fun r => r b)) s, base ++ (x.X b c ++ chnH L b (xs.eraseIdx m))⟩) ⟨rfl, fun t d ht => .inl ((hnl t).symm.trans ht), _, List.Perm.append_left _ hp.symm, .refl _⟩ ((hstep b (pickO L 0 (D.map (fun r => r b)) s) (chnH L b (xs.eraseIdx m))).mono ?_)
      rintro st2 ⟨b', hb', hle2⟩
      refine ⟨b', hle2.n, fun t d ht => ?_, ?_⟩
      · exact hle2.slots t d (hslots b' hb' t d ht)
      · obtain ⟨l2, p1, p2⟩ := hle2.heap
        refine ⟨l2, ?_, p2⟩
        refine List.Perm.trans ?_ p1
        have hp' := chnH_out (L := fun k => if k = i then true else L k) (b := b') hx
        have hat' : Chn.at (fun k => if k = i then true else L k) b' x = x.X b' (c + 1) := by
          unfold Chn.at
          rw [cnt_set hLi x.T t1, if_pos hmem, hcnt]
        have hrest : chnH (fun k => if k = i then true else L k) b' (xs.eraseIdx m) = chnH L b (xs.eraseIdx m) := chnH_congr (fun y hy => by
          obtain ⟨j, hj, hyj⟩ := mem_eraseIdx_ne hy
          have hni := hnot j y hj hyj
          have hym := List.mem_of_getElem? hyj
          unfold Chn.at
          rw [cnt_set hLi y.T (hT y hym).1, if_neg hni, Nat.add_zero]
          exact hX y hym b' b (fun k hk => hb' k (fun e => hni (e ▸ hk))) _)
        rw [hat', hrest] at hp'
        exact List.Perm.append_left _ hp'
  · intro L st' hall hinv
    obtain ⟨b, hle⟩ := hinv
    have e : chnH L b xs = (xs.map (fun x => x.X b x.T.length)).flatten := by
      unfold chnH Chn.at
      congr 1
      refine List.map_congr_left (fun x hx => ?_)
      have : cntL L x.T = x.T.length := by
        unfold cntL
        rw [List.filter_eq_self.2 (fun y hy => hall y ((hT x hx).2.1 y hy))]
      rw [this]
    rw [pickO_all _ 0 (fun k _ hk => hall k (by simp at hk; omega)), e] at hle
    exact ⟨_, hle, hQ b⟩
theorem SCode.drawG {C : Ctx} {id : Nat} {l : List Oper} {n : Nat} {s : List (Nat × DV)} {H : DHeap} {Q : Exit → St → Prop} {D : List (Ids → ORes)} (f : Nat) (ts : List (Option Nat)) (srcs : List (List (Nat ⊕ Nat))) (Ts : List (List Nat)) (cls : List (Option (Nat × Nat))) (Ss : List (List Nat)) (base : DHeap) (xs : List Chn) (hm : C.P.follows .mixedOrders = true)
    (hB : genB l ts srcs Ts cls Ss f = true) (hT : xs.map (·.T) = Ts) (hH : ∀ b, (base ++ (xs.map (fun x => x.X b 0)).flatten).Perm H)
    (hops : GOk C l.toArray n base s xs [] l srcs cls Ss D) (hts : ∀ b, D.map (fun r => (r b).map (·.1)) = ts)
    (hQ : ∀ b, Q .normal ⟨n, resO (D.map (fun r => r b)) ++ s, base ++ (xs.map (fun x => x.X b x.T.length)).flatten⟩) : SCode C (.region id l.toArray true) ⟨n, s, H⟩ Q :=
  SCode.drawGen hm f ts srcs cls Ss base xs (by rw [hT]; exact hB) hH hops hts hQ
theorem GOk.rd {C : Ctx} {ops : Array Oper} {n : Nat} {base : DHeap} {s : List (Nat × DV)} {xs : List Chn} {D E : List (Ids → ORes)} {o : Oper} {os : List Oper} {ss : List (Nat ⊕ Nat)} {sss : List (List (Nat ⊕ Nat))} {cls : List (Option (Nat × Nat))} {Ss : List (List Nat)} (t : Nat) (d : DV) {nd : Ids → List (Nat × DV)} (hj : inlB D.length ss = true) (hn : ∀ b, NeedG D s b ss (nd b))
    (h : ∀ b rest ext, SOps C ops [o] ⟨n, nd b ++ rest, base ++ ext⟩ (fun st' => st' = ⟨n, (t, d) :: (nd b ++ rest), base ++ ext⟩)) (k : GOk C ops n base s xs ((fun _ => some (t, d)) :: D) os sss cls Ss E) :
    GOk C ops n base s xs D (o :: os) (ss :: sss) (none :: cls) ([] :: Ss) ((fun _ => some (t, d)) :: E) :=
  GOk.pure [] (fun _ => some (t, d)) hj hn h k
end Go.GH
namespace Go.GH
open Go Go.Proofs
variable {E : Env}
theorem aggB_91_3 : aggB Tryd.prog 91 3 = true := by kernel_rfl
theorem elemB_91_3_40 : elemB Tryd.prog 91 3 40 = true := by kernel_rfl
theorem fieldB_91_0_0 : fieldB Tryd.prog 91 0 0 = true := by kernel_rfl
theorem fieldB_91_1_1 : fieldB Tryd.prog 91 1 1 = true := by kernel_rfl
theorem fieldB_91_2_2 : fieldB Tryd.prog 91 2 2 = true := by kernel_rfl
theorem placesB_91 : placesB Tryd.prog 91 [(0, 1), (1, 1), (2, 1)] = true := by kernel_rfl
theorem sliceB_92_91_3 : sliceB Tryd.prog 92 91 3 = true := by kernel_rfl
theorem zeroIs_91 : zeroIs Tryd.prog 91 (.agg #[.int .i64 0, .int .i64 0, .slice none 0 0]) := by unfold zeroIs; kernel_rfl
def encX (F : List Bool) (X : List (List Nat)) : List DV := [.v (.int .i64 0), .isl false 1 (F.map encB), .isl false 1 (X.map encRN)]
def encD (k : Key) : List DV := [.v (.int .i64 (k.1.1 : Int)), .v (.int .i64 (k.1.2 : Int)), DNats k.2]
theorem qAccN {a : List Letter} {p : List Item} {F : List Bool} {X : List (List Nat)} (h : accQ a p = (F, X)) (hp3 : p.length ≤ 3) (ha : a.length ≤ 65) : GCall Tryd.prog E 16 [DLs a, DIts p] [] (fun d H => d = .agg (encX F X) ∧ H = []) :=
  (qAcceptor a p hp3 ha).clean (fun d H e => ⟨_, fun _ _ _ h => h, by
    rw [e, accR, h]
    show DV.agg [_, _, DTab (X.map (fun l => l.map (fun (n : Nat) => (n : Int))))] = _
    rw [DTab_cast]; rfl⟩)
theorem any_take {α : Type} {f : α → Bool} {l : List α} {i : Nat} (h : i < l.length) : (l.take (i + 1)).any f = ((l.take i).any f || f l[i]) := by
  rw [List.take_add_one, List.getElem?_eq_getElem h, List.any_append]; simp
theorem getL_dup {t0 : Nat} {d0 d1 : DV} {l : List (Nat × DV)} {t : Nat} {d : DV} (h : getL ((t0, d0) :: l) t = some d) : getL ((t0, d0) :: (t0, d1) :: l) t = some d := by
  rw [getL_cons] at h ⊢
  split
  · rename_i e; rw [if_pos e] at h; exact h
  · rename_i e; rw [if_neg e] at h; rw [getL_cons, if_neg e]; exact h
theorem eqP_and (u v x y : Nat) : eqP (u, v) (x, y) = (decide (u = x) && decide (v = y)) := by
  rw [Bool.eq_iff_iff]; simp [eqP]
theorem qDifference (a : List Letter) (p q : List Item) (hp3 : p.length ≤ 3) (hq3 : q.length ≤ 3) (ha : a.length ≤ 65) : GCall Tryd.prog E 28 [DLs a, DIts p, DIts q] [] (fun d H => d = tupW a (difP a p q) ∧ H = []) := by
  obtain ⟨F, X, hFX⟩ : ∃ F X, accQ a p = (F, X) := ⟨_, _, rfl⟩
  obtain ⟨G, Y, hGY⟩ : ∃ G Y, accQ a q = (G, Y) := ⟨_, _, rfl⟩
  have hT1 := accQ_ok a (p := p) (by omega)
  have hT2 := accQ_ok a (p := q) (by omega)
  have hD := difI_eq a (p := p) (q := q) (by omega) (by omega)
  rw [hFX] at hT1 hD
  rw [hGY] at hT2 hD
  dsimp only at hT1 hT2 hD
  have hx1 := hT1.fl
  have hx2 := hT1.le
  have hx3 := hT1.pos
  have hy1 := hT2.fl
  have hy2 := hT2.le
  have hy3 := hT2.pos
  refine GCall.body (C := ⟨Tryd.prog, E, true⟩) Tryd.func28 rfl (fun _ => rfl) (by kernel_rfl) rfl ?_
  refine SCode.seqR ?_
  refine SOps.assign rfl ?_
  refine SOps.assign rfl ?_
  refine SOps.nil ?_
  refine SCode.seqR ?_
  refine SOps.move rfl ?_
  refine SOps.move rfl ?_
  refine SOps.callP (qAccN hFX (by omega) (by omega)) rfl ?_
  rintro _ rfl
  refine SOps.move rfl ?_
  refine SOps.move rfl ?_
  refine SOps.callP (qAccN hGY (by omega) (by omega)) rfl ?_
  rintro _ rfl
  refine SOps.alloc (sz := 3) zeroIs_28 (fun b0 hb_0 => ?_)
  refine SOps.alloc (sz := 3) zeroIs_28 (fun b1 hb_1 => ?_)
  refine SOps.storeAM 1 rfl rfl aggB_28_3 rfl ?_
  refine SOps.freezeRef (t := 8) 1 0 rfl rfl rfl rfl rfl ?_
  refine SOps.storeAM 0 rfl rfl aggB_28_3 rfl ?_
  refine SOps.freezeRef (t := 9) 0 0 rfl rfl rfl rfl rfl ?_
  refine SOps.nil ?_
  refine SCode.seqR ?_
  refine SOps.buildM placesB_91 zeroIs_91 rfl rfl ?_
  refine SOps.relab (t := 23) (d' := .agg (encD ((0, 0), []))) rfl (fun w F v h => rep_aggNil (sz := 1) 2 h rfl) ?_
  refine SOps.litO sliceB_92_91_3 zeroIs_91 rfl (fun b2 hb_2 => ?_)
  refine SOps.assign rfl ?_
  refine SOps.nil ?_
  refine SCode.seq ?_
  refine SCode.seqR ?_
  refine SOps.assign rfl ?_
  refine SOps.nil ?_
  refine SCode.block ?_
  refine SCode.loop3 (fun (i : Nat) (qs : List Key) (kq : Nat) => (⟨117, [(0, DLs a), (8, .ipin (encX F X)), (9, .ipin (encX G Y)), (10, .sl kq 3 0 qs.length), (11, .v (.int .i64 (i : Int)))], [(kq, .row 91 3 (qs.map encD))]⟩ : St)) (fun (i : Nat) (qs : List Key) (kq : Nat) => i ≤ qs.length ∧ 0 < qs.length ∧ QK a.length X.length Y.length qs ∧ difE eqP (nxI X Y) (badI F G) (65537 - i) i qs = difP a p q) (fun (i : Nat) (qs : List Key) (kq : Nat) => 65536 - i) (0) ([((0, 0), [])]) (b2) (by exact ⟨Nat.zero_le _, Nat.one_pos, QK.one _ hx3 hy3, hD⟩) (St.Le.of ⟨(by first | rfl | (show some _ = some _; simp)), (by first | rfl | (show some _ = some _; simp)), (by first | rfl | (show some _ = some _; simp)), (by first | rfl | (show some _ = some _; simp)), (by first | rfl | (show some _ = some _; simp)), trivial⟩ rfl (by first | rfl | (simp))) ?_
  rintro i qs kq ⟨hi, hp0, hd, hdf⟩
  have hle := hd.le hx2 hy2
  refine SCode.seq ?_
  refine SCode.seqR ?_
  refine SOps.move rfl ?_
  refine SOps.move rfl ?_
  refine SOps.lenSl rfl sliceB_92_91_3 ?_
  refine SOps.bin rfl rfl rfl ?_
  refine SOps.nil ?_
  refine SCode.cond rfl (fun hc1 => ?_) (fun hc1 => ?_)
  · try simp only [decide_eq_true_eq, decide_eq_false_iff_not, Bool.not_eq_true', Bool.not_eq_false', beq_iff_eq, bne_iff_ne, ne_eq, beq_eq_false_iff_ne, bne_eq_false_iff_eq, Int.not_lt, Int.not_le, Nat.not_lt, Nat.not_le, Int.ofNat_lt, Int.ofNat_le, Bool.not_eq_eq_eq_not, Bool.not_true, Bool.not_false] at hc1
    refine SCode.skip ?_
    show SCode _ _ _ _
    refine SCode.seq ?_
    refine SCode.block ?_
    refine SCode.seqR ?_
    refine SOps.move rfl ?_
    refine SOps.move rfl ?_
    refine SOps.indexS (i) rfl rfl sliceB_92_91_3 (by first | omega | (simp only [lenB] <;> omega)) (by first | omega | (simp only [lenB] <;> omega)) ?_
    refine SOps.loadAK 0 (i) rfl aggB_91_3 rfl (by first | omega | (simp only [lenB] <;> omega)) (by first | omega | (simp; done) | (simp; omega)) rfl ?_
    have hi9 : i < qs.length := by omega
    obtain ⟨⟨key0, w⟩, hqe⟩ : ∃ x : Key, qs[i] = x := ⟨_, rfl⟩
    have hqi : qs[i]? = some (key0, w) := by rw [List.getElem?_eq_getElem hi9, hqe]
    have hks := hd.small key0 (List.mem_map.2 ⟨_, List.mem_of_getElem? hqi, rfl⟩)
    have hk1 := hks.1
    have hk2 := hks.2
    have hk1f : key0.1 < F.length := by omega
    have hk2f : key0.2 < G.length := by omega
    have hwl := hd.lets _ (List.mem_of_getElem? hqi)
    have hwn := hd.len i _ hqi
    dsimp only at hwl hwn
    refine SOps.reSlot (t := 34) rfl (show _ = DV.agg (encD (key0, w)) by rw [← hqe] <;> rfl) ?_
    refine SOps.alloc (sz := 3) zeroIs_91 (fun b3 hb_3 => ?_)
    refine SOps.storeAM 0 rfl rfl aggB_91_3 rfl ?_
    refine SOps.freezeRef (t := 12) 0 0 rfl rfl rfl rfl rfl ?_
    refine SOps.nil ?_
    refine SCode.seq ?_
    refine SCode.seq ?_
    apply SCode.drawAuto mixed_ [35, 36, 37, 38, 39, 40, 41, 42, 43, 44, 45, 46, 47] [[.inr 8], [.inl 0], [.inr 12], [.inl 2], [.inl 1, .inl 3], [.inl 4], [.inr 9], [.inl 6], [.inr 12], [.inl 8], [.inl 7, .inl 9], [.inl 10], [.inl 5, .inl 11]]
    · kernel_rfl
    · kernel_rfl
    · apply DOk.cons 35 
      · rfl
      · exact (NeedIs.inr _ rfl NeedIs.nil)
      · intro rest
        refine SOps.fieldPin rfl fieldB_28_1_1 ?_
        exact SOps.nil rfl
      apply DOk.cons 36 
      · rfl
      · exact (NeedIs.inl 0 _ _ rfl rfl NeedIs.nil)
      · intro rest
        refine SOps.loadPin rfl flatB_25 ?_
        exact SOps.nil rfl
      apply DOk.cons 37 
      · rfl
      · exact (NeedIs.inr _ rfl NeedIs.nil)
      · intro rest
        refine SOps.fieldPin rfl fieldB_91_0_0 ?_
        exact SOps.nil rfl
      apply DOk.cons 38 
      · rfl
      · exact (NeedIs.inl 0 _ _ rfl rfl NeedIs.nil)
      · intro rest
        refine SOps.loadPin rfl flatB_3 ?_
        exact SOps.nil rfl
      apply DOk.cons 39 
      · rfl
      · exact (NeedIs.inl 2 _ _ rfl rfl (NeedIs.inl 0 _ _ rfl rfl NeedIs.nil))
      · intro rest
        refine SOps.indexM (key0.1) rfl rfl sliceB_25_4_1 (by first | omega | (simp only [lenB] <;> omega)) (by first | omega | (simp only [lenB] <;> omega)) ?_
        exact SOps.nil rfl
      apply DOk.cons 40 
      · rfl
      · exact (NeedIs.inl 0 _ _ rfl rfl NeedIs.nil)
      · intro rest
        refine SOps.loadPin rfl flatB_4 ?_
        exact SOps.nil rfl
      apply DOk.cons 41 
      · rfl
      · exact (NeedIs.inr _ rfl NeedIs.nil)
      · intro rest
        refine SOps.fieldPin rfl fieldB_28_1_1 ?_
        exact SOps.nil rfl
      apply DOk.cons 42 
      · rfl
      · exact (NeedIs.inl 0 _ _ rfl rfl NeedIs.nil)
      · intro rest
        refine SOps.loadPin rfl flatB_25 ?_
        exact SOps.nil rfl
      apply DOk.cons 43 
      · rfl
      · exact (NeedIs.inr _ rfl NeedIs.nil)
      · intro rest
        refine SOps.fieldPin rfl fieldB_91_1_1 ?_
        exact SOps.nil rfl
      apply DOk.cons 44 
      · rfl
      · exact (NeedIs.inl 0 _ _ rfl rfl NeedIs.nil)
      · intro rest
        refine SOps.loadPin rfl flatB_3 ?_
        exact SOps.nil rfl
      apply DOk.cons 45 
      · rfl
      · exact (NeedIs.inl 2 _ _ rfl rfl (NeedIs.inl 0 _ _ rfl rfl NeedIs.nil))
      · intro rest
        refine SOps.indexM (key0.2) rfl rfl sliceB_25_4_1 (by first | omega | (simp only [lenB] <;> omega)) (by first | omega | (simp only [lenB] <;> omega)) ?_
        exact SOps.nil rfl
      apply DOk.cons 46 
      · rfl
      · exact (NeedIs.inl 0 _ _ rfl rfl NeedIs.nil)
      · intro rest
        refine SOps.loadPin rfl flatB_4 ?_
        exact SOps.nil rfl
      apply DOk.cons 47 
      · rfl
      · exact (NeedIs.inl 6 _ _ rfl rfl (NeedIs.inl 0 _ _ rfl rfl NeedIs.nil))
      · intro rest
        refine SOps.boolNe rfl rfl boolTy_4 ?_
        exact SOps.nil rfl
      exact DOk.nil
    · rfl
    · show SCode _ _ _ _
      refine SCode.cond rfl (fun hc2 => ?_) (fun hc2 => ?_)
      · try simp only [decide_eq_true_eq, decide_eq_false_iff_not, Bool.not_eq_true', Bool.not_eq_false', beq_iff_eq, bne_iff_ne, ne_eq, beq_eq_false_iff_ne, bne_eq_false_iff_eq, Int.not_lt, Int.not_le, Nat.not_lt, Nat.not_le, Int.ofNat_lt, Int.ofNat_le, Bool.not_eq_eq_eq_not, Bool.not_true, Bool.not_false] at hc2
        have hbad : badI F G key0 = true := by rw [badI_at hk1f hk2f]; exact bne_iff_ne.2 hc2
        refine SCode.seqR ?_
        refine SOps.move rfl ?_
        refine SOps.fieldPin rfl fieldB_91_2_2 ?_
        refine SOps.loadPin rfl flatB_39 ?_
        refine SOps.callP (qSpell a w hwl (by omega)) rfl ?_
        rintro _ rfl
        refine SOps.assign rfl ?_
        refine SOps.assign rfl ?_
        refine SOps.nil ?_
        refine SCode.drop ?_
        refine SCode.ret ?_
        exact ⟨_, Res.two (.tmp rfl) (.tmp rfl), by rw [← hdf, show 65537 - i = (65536 - i) + 1 by omega, difE_some hqi, if_pos hbad]; rfl, rfl⟩
      · try simp only [decide_eq_true_eq, decide_eq_false_iff_not, Bool.not_eq_true', Bool.not_eq_false', beq_iff_eq, bne_iff_ne, ne_eq, beq_eq_false_iff_ne, bne_eq_false_iff_eq, Int.not_lt, Int.not_le, Nat.not_lt, Nat.not_le, Int.ofNat_lt, Int.ofNat_le, Bool.not_eq_eq_eq_not, Bool.not_true, Bool.not_false] at hc2
        have hnb : ¬ badI F G key0 = true := by rw [badI_at hk1f hk2f]; simp [hc2]
        refine SCode.skip ?_
        show SCode _ _ _ _
        refine SCode.seqR ?_
        refine SOps.assign rfl ?_
        refine SOps.nil ?_
        refine SCode.block ?_
        refine SCode.loop3 (fun (j : Nat) (qs2 : List Key) (kq2 : Nat) => (⟨117, [(0, DLs a), (8, .ipin (encX F X)), (9, .ipin (encX G Y)), (10, .sl kq2 3 0 qs2.length), (11, .v (.int .i64 (i : Int))), (12, .ipin (encD (key0, w))), (13, .v (.int .i64 (j : Int)))], [(kq2, .row 91 3 (qs2.map encD))]⟩ : St)) (fun (j : Nat) (qs2 : List Key) (kq2 : Nat) => qs2[i]? = some (key0, w) ∧ j ≤ a.length ∧ QK a.length X.length Y.length qs2 ∧ rowD eqP w ((nxI X Y key0).drop j) j qs2 = rowD eqP w (nxI X Y key0) 0 qs) (fun (j : Nat) (qs2 : List Key) (kq2 : Nat) => a.length - j) (0) (qs) (kq) (by exact ⟨hqi, Nat.zero_le _, hd, rfl⟩) (St.Le.of ⟨(by first | rfl | (show some _ = some _; simp)), (by first | rfl | (show some _ = some _; simp)), (by first | rfl | (show some _ = some _; simp)), (by first | rfl | (show some _ = some _; simp)), (by first | rfl | (show some _ = some _; simp)), (by first | rfl | (show some _ = some _; simp)), (by first | rfl | (show some _ = some _; simp)), trivial⟩ rfl (by first | rfl | (simp))) ?_
        rintro j qs2 kq2 ⟨hqi2, hj, hd2, hrw⟩
        have hle2 := hd2.le hx2 hy2
        refine SCode.seq ?_
        refine SCode.seqR ?_
        refine SOps.move rfl ?_
        refine SOps.move rfl ?_
        refine SOps.lenM rfl sliceB_22_69_2 ?_
        refine SOps.bin rfl rfl rfl ?_
        refine SOps.nil ?_
        refine SCode.cond rfl (fun hc3 => ?_) (fun hc3 => ?_)
        · try simp only [decide_eq_true_eq, decide_eq_false_iff_not, Bool.not_eq_true', Bool.not_eq_false', beq_iff_eq, bne_iff_ne, ne_eq, beq_eq_false_iff_ne, bne_eq_false_iff_eq, Int.not_lt, Int.not_le, Nat.not_lt, Nat.not_le, Int.ofNat_lt, Int.ofNat_le, Bool.not_eq_eq_eq_not, Bool.not_true, Bool.not_false] at hc3
          refine SCode.skip ?_
          show SCode _ _ _ _
          refine SCode.seq ?_
          refine SCode.block ?_
          refine SCode.seq ?_
          have hja : j < a.length := by omega
          have hr1 : j < (X[key0.1]).length := by rw [(hT1.rows _ hk1).1]; exact hja
          have hr2 : j < (Y[key0.2]).length := by rw [(hT2.rows _ hk2).1]; exact hja
          have hnk : ((X[key0.1])[j]) < X.length ∧ ((Y[key0.2])[j]) < Y.length := ⟨(hT1.rows _ hk1).2 _ (List.getElem_mem hr1), (hT2.rows _ hk2).2 _ (List.getElem_mem hr2)⟩
          apply SCode.drawG 29 [some 58, some 59, some 60, some 61, some 62, some 63, some 64, some 65, some 66, some 67, some 68, some 69, some 70, some 71, some 72, some 73, some 74, some 75, some 76, some 77, some 78, some 79, some 80, some 81, some 82, some 83, some 14, none] [[.inr 8], [.inl 0], [.inr 12], [.inl 2], [.inl 1, .inl 3], [.inl 4], [.inr 13], [.inl 5, .inl 6], [.inl 7], [.inr 9], [.inl 9], [.inr 12], [.inl 11], [.inl 10, .inl 12], [.inl 13], [.inr 13], [.inl 14, .inl 15], [.inl 16], [], [.inr 12], [.inl 19], [.inl 18, .inl 20], [.inr 13], [.inl 22], [.inl 21, .inl 23], [.inl 8, .inl 17, .inl 24], [], [.inl 26, .inl 25]] [[18, 21, 24], [26, 27]] [none, none, none, none, none, none, none, none, none, none, none, none, none, none, none, none, none, none, some (0, 0), none, none, some (0, 1), none, none, some (0, 2), none, some (1, 0), some (1, 1)] [[], [], [], [], [], [], [], [], [], [], [], [], [], [], [], [], [], [], [18], [], [], [21], [], [], [], [], [26], []] ([(kq2, .row 91 3 (qs2.map encD))]) [⟨[18, 21, 24], fun ids c => match c with | 0 => [] | 1 => [((ids.getD 0 0), .row 3 1 [])] | 2 => [((ids.getD 1 0), .row 3 1 (w.map encN))] | _ => []⟩, ⟨[26, 27], fun ids c => match c with | 0 => [] | 1 => [((ids.getD 0 0), .row 91 3 [[.v (.int .i64 0), .v (.int .i64 0), .v (.slice none 0 0)]])] | _ => [((ids.getD 0 0), .row 91 3 [[.v (.int .i64 (((X[key0.1])[j]) : Int)), .v (.int .i64 (((Y[key0.2])[j]) : Int)), .isl false 1 (w.map encN ++ [[.v (.int .i64 (j : Int))]])]])]⟩] mixed_
          · kernel_rfl
          · rfl
          · exact fun _ => .refl _
          · apply GOk.rd 58
            · rfl
            · exact fun b => (NeedG.inr _ rfl NeedG.nil)
            · intro b rest ext
              refine SOps.fieldPin rfl fieldB_28_2_2 ?_
              exact SOps.nil rfl
            apply GOk.rd 59
            · rfl
            · exact fun b => (NeedG.inl 0 _ _ rfl rfl rfl NeedG.nil)
            · intro b rest ext
              refine SOps.loadPin rfl flatB_26 ?_
              exact SOps.nil rfl
            apply GOk.rd 60
            · rfl
            · exact fun b => (NeedG.inr _ rfl NeedG.nil)
            · intro b rest ext
              refine SOps.fieldPin rfl fieldB_91_0_0 ?_
              exact SOps.nil rfl
            apply GOk.rd 61
            · rfl
            · exact fun b => (NeedG.inl 0 _ _ rfl rfl rfl NeedG.nil)
            · intro b rest ext
              refine SOps.loadPin rfl flatB_3 ?_
              exact SOps.nil rfl
            apply GOk.rd 62
            · rfl
            · exact fun b => (NeedG.inl 2 _ _ rfl rfl rfl (NeedG.inl 0 _ _ rfl rfl rfl NeedG.nil))
            · intro b rest ext
              refine SOps.indexM (key0.1) rfl rfl sliceB_26_39_1 (by first | omega | (simp only [lenB] <;> omega)) (by first | omega | (simp only [lenB] <;> omega)) ?_
              exact SOps.nil rfl
            apply GOk.rd 63
            · rfl
            · exact fun b => (NeedG.inl 0 _ _ rfl rfl rfl NeedG.nil)
            · intro b rest ext
              refine SOps.loadPin rfl flatB_39 ?_
              exact SOps.nil rfl
            apply GOk.rd 64
            · rfl
            · exact fun b => (NeedG.inr _ rfl NeedG.nil)
            · intro b rest ext
              refine SOps.move rfl ?_
              exact SOps.nil rfl
            apply GOk.rd 65
            · rfl
            · exact fun b => (NeedG.inl 1 _ _ rfl rfl rfl (NeedG.inl 0 _ _ rfl rfl rfl NeedG.nil))
            · intro b rest ext
              refine SOps.indexM (j) rfl rfl sliceB_39_3_1 (by first | omega | (simp only [lenB] <;> omega)) (by first | omega | (simp only [lenB] <;> omega)) ?_
              exact SOps.nil rfl
            apply GOk.rd 66
            · rfl
            · exact fun b => (NeedG.inl 0 _ _ rfl rfl rfl NeedG.nil)
            · intro b rest ext
              refine SOps.loadPin rfl flatB_3 ?_
              exact SOps.nil rfl
            apply GOk.rd 67
            · rfl
            · exact fun b => (NeedG.inr _ rfl NeedG.nil)
            · intro b rest ext
              refine SOps.fieldPin rfl fieldB_28_2_2 ?_
              exact SOps.nil rfl
            apply GOk.rd 68
            · rfl
            · exact fun b => (NeedG.inl 0 _ _ rfl rfl rfl NeedG.nil)
            · intro b rest ext
              refine SOps.loadPin rfl flatB_26 ?_
              exact SOps.nil rfl
            apply GOk.rd 69
            · rfl
            · exact fun b => (NeedG.inr _ rfl NeedG.nil)
            · intro b rest ext
              refine SOps.fieldPin rfl fieldB_91_1_1 ?_
              exact SOps.nil rfl
            apply GOk.rd 70
            · rfl
            · exact fun b => (NeedG.inl 0 _ _ rfl rfl rfl NeedG.nil)
            · intro b rest ext
              refine SOps.loadPin rfl flatB_3 ?_
              exact SOps.nil rfl
            apply GOk.rd 71
            · rfl
            · exact fun b => (NeedG.inl 2 _ _ rfl rfl rfl (NeedG.inl 0 _ _ rfl rfl rfl NeedG.nil))
            · intro b rest ext
              refine SOps.indexM (key0.2) rfl rfl sliceB_26_39_1 (by first | omega | (simp only [lenB] <;> omega)) (by first | omega | (simp only [lenB] <;> omega)) ?_
              exact SOps.nil rfl
            apply GOk.rd 72
            · rfl
            · exact fun b => (NeedG.inl 0 _ _ rfl rfl rfl NeedG.nil)
            · intro b rest ext
              refine SOps.loadPin rfl flatB_39 ?_
              exact SOps.nil rfl
            apply GOk.rd 73
            · rfl
            · exact fun b => (NeedG.inr _ rfl NeedG.nil)
            · intro b rest ext
              refine SOps.move rfl ?_
              exact SOps.nil rfl
            apply GOk.rd 74
            · rfl
            · exact fun b => (NeedG.inl 1 _ _ rfl rfl rfl (NeedG.inl 0 _ _ rfl rfl rfl NeedG.nil))
            · intro b rest ext
              refine SOps.indexM (j) rfl rfl sliceB_39_3_1 (by first | omega | (simp only [lenB] <;> omega)) (by first | omega | (simp only [lenB] <;> omega)) ?_
              exact SOps.nil rfl
            apply GOk.rd 75
            · rfl
            · exact fun b => (NeedG.inl 0 _ _ rfl rfl rfl NeedG.nil)
            · intro b rest ext
              refine SOps.loadPin rfl flatB_3 ?_
              exact SOps.nil rfl
            apply GOk.act [18] (fun ids => some (76, .sl (ids.getD 0 0) 1 0 0))
            · rfl
            · rfl
            · rfl
            · exact fun b => NeedG.nil
            · intro b rest ext
              refine SOps.litO sliceB_39_3_1 zeroIs_3 rfl (fun b4 hb_4 => ?_)
              exact SOps.nil ⟨fun k => if k = 18 then b4 else b k, fun k hk => if_neg hk, ⟨rfl, fun t d h => .inl h, _, List.perm_middle, .refl _⟩⟩
            apply GOk.rd 77
            · rfl
            · exact fun b => (NeedG.inr _ rfl NeedG.nil)
            · intro b rest ext
              refine SOps.fieldPin rfl fieldB_91_2_2 ?_
              exact SOps.nil rfl
            apply GOk.rd 78
            · rfl
            · exact fun b => (NeedG.inl 0 _ _ rfl rfl rfl NeedG.nil)
            · intro b rest ext
              refine SOps.loadPin rfl flatB_39 ?_
              exact SOps.nil rfl
            apply GOk.act [21] (fun ids => some (79, .sl (ids.getD 0 0) 1 0 (0 + (w.map encN).length)))
            · rfl
            · rfl
            · rfl
            · exact fun b => (NeedG.inl 2 _ _ rfl rfl rfl (NeedG.inl 0 _ _ rfl rfl rfl NeedG.nil))
            · intro b rest ext
              refine SOps.appendOwnE 1 sliceB_39_3_1 elemB_3_1_8 rfl rfl rfl rfl SrcD.isl (by simp only [List.length_map, lenB]; omega) (by simp only [List.length_map]; omega) (fun b5 => ?_)
              exact SOps.nil ⟨fun k => if k = 21 then b5 else b k, fun k hk => if_neg hk, ⟨rfl, fun t d h => .inl h, _, .refl _, .refl _⟩⟩
            apply GOk.rd 80
            · rfl
            · exact fun b => (NeedG.inr _ rfl NeedG.nil)
            · intro b rest ext
              refine SOps.move rfl ?_
              exact SOps.nil rfl
            apply GOk.rd 81
            · rfl
            · exact fun b => (NeedG.inl 0 _ _ rfl rfl rfl NeedG.nil)
            · intro b rest ext
              refine SOps.litF rfl sliceB_39_3_1 zeroIs_3 rfl ?_
              exact SOps.nil rfl
            apply GOk.act [] (fun ids => some (82, .isl false 1 (w.map encN ++ [[.v (.int .i64 (j : Int))]])))
            · rfl
            · rfl
            · rfl
            · exact fun b => (NeedG.inl 2 _ _ rfl rfl rfl (NeedG.inl 0 _ _ rfl rfl rfl NeedG.nil))
            · intro b rest ext
              refine SOps.appendOwn 1 sliceB_39_3_1 elemB_3_1_8 rfl rfl rfl (by simp) SrcD.isl (by simp) (by first | (simp [lenB] <;> (first | omega | (simp only [lenB] <;> omega))) | (simp only [lenB]; (first | omega | (simp only [lenB] <;> omega)))) (by first | (simp <;> (first | omega | (simp only [lenB] <;> omega))) | (first | omega | (simp only [lenB] <;> omega))) (fun b6 hb_6 => ?_)
              exact SOps.freezeS (t := 82) 1 rfl rfl rfl (by simp) (SOps.nil ⟨fun k => if k = 24 then b6 else b k, fun k hk => if_neg hk, ⟨rfl, fun t d h => .inl (getL_dup h), _, .refl _, .refl _⟩⟩)
            apply GOk.rd 83
            · rfl
            · exact fun b => (NeedG.inl 16 _ _ rfl rfl rfl (NeedG.inl 7 _ _ rfl rfl rfl (NeedG.inl 0 _ _ rfl rfl rfl NeedG.nil)))
            · intro b rest ext
              refine SOps.buildM placesB_91 zeroIs_91 rfl rfl ?_
              exact SOps.nil rfl
            apply GOk.act [26] (fun ids => some (14, .ref (ids.getD 0 0) 0))
            · rfl
            · rfl
            · rfl
            · exact fun b => NeedG.nil
            · intro b rest ext
              refine SOps.alloc (sz := 3) zeroIs_91 (fun b7 hb_7 => ?_)
              exact SOps.nil ⟨fun k => if k = 26 then b7 else b k, fun k hk => if_neg hk, ⟨rfl, fun t d h => .inl h, _, List.perm_middle, .refl _⟩⟩
            apply GOk.act [] (fun _ => none)
            · rfl
            · rfl
            · rfl
            · exact fun b => (NeedG.inl 0 _ _ rfl rfl rfl (NeedG.inl 1 _ _ rfl rfl rfl NeedG.nil))
            · intro b rest ext
              refine SOps.storeAM 1 rfl rfl aggB_91_3 rfl ?_
              exact SOps.nil ⟨b, fun _ _ => rfl, ⟨rfl, fun t d h => .inl h, _, .refl _, .refl _⟩⟩
            exact GOk.nil
          · exact fun _ => rfl
          · intro ids
            show SCode _ _ _ _
            refine SCode.seqR ?_
            refine SOps.freezeRef (t := 14) 1 0 rfl rfl rfl rfl rfl ?_
            refine SOps.reSlot (t := 14) rfl (show _ = DV.ipin (encD ((((X[key0.1])[j]), ((Y[key0.2])[j])), w ++ [j])) by show DV.ipin [.v (.int .i64 (((X[key0.1])[j]) : Int)), .v (.int .i64 (((Y[key0.2])[j]) : Int)), .isl false 1 (w.map encN ++ [[.v (.int .i64 (j : Int))]])] = _; unfold encD DNats; rw [List.map_append]; rfl) ?_
            refine SOps.assign rfl ?_
            refine SOps.reSlot (t := 15) rfl (show _ = DV.v (.bool ((qs2.take 0).any (fun q => eqP q.1 (((X[key0.1])[j]), ((Y[key0.2])[j]))))) from rfl) ?_
            refine SOps.nil ?_
            refine SCode.seq ?_
            refine SCode.seqR ?_
            refine SOps.assign rfl ?_
            refine SOps.nil ?_
            refine SCode.block ?_
            refine SCode.loop1 (fun (k : Nat) => (⟨117, [(0, DLs a), (8, .ipin (encX F X)), (9, .ipin (encX G Y)), (10, .sl kq2 3 0 qs2.length), (11, .v (.int .i64 (i : Int))), (12, .ipin (encD (key0, w))), (13, .v (.int .i64 (j : Int))), (14, .ipin (encD ((((X[key0.1])[j]), ((Y[key0.2])[j])), w ++ [j]))), (15, .v (.bool ((qs2.take k).any (fun q => eqP q.1 (((X[key0.1])[j]), ((Y[key0.2])[j])))))), (16, .v (.int .i64 (k : Int)))], [(kq2, .row 91 3 (qs2.map encD))]⟩ : St)) (fun (k : Nat) => k ≤ qs2.length) (fun (k : Nat) => qs2.length - k) (0) (by exact Nat.zero_le _) (St.Le.of ⟨(by first | rfl | (show some _ = some _; simp)), (by first | rfl | (show some _ = some _; simp)), (by first | rfl | (show some _ = some _; simp)), (by first | rfl | (show some _ = some _; simp)), (by first | rfl | (show some _ = some _; simp)), (by first | rfl | (show some _ = some _; simp)), (by first | rfl | (show some _ = some _; simp)), (by first | rfl | (show some _ = some _; simp)), (by first | rfl | (show some _ = some _; simp)), (by first | rfl | (show some _ = some _; simp)), trivial⟩ rfl (by first | rfl | (simp))) ?_
            rintro k hk
            refine SCode.seq ?_
            refine SCode.seqR ?_
            refine SOps.move rfl ?_
            refine SOps.move rfl ?_
            refine SOps.lenSl rfl sliceB_92_91_3 ?_
            refine SOps.bin rfl rfl rfl ?_
            refine SOps.nil ?_
            refine SCode.cond rfl (fun hc4 => ?_) (fun hc4 => ?_)
            · try simp only [decide_eq_true_eq, decide_eq_false_iff_not, Bool.not_eq_true', Bool.not_eq_false', beq_iff_eq, bne_iff_ne, ne_eq, beq_eq_false_iff_ne, bne_eq_false_iff_eq, Int.not_lt, Int.not_le, Nat.not_lt, Nat.not_le, Int.ofNat_lt, Int.ofNat_le, Bool.not_eq_eq_eq_not, Bool.not_true, Bool.not_false] at hc4
              refine SCode.skip ?_
              show SCode _ _ _ _
              refine SCode.seq ?_
              refine SCode.block ?_
              have hk2 : k < qs2.length := by omega
              have hat := any_take (f := fun q : Key => eqP q.1 (((X[key0.1])[j]), ((Y[key0.2])[j]))) hk2
              rw [show eqP (qs2[k]).1 (((X[key0.1])[j]), ((Y[key0.2])[j])) = (decide ((qs2[k]).1.1 = ((X[key0.1])[j])) && decide ((qs2[k]).1.2 = ((Y[key0.2])[j]))) from eqP_and _ _ _ _] at hat
              rcases (show (((qs2.take k).any (fun q => eqP q.1 (((X[key0.1])[j]), ((Y[key0.2])[j])))) = true) ∨ (((qs2.take k).any (fun q => eqP q.1 (((X[key0.1])[j]), ((Y[key0.2])[j])))) = false ∧ (qs2[k]).1.1 = ((X[key0.1])[j]) ∧ (qs2[k]).1.2 = ((Y[key0.2])[j])) ∨ (((qs2.take k).any (fun q => eqP q.1 (((X[key0.1])[j]), ((Y[key0.2])[j])))) = false ∧ (qs2[k]).1.1 = ((X[key0.1])[j]) ∧ ¬ (qs2[k]).1.2 = ((Y[key0.2])[j])) ∨ (((qs2.take k).any (fun q => eqP q.1 (((X[key0.1])[j]), ((Y[key0.2])[j])))) = false ∧ ¬ (qs2[k]).1.1 = ((X[key0.1])[j])) from by rcases Bool.eq_false_or_eq_true ((qs2.take k).any (fun q => eqP q.1 (((X[key0.1])[j]), ((Y[key0.2])[j])))) with h | h <;> by_cases h1 : (qs2[k]).1.1 = ((X[key0.1])[j]) <;> by_cases h2 : (qs2[k]).1.2 = ((Y[key0.2])[j]) <;> simp [h, h1, h2]) with hfd | ⟨hfd, hy1, hy2⟩ | ⟨hfd, hy1, hy2⟩ | ⟨hfd, hy1⟩
              · have hst : ((qs2.take (k + 1)).any (fun q => eqP q.1 (((X[key0.1])[j]), ((Y[key0.2])[j])))) = true := by rw [hat, hfd]; rfl
                apply SCode.drawAuto mixed_ [90, 91, 92, 93, 94, 95, 96, 97, 98, 99, 100, 101, 102, 103, 104, 105, 106, 107, 108, 109, 110, 15] [[.inr 15], [.inl 0], [.inl 1], [.inl 1], [.inl 1], [.inl 1], [.inl 1], [.inl 1], [.inl 1], [.inl 1], [.inl 1], [.inl 10], [.inl 10], [.inl 10], [.inl 10], [.inl 10], [.inl 10], [.inl 10], [.inl 10], [.inl 1], [.inl 1, .inl 19], [.inl 20]]
                · kernel_rfl
                · kernel_rfl
                · apply DOk.cons 90 (.v (.bool true))
                  · rfl
                  · exact (NeedIs.inr _ rfl NeedIs.nil)
                  · intro rest
                    refine SOps.move rfl ?_
                    exact SOps.nil (congrArg (fun b => St.put _ 90 (.v (.bool b))) (hfd))
                  apply DOk.cons 91 
                  · rfl
                  · exact (NeedIs.inl 0 _ _ rfl rfl NeedIs.nil)
                  · intro rest
                    refine SOps.move rfl ?_
                    exact SOps.nil rfl
                  apply DOk.cons 92 
                  · rfl
                  · exact (NeedIs.inl 0 _ _ rfl rfl NeedIs.nil)
                  · intro rest
                    refine SOps.skip rfl ?_
                    exact SOps.nil rfl
                  apply DOk.cons 93 
                  · rfl
                  · exact (NeedIs.inl 1 _ _ rfl rfl NeedIs.nil)
                  · intro rest
                    refine SOps.skip rfl ?_
                    exact SOps.nil rfl
                  apply DOk.cons 94 
                  · rfl
                  · exact (NeedIs.inl 2 _ _ rfl rfl NeedIs.nil)
                  · intro rest
                    refine SOps.skip rfl ?_
                    exact SOps.nil rfl
                  apply DOk.cons 95 
                  · rfl
                  · exact (NeedIs.inl 3 _ _ rfl rfl NeedIs.nil)
                  · intro rest
                    refine SOps.skip rfl ?_
                    exact SOps.nil rfl
                  apply DOk.cons 96 
                  · rfl
                  · exact (NeedIs.inl 4 _ _ rfl rfl NeedIs.nil)
                  · intro rest
                    refine SOps.skip rfl ?_
                    exact SOps.nil rfl
                  apply DOk.cons 97 
                  · rfl
                  · exact (NeedIs.inl 5 _ _ rfl rfl NeedIs.nil)
                  · intro rest
                    refine SOps.skip rfl ?_
                    exact SOps.nil rfl
                  apply DOk.cons 98 
                  · rfl
                  · exact (NeedIs.inl 6 _ _ rfl rfl NeedIs.nil)
                  · intro rest
                    refine SOps.skip rfl ?_
                    exact SOps.nil rfl
                  apply DOk.cons 99 
                  · rfl
                  · exact (NeedIs.inl 7 _ _ rfl rfl NeedIs.nil)
                  · intro rest
                    refine SOps.skip rfl ?_
                    exact SOps.nil rfl
                  apply DOk.cons 100 
                  · rfl
                  · exact (NeedIs.inl 8 _ _ rfl rfl NeedIs.nil)
                  · intro rest
                    refine SOps.skip rfl ?_
                    exact SOps.nil rfl
                  apply DOk.cons 101 
                  · rfl
                  · exact (NeedIs.inl 0 _ _ rfl rfl NeedIs.nil)
                  · intro rest
                    refine SOps.skip rfl ?_
                    exact SOps.nil rfl
                  apply DOk.cons 102 
                  · rfl
                  · exact (NeedIs.inl 1 _ _ rfl rfl NeedIs.nil)
                  · intro rest
                    refine SOps.skip rfl ?_
                    exact SOps.nil rfl
                  apply DOk.cons 103 
                  · rfl
                  · exact (NeedIs.inl 2 _ _ rfl rfl NeedIs.nil)
                  · intro rest
                    refine SOps.skip rfl ?_
                    exact SOps.nil rfl
                  apply DOk.cons 104 
                  · rfl
                  · exact (NeedIs.inl 3 _ _ rfl rfl NeedIs.nil)
                  · intro rest
                    refine SOps.skip rfl ?_
                    exact SOps.nil rfl
                  apply DOk.cons 105 
                  · rfl
                  · exact (NeedIs.inl 4 _ _ rfl rfl NeedIs.nil)
                  · intro rest
                    refine SOps.skip rfl ?_
                    exact SOps.nil rfl
                  apply DOk.cons 106 
                  · rfl
                  · exact (NeedIs.inl 5 _ _ rfl rfl NeedIs.nil)
                  · intro rest
                    refine SOps.skip rfl ?_
                    exact SOps.nil rfl
                  apply DOk.cons 107 
                  · rfl
                  · exact (NeedIs.inl 6 _ _ rfl rfl NeedIs.nil)
                  · intro rest
                    refine SOps.skip rfl ?_
                    exact SOps.nil rfl
                  apply DOk.cons 108 
                  · rfl
                  · exact (NeedIs.inl 7 _ _ rfl rfl NeedIs.nil)
                  · intro rest
                    refine SOps.skip rfl ?_
                    exact SOps.nil rfl
                  apply DOk.cons 109 
                  · rfl
                  · exact (NeedIs.inl 17 _ _ rfl rfl NeedIs.nil)
                  · intro rest
                    refine SOps.skip rfl ?_
                    exact SOps.nil rfl
                  apply DOk.cons 110 
                  · rfl
                  · exact (NeedIs.inl 18 _ _ rfl rfl (NeedIs.inl 0 _ _ rfl rfl NeedIs.nil))
                  · intro rest
                    refine SOps.pick rfl rfl ?_
                    exact SOps.nil rfl
                  apply DOk.cons 15 
                  · rfl
                  · exact (NeedIs.inl 0 _ _ rfl rfl NeedIs.nil)
                  · intro rest
                    refine SOps.assign rfl ?_
                    exact SOps.nil rfl
                  exact DOk.nil
                · rfl
                · show SCode _ _ _ _
                  refine SCode.region ?_
                  refine SOps.move rfl ?_
                  refine SOps.addI rfl rfl (by first | omega | (simp only [lenB] <;> omega)) (by first | omega | (simp only [lenB] <;> omega)) ?_
                  refine SOps.assign rfl ?_
                  refine SOps.nil ?_
                  exact ⟨k + 1, by omega, by omega, St.Le.of ⟨rfl, rfl, rfl, rfl, rfl, rfl, rfl, rfl, (by show some _ = some _; rw [hst]), rfl, trivial⟩⟩
              · have hst : ((qs2.take (k + 1)).any (fun q => eqP q.1 (((X[key0.1])[j]), ((Y[key0.2])[j])))) = true := by rw [hat, hfd, decide_eq_true hy1, decide_eq_true hy2]; rfl
                apply SCode.drawAuto mixed_ [90, 91, 92, 93, 94, 95, 96, 97, 98, 99, 100, 101, 102, 103, 104, 105, 106, 107, 108, 109, 110, 15] [[.inr 15], [.inl 0], [.inl 1, .inr 10], [.inl 1, .inr 16], [.inl 1, .inl 2, .inl 3], [.inl 1, .inl 4], [.inl 1, .inl 5], [.inl 1, .inr 14], [.inl 1, .inl 7], [.inl 1, .inl 6, .inl 8], [.inl 1, .inl 9], [.inl 10, .inr 10], [.inl 10, .inr 16], [.inl 10, .inl 11, .inl 12], [.inl 10, .inl 13], [.inl 10, .inl 14], [.inl 10, .inr 14], [.inl 10, .inl 16], [.inl 10, .inl 15, .inl 17], [.inl 1, .inl 10, .inl 18], [.inl 1, .inl 19], [.inl 20]]
                · kernel_rfl
                · kernel_rfl
                · apply DOk.cons 90 (.v (.bool false))
                  · rfl
                  · exact (NeedIs.inr _ rfl NeedIs.nil)
                  · intro rest
                    refine SOps.move rfl ?_
                    exact SOps.nil (congrArg (fun b => St.put _ 90 (.v (.bool b))) (hfd))
                  apply DOk.cons 91 
                  · rfl
                  · exact (NeedIs.inl 0 _ _ rfl rfl NeedIs.nil)
                  · intro rest
                    refine SOps.move rfl ?_
                    exact SOps.nil rfl
                  apply DOk.cons 92 
                  · rfl
                  · exact (NeedIs.inl 0 _ _ rfl rfl (NeedIs.inr _ rfl NeedIs.nil))
                  · intro rest
                    refine SOps.move rfl ?_
                    exact SOps.nil rfl
                  apply DOk.cons 93 
                  · rfl
                  · exact (NeedIs.inl 1 _ _ rfl rfl (NeedIs.inr _ rfl NeedIs.nil))
                  · intro rest
                    refine SOps.move rfl ?_
                    exact SOps.nil rfl
                  apply DOk.cons 94 
                  · rfl
                  · exact (NeedIs.inl 2 _ _ rfl rfl (NeedIs.inl 1 _ _ rfl rfl (NeedIs.inl 0 _ _ rfl rfl NeedIs.nil)))
                  · intro rest
                    refine SOps.indexS (k) rfl rfl sliceB_92_91_3 (by first | omega | (simp only [lenB] <;> omega)) (by first | omega | (simp only [lenB] <;> omega)) ?_
                    exact SOps.nil rfl
                  apply DOk.cons 95 
                  · rfl
                  · exact (NeedIs.inl 3 _ _ rfl rfl (NeedIs.inl 0 _ _ rfl rfl NeedIs.nil))
                  · intro rest
                    refine SOps.fieldRef rfl fieldB_91_0_0 ?_
                    exact SOps.nil rfl
                  apply DOk.cons 96 
                  · rfl
                  · exact (NeedIs.inl 4 _ _ rfl rfl (NeedIs.inl 0 _ _ rfl rfl NeedIs.nil))
                  · intro rest
                    refine SOps.loadF 0 (k) 0 rfl flatB_3 rfl (by first | rfl | omega) (by first | omega | (simp; done) | (simp; omega)) rfl ?_
                    exact SOps.nil rfl
                  apply DOk.cons 97 
                  · rfl
                  · exact (NeedIs.inl 5 _ _ rfl rfl (NeedIs.inr _ rfl NeedIs.nil))
                  · intro rest
                    refine SOps.fieldPin rfl fieldB_91_0_0 ?_
                    exact SOps.nil rfl
                  apply DOk.cons 98 
                  · rfl
                  · exact (NeedIs.inl 6 _ _ rfl rfl (NeedIs.inl 0 _ _ rfl rfl NeedIs.nil))
                  · intro rest
                    refine SOps.loadPin rfl flatB_3 ?_
                    exact SOps.nil rfl
                  apply DOk.cons 99 (.v (.bool true))
                  · rfl
                  · exact (NeedIs.inl 7 _ _ rfl rfl (NeedIs.inl 2 _ _ rfl rfl (NeedIs.inl 0 _ _ rfl rfl NeedIs.nil)))
                  · intro rest
                    refine SOps.bin rfl rfl rfl ?_
                    exact SOps.nil (congrArg (fun b => St.put _ 99 (.v (.bool b))) (beq_iff_eq.2 (congrArg (fun n : Nat => (n : Int)) hy1)))
                  apply DOk.cons 100 
                  · rfl
                  · exact (NeedIs.inl 8 _ _ rfl rfl (NeedIs.inl 0 _ _ rfl rfl NeedIs.nil))
                  · intro rest
                    refine SOps.move rfl ?_
                    exact SOps.nil rfl
                  apply DOk.cons 101 
                  · rfl
                  · exact (NeedIs.inl 0 _ _ rfl rfl (NeedIs.inr _ rfl NeedIs.nil))
                  · intro rest
                    refine SOps.move rfl ?_
                    exact SOps.nil rfl
                  apply DOk.cons 102 
                  · rfl
                  · exact (NeedIs.inl 1 _ _ rfl rfl (NeedIs.inr _ rfl NeedIs.nil))
                  · intro rest
                    refine SOps.move rfl ?_
                    exact SOps.nil rfl
                  apply DOk.cons 103 
                  · rfl
                  · exact (NeedIs.inl 2 _ _ rfl rfl (NeedIs.inl 1 _ _ rfl rfl (NeedIs.inl 0 _ _ rfl rfl NeedIs.nil)))
                  · intro rest
                    refine SOps.indexS (k) rfl rfl sliceB_92_91_3 (by first | omega | (simp only [lenB] <;> omega)) (by first | omega | (simp only [lenB] <;> omega)) ?_
                    exact SOps.nil rfl
                  apply DOk.cons 104 
                  · rfl
                  · exact (NeedIs.inl 3 _ _ rfl rfl (NeedIs.inl 0 _ _ rfl rfl NeedIs.nil))
                  · intro rest
                    refine SOps.fieldRef rfl fieldB_91_1_1 ?_
                    exact SOps.nil rfl
                  apply DOk.cons 105 
                  · rfl
                  · exact (NeedIs.inl 4 _ _ rfl rfl (NeedIs.inl 0 _ _ rfl rfl NeedIs.nil))
                  · intro rest
                    refine SOps.loadF 0 (k) 1 rfl flatB_3 rfl (by first | rfl | omega) (by first | omega | (simp; done) | (simp; omega)) rfl ?_
                    exact SOps.nil rfl
                  apply DOk.cons 106 
                  · rfl
                  · exact (NeedIs.inl 5 _ _ rfl rfl (NeedIs.inr _ rfl NeedIs.nil))
                  · intro rest
                    refine SOps.fieldPin rfl fieldB_91_1_1 ?_
                    exact SOps.nil rfl
                  apply DOk.cons 107 
                  · rfl
                  · exact (NeedIs.inl 6 _ _ rfl rfl (NeedIs.inl 0 _ _ rfl rfl NeedIs.nil))
                  · intro rest
                    refine SOps.loadPin rfl flatB_3 ?_
                    exact SOps.nil rfl
                  apply DOk.cons 108 (.v (.bool true))
                  · rfl
                  · exact (NeedIs.inl 7 _ _ rfl rfl (NeedIs.inl 2 _ _ rfl rfl (NeedIs.inl 0 _ _ rfl rfl NeedIs.nil)))
                  · intro rest
                    refine SOps.bin rfl rfl rfl ?_
                    exact SOps.nil (congrArg (fun b => St.put _ 108 (.v (.bool b))) (beq_iff_eq.2 (congrArg (fun n : Nat => (n : Int)) hy2)))
                  apply DOk.cons 109 
                  · rfl
                  · exact (NeedIs.inl 17 _ _ rfl rfl (NeedIs.inl 8 _ _ rfl rfl (NeedIs.inl 0 _ _ rfl rfl NeedIs.nil)))
                  · intro rest
                    refine SOps.pick rfl rfl ?_
                    exact SOps.nil rfl
                  apply DOk.cons 110 
                  · rfl
                  · exact (NeedIs.inl 18 _ _ rfl rfl (NeedIs.inl 0 _ _ rfl rfl NeedIs.nil))
                  · intro rest
                    refine SOps.pick rfl rfl ?_
                    exact SOps.nil rfl
                  apply DOk.cons 15 
                  · rfl
                  · exact (NeedIs.inl 0 _ _ rfl rfl NeedIs.nil)
                  · intro rest
                    refine SOps.assign rfl ?_
                    exact SOps.nil rfl
                  exact DOk.nil
                · rfl
                · show SCode _ _ _ _
                  refine SCode.region ?_
                  refine SOps.move rfl ?_
                  refine SOps.addI rfl rfl (by first | omega | (simp only [lenB] <;> omega)) (by first | omega | (simp only [lenB] <;> omega)) ?_
                  refine SOps.assign rfl ?_
                  refine SOps.nil ?_
                  exact ⟨k + 1, by omega, by omega, St.Le.of ⟨rfl, rfl, rfl, rfl, rfl, rfl, rfl, rfl, (by show some _ = some _; rw [hst]), rfl, trivial⟩⟩
              · have hst : ((qs2.take (k + 1)).any (fun q => eqP q.1 (((X[key0.1])[j]), ((Y[key0.2])[j])))) = false := by rw [hat, hfd, decide_eq_true hy1, decide_eq_false hy2]; rfl
                apply SCode.drawAuto mixed_ [90, 91, 92, 93, 94, 95, 96, 97, 98, 99, 100, 101, 102, 103, 104, 105, 106, 107, 108, 109, 110, 15] [[.inr 15], [.inl 0], [.inl 1, .inr 10], [.inl 1, .inr 16], [.inl 1, .inl 2, .inl 3], [.inl 1, .inl 4], [.inl 1, .inl 5], [.inl 1, .inr 14], [.inl 1, .inl 7], [.inl 1, .inl 6, .inl 8], [.inl 1, .inl 9], [.inl 10, .inr 10], [.inl 10, .inr 16], [.inl 10, .inl 11, .inl 12], [.inl 10, .inl 13], [.inl 10, .inl 14], [.inl 10, .inr 14], [.inl 10, .inl 16], [.inl 10, .inl 15, .inl 17], [.inl 1, .inl 10, .inl 18], [.inl 1, .inl 19], [.inl 20]]
                · kernel_rfl
                · kernel_rfl
                · apply DOk.cons 90 (.v (.bool false))
                  · rfl
                  · exact (NeedIs.inr _ rfl NeedIs.nil)
                  · intro rest
                    refine SOps.move rfl ?_
                    exact SOps.nil (congrArg (fun b => St.put _ 90 (.v (.bool b))) (hfd))
                  apply DOk.cons 91 
                  · rfl
                  · exact (NeedIs.inl 0 _ _ rfl rfl NeedIs.nil)
                  · intro rest
                    refine SOps.move rfl ?_
                    exact SOps.nil rfl
                  apply DOk.cons 92 
                  · rfl
                  · exact (NeedIs.inl 0 _ _ rfl rfl (NeedIs.inr _ rfl NeedIs.nil))
                  · intro rest
                    refine SOps.move rfl ?_
                    exact SOps.nil rfl
                  apply DOk.cons 93 
                  · rfl
                  · exact (NeedIs.inl 1 _ _ rfl rfl (NeedIs.inr _ rfl NeedIs.nil))
                  · intro rest
                    refine SOps.move rfl ?_
                    exact SOps.nil rfl
                  apply DOk.cons 94 
                  · rfl
                  · exact (NeedIs.inl 2 _ _ rfl rfl (NeedIs.inl 1 _ _ rfl rfl (NeedIs.inl 0 _ _ rfl rfl NeedIs.nil)))
                  · intro rest
                    refine SOps.indexS (k) rfl rfl sliceB_92_91_3 (by first | omega | (simp only [lenB] <;> omega)) (by first | omega | (simp only [lenB] <;> omega)) ?_
                    exact SOps.nil rfl
                  apply DOk.cons 95 
                  · rfl
                  · exact (NeedIs.inl 3 _ _ rfl rfl (NeedIs.inl 0 _ _ rfl rfl NeedIs.nil))
                  · intro rest
                    refine SOps.fieldRef rfl fieldB_91_0_0 ?_
                    exact SOps.nil rfl
                  apply DOk.cons 96 
                  · rfl
                  · exact (NeedIs.inl 4 _ _ rfl rfl (NeedIs.inl 0 _ _ rfl rfl NeedIs.nil))
                  · intro rest
                    refine SOps.loadF 0 (k) 0 rfl flatB_3 rfl (by first | rfl | omega) (by first | omega | (simp; done) | (simp; omega)) rfl ?_
                    exact SOps.nil rfl
                  apply DOk.cons 97 
                  · rfl
                  · exact (NeedIs.inl 5 _ _ rfl rfl (NeedIs.inr _ rfl NeedIs.nil))
                  · intro rest
                    refine SOps.fieldPin rfl fieldB_91_0_0 ?_
                    exact SOps.nil rfl
                  apply DOk.cons 98 
                  · rfl
                  · exact (NeedIs.inl 6 _ _ rfl rfl (NeedIs.inl 0 _ _ rfl rfl NeedIs.nil))
                  · intro rest
                    refine SOps.loadPin rfl flatB_3 ?_
                    exact SOps.nil rfl
                  apply DOk.cons 99 (.v (.bool true))
                  · rfl
                  · exact (NeedIs.inl 7 _ _ rfl rfl (NeedIs.inl 2 _ _ rfl rfl (NeedIs.inl 0 _ _ rfl rfl NeedIs.nil)))
                  · intro rest
                    refine SOps.bin rfl rfl rfl ?_
                    exact SOps.nil (congrArg (fun b => St.put _ 99 (.v (.bool b))) (beq_iff_eq.2 (congrArg (fun n : Nat => (n : Int)) hy1)))
                  apply DOk.cons 100 
                  · rfl
                  · exact (NeedIs.inl 8 _ _ rfl rfl (NeedIs.inl 0 _ _ rfl rfl NeedIs.nil))
                  · intro rest
                    refine SOps.move rfl ?_
                    exact SOps.nil rfl
                  apply DOk.cons 101 
                  · rfl
                  · exact (NeedIs.inl 0 _ _ rfl rfl (NeedIs.inr _ rfl NeedIs.nil))
                  · intro rest
                    refine SOps.move rfl ?_
                    exact SOps.nil rfl
                  apply DOk.cons 102 
                  · rfl
                  · exact (NeedIs.inl 1 _ _ rfl rfl (NeedIs.inr _ rfl NeedIs.nil))
                  · intro rest
                    refine SOps.move rfl ?_
                    exact SOps.nil rfl
                  apply DOk.cons 103 
                  · rfl
                  · exact (NeedIs.inl 2 _ _ rfl rfl (NeedIs.inl 1 _ _ rfl rfl (NeedIs.inl 0 _ _ rfl rfl NeedIs.nil)))
                  · intro rest
                    refine SOps.indexS (k) rfl rfl sliceB_92_91_3 (by first | omega | (simp only [lenB] <;> omega)) (by first | omega | (simp only [lenB] <;> omega)) ?_
                    exact SOps.nil rfl
                  apply DOk.cons 104 
                  · rfl
                  · exact (NeedIs.inl 3 _ _ rfl rfl (NeedIs.inl 0 _ _ rfl rfl NeedIs.nil))
                  · intro rest
                    refine SOps.fieldRef rfl fieldB_91_1_1 ?_
                    exact SOps.nil rfl
                  apply DOk.cons 105 
                  · rfl
                  · exact (NeedIs.inl 4 _ _ rfl rfl (NeedIs.inl 0 _ _ rfl rfl NeedIs.nil))
                  · intro rest
                    refine SOps.loadF 0 (k) 1 rfl flatB_3 rfl (by first | rfl | omega) (by first | omega | (simp; done) | (simp; omega)) rfl ?_
                    exact SOps.nil rfl
                  apply DOk.cons 106 
                  · rfl
                  · exact (NeedIs.inl 5 _ _ rfl rfl (NeedIs.inr _ rfl NeedIs.nil))
                  · intro rest
                    refine SOps.fieldPin rfl fieldB_91_1_1 ?_
                    exact SOps.nil rfl
                  apply DOk.cons 107 
                  · rfl
                  · exact (NeedIs.inl 6 _ _ rfl rfl (NeedIs.inl 0 _ _ rfl rfl NeedIs.nil))
                  · intro rest
                    refine SOps.loadPin rfl flatB_3 ?_
                    exact SOps.nil rfl
                  apply DOk.cons 108 (.v (.bool false))
                  · rfl
                  · exact (NeedIs.inl 7 _ _ rfl rfl (NeedIs.inl 2 _ _ rfl rfl (NeedIs.inl 0 _ _ rfl rfl NeedIs.nil)))
                  · intro rest
                    refine SOps.bin rfl rfl rfl ?_
                    exact SOps.nil (congrArg (fun b => St.put _ 108 (.v (.bool b))) (beq_eq_false_iff_ne.2 (fun e => hy2 (Int.ofNat_inj.1 e))))
                  apply DOk.cons 109 
                  · rfl
                  · exact (NeedIs.inl 17 _ _ rfl rfl (NeedIs.inl 8 _ _ rfl rfl (NeedIs.inl 0 _ _ rfl rfl NeedIs.nil)))
                  · intro rest
                    refine SOps.pick rfl rfl ?_
                    exact SOps.nil rfl
                  apply DOk.cons 110 
                  · rfl
                  · exact (NeedIs.inl 18 _ _ rfl rfl (NeedIs.inl 0 _ _ rfl rfl NeedIs.nil))
                  · intro rest
                    refine SOps.pick rfl rfl ?_
                    exact SOps.nil rfl
                  apply DOk.cons 15 
                  · rfl
                  · exact (NeedIs.inl 0 _ _ rfl rfl NeedIs.nil)
                  · intro rest
                    refine SOps.assign rfl ?_
                    exact SOps.nil rfl
                  exact DOk.nil
                · rfl
                · show SCode _ _ _ _
                  refine SCode.region ?_
                  refine SOps.move rfl ?_
                  refine SOps.addI rfl rfl (by first | omega | (simp only [lenB] <;> omega)) (by first | omega | (simp only [lenB] <;> omega)) ?_
                  refine SOps.assign rfl ?_
                  refine SOps.nil ?_
                  exact ⟨k + 1, by omega, by omega, St.Le.of ⟨rfl, rfl, rfl, rfl, rfl, rfl, rfl, rfl, (by show some _ = some _; rw [hst]), rfl, trivial⟩⟩
              · have hst : ((qs2.take (k + 1)).any (fun q => eqP q.1 (((X[key0.1])[j]), ((Y[key0.2])[j])))) = false := by rw [hat, hfd, decide_eq_false hy1]; rfl
                apply SCode.drawAuto mixed_ [90, 91, 92, 93, 94, 95, 96, 97, 98, 99, 100, 101, 102, 103, 104, 105, 106, 107, 108, 109, 110, 15] [[.inr 15], [.inl 0], [.inl 1, .inr 10], [.inl 1, .inr 16], [.inl 1, .inl 2, .inl 3], [.inl 1, .inl 4], [.inl 1, .inl 5], [.inl 1, .inr 14], [.inl 1, .inl 7], [.inl 1, .inl 6, .inl 8], [.inl 1, .inl 9], [.inl 10], [.inl 10], [.inl 10], [.inl 10], [.inl 10], [.inl 10], [.inl 10], [.inl 10], [.inl 1, .inl 10, .inl 18], [.inl 1, .inl 19], [.inl 20]]
                · kernel_rfl
                · kernel_rfl
                · apply DOk.cons 90 (.v (.bool false))
                  · rfl
                  · exact (NeedIs.inr _ rfl NeedIs.nil)
                  · intro rest
                    refine SOps.move rfl ?_
                    exact SOps.nil (congrArg (fun b => St.put _ 90 (.v (.bool b))) (hfd))
                  apply DOk.cons 91 
                  · rfl
                  · exact (NeedIs.inl 0 _ _ rfl rfl NeedIs.nil)
                  · intro rest
                    refine SOps.move rfl ?_
                    exact SOps.nil rfl
                  apply DOk.cons 92 
                  · rfl
                  · exact (NeedIs.inl 0 _ _ rfl rfl (NeedIs.inr _ rfl NeedIs.nil))
                  · intro rest
                    refine SOps.move rfl ?_
                    exact SOps.nil rfl
                  apply DOk.cons 93 
                  · rfl
                  · exact (NeedIs.inl 1 _ _ rfl rfl (NeedIs.inr _ rfl NeedIs.nil))
                  · intro rest
                    refine SOps.move rfl ?_
                    exact SOps.nil rfl
                  apply DOk.cons 94 
                  · rfl
                  · exact (NeedIs.inl 2 _ _ rfl rfl (NeedIs.inl 1 _ _ rfl rfl (NeedIs.inl 0 _ _ rfl rfl NeedIs.nil)))
                  · intro rest
                    refine SOps.indexS (k) rfl rfl sliceB_92_91_3 (by first | omega | (simp only [lenB] <;> omega)) (by first | omega | (simp only [lenB] <;> omega)) ?_
                    exact SOps.nil rfl
                  apply DOk.cons 95 
                  · rfl
                  · exact (NeedIs.inl 3 _ _ rfl rfl (NeedIs.inl 0 _ _ rfl rfl NeedIs.nil))
                  · intro rest
                    refine SOps.fieldRef rfl fieldB_91_0_0 ?_
                    exact SOps.nil rfl
                  apply DOk.cons 96 
                  · rfl
                  · exact (NeedIs.inl 4 _ _ rfl rfl (NeedIs.inl 0 _ _ rfl rfl NeedIs.nil))
                  · intro rest
                    refine SOps.loadF 0 (k) 0 rfl flatB_3 rfl (by first | rfl | omega) (by first | omega | (simp; done) | (simp; omega)) rfl ?_
                    exact SOps.nil rfl
                  apply DOk.cons 97 
                  · rfl
                  · exact (NeedIs.inl 5 _ _ rfl rfl (NeedIs.inr _ rfl NeedIs.nil))
                  · intro rest
                    refine SOps.fieldPin rfl fieldB_91_0_0 ?_
                    exact SOps.nil rfl
                  apply DOk.cons 98 
                  · rfl
                  · exact (NeedIs.inl 6 _ _ rfl rfl (NeedIs.inl 0 _ _ rfl rfl NeedIs.nil))
                  · intro rest
                    refine SOps.loadPin rfl flatB_3 ?_
                    exact SOps.nil rfl
                  apply DOk.cons 99 (.v (.bool false))
                  · rfl
                  · exact (NeedIs.inl 7 _ _ rfl rfl (NeedIs.inl 2 _ _ rfl rfl (NeedIs.inl 0 _ _ rfl rfl NeedIs.nil)))
                  · intro rest
                    refine SOps.bin rfl rfl rfl ?_
                    exact SOps.nil (congrArg (fun b => St.put _ 99 (.v (.bool b))) (beq_eq_false_iff_ne.2 (fun e => hy1 (Int.ofNat_inj.1 e))))
                  apply DOk.cons 100 
                  · rfl
                  · exact (NeedIs.inl 8 _ _ rfl rfl (NeedIs.inl 0 _ _ rfl rfl NeedIs.nil))
                  · intro rest
                    refine SOps.move rfl ?_
                    exact SOps.nil rfl
                  apply DOk.cons 101 
                  · rfl
                  · exact (NeedIs.inl 0 _ _ rfl rfl NeedIs.nil)
                  · intro rest
                    refine SOps.skip rfl ?_
                    exact SOps.nil rfl
                  apply DOk.cons 102 
                  · rfl
                  · exact (NeedIs.inl 1 _ _ rfl rfl NeedIs.nil)
                  · intro rest
                    refine SOps.skip rfl ?_
                    exact SOps.nil rfl
                  apply DOk.cons 103 
                  · rfl
                  · exact (NeedIs.inl 2 _ _ rfl rfl NeedIs.nil)
                  · intro rest
                    refine SOps.skip rfl ?_
                    exact SOps.nil rfl
                  apply DOk.cons 104 
                  · rfl
                  · exact (NeedIs.inl 3 _ _ rfl rfl NeedIs.nil)
                  · intro rest
                    refine SOps.skip rfl ?_
                    exact SOps.nil rfl
                  apply DOk.cons 105 
                  · rfl
                  · exact (NeedIs.inl 4 _ _ rfl rfl NeedIs.nil)
                  · intro rest
                    refine SOps.skip rfl ?_
                    exact SOps.nil rfl
                  apply DOk.cons 106 
                  · rfl
                  · exact (NeedIs.inl 5 _ _ rfl rfl NeedIs.nil)
                  · intro rest
                    refine SOps.skip rfl ?_
                    exact SOps.nil rfl
                  apply DOk.cons 107 
                  · rfl
                  · exact (NeedIs.inl 6 _ _ rfl rfl NeedIs.nil)
                  · intro rest
                    refine SOps.skip rfl ?_
                    exact SOps.nil rfl
                  apply DOk.cons 108 
                  · rfl
                  · exact (NeedIs.inl 7 _ _ rfl rfl NeedIs.nil)
                  · intro rest
                    refine SOps.skip rfl ?_
                    exact SOps.nil rfl
                  apply DOk.cons 109 
                  · rfl
                  · exact (NeedIs.inl 17 _ _ rfl rfl (NeedIs.inl 8 _ _ rfl rfl (NeedIs.inl 0 _ _ rfl rfl NeedIs.nil)))
                  · intro rest
                    refine SOps.pick rfl rfl ?_
                    exact SOps.nil rfl
                  apply DOk.cons 110 
                  · rfl
                  · exact (NeedIs.inl 18 _ _ rfl rfl (NeedIs.inl 0 _ _ rfl rfl NeedIs.nil))
                  · intro rest
                    refine SOps.pick rfl rfl ?_
                    exact SOps.nil rfl
                  apply DOk.cons 15 
                  · rfl
                  · exact (NeedIs.inl 0 _ _ rfl rfl NeedIs.nil)
                  · intro rest
                    refine SOps.assign rfl ?_
                    exact SOps.nil rfl
                  exact DOk.nil
                · rfl
                · show SCode _ _ _ _
                  refine SCode.region ?_
                  refine SOps.move rfl ?_
                  refine SOps.addI rfl rfl (by first | omega | (simp only [lenB] <;> omega)) (by first | omega | (simp only [lenB] <;> omega)) ?_
                  refine SOps.assign rfl ?_
                  refine SOps.nil ?_
                  exact ⟨k + 1, by omega, by omega, St.Le.of ⟨rfl, rfl, rfl, rfl, rfl, rfl, rfl, rfl, (by show some _ = some _; rw [hst]), rfl, trivial⟩⟩
            · try simp only [decide_eq_true_eq, decide_eq_false_iff_not, Bool.not_eq_true', Bool.not_eq_false', beq_iff_eq, bne_iff_ne, ne_eq, beq_eq_false_iff_ne, bne_eq_false_iff_eq, Int.not_lt, Int.not_le, Nat.not_lt, Nat.not_le, Int.ofNat_lt, Int.ofNat_le, Bool.not_eq_eq_eq_not, Bool.not_true, Bool.not_false] at hc4
              refine SCode.exit ?_
              show SCode _ _ _ _
              refine SCode.seqR ?_
              refine SOps.move rfl ?_
              refine SOps.un rfl rfl ?_
              refine SOps.nil ?_
              refine SCode.cond rfl (fun hc5 => ?_) (fun hc5 => ?_)
              · try simp only [decide_eq_true_eq, decide_eq_false_iff_not, Bool.not_eq_true', Bool.not_eq_false', beq_iff_eq, bne_iff_ne, ne_eq, beq_eq_false_iff_ne, bne_eq_false_iff_eq, Int.not_lt, Int.not_le, Nat.not_lt, Nat.not_le, Int.ofNat_lt, Int.ofNat_le, Bool.not_eq_eq_eq_not, Bool.not_true, Bool.not_false] at hc5
                have hmem : (((X[key0.1])[j]), ((Y[key0.2])[j])) ∉ qs2.map (·.1) := by have h := hc5; rw [List.take_of_length_le (by omega), any_mem] at h; exact of_decide_eq_false h
                refine SCode.region ?_
                refine SOps.move rfl ?_
                refine SOps.loadPinA rfl aggB_91_3 (Nat.le_of_ble_eq_true rfl) ?_
                refine SOps.litF rfl sliceB_92_91_3 zeroIs_91 rfl ?_
                refine SOps.appendOwn 0 sliceB_92_91_3 elemB_91_3_40 rfl rfl rfl (by simp) SrcD.isl (by simp) (by first | (simp [lenB] <;> (first | omega | (simp only [lenB] <;> omega))) | (simp only [lenB]; (first | omega | (simp only [lenB] <;> omega)))) (by first | (simp <;> (first | omega | (simp only [lenB] <;> omega))) | (first | omega | (simp only [lenB] <;> omega))) (fun b8 hb_8 => ?_)
                refine SOps.assign rfl ?_
                refine SOps.nil ?_
                show SCode _ _ _ _
                refine SCode.region ?_
                refine SOps.move rfl ?_
                refine SOps.addI rfl rfl (by first | omega | (simp only [lenB] <;> omega)) (by first | omega | (simp only [lenB] <;> omega)) ?_
                refine SOps.assign rfl ?_
                refine SOps.nil ?_
                first
                  | exact ⟨j + 1, qs2 ++ [((((X[key0.1])[j]), ((Y[key0.2])[j])), w ++ [j])], b8, ⟨by rw [List.getElem?_append_left (List.getElem?_eq_some_iff.1 hqi2).1]; exact hqi2, by omega, hd2.add hqi2 hja hmem hnk, by rw [← hrw, nxI_drop hk1 hk2 hr1 hr2, rowD_new hmem]⟩, by omega, St.Le.of ⟨rfl, rfl, rfl, (by show some _ = some _; simp), rfl, rfl, rfl, trivial⟩ rfl (by rw [List.map_append]; rfl)⟩
                  | exact ⟨j + 1, qs2, kq2, ⟨hqi2, by omega, hd2, by rw [← hrw, nxI_drop hk1 hk2 hr1 hr2, rowD_in hmem]⟩, by omega, St.Le.of ⟨rfl, rfl, rfl, rfl, rfl, rfl, rfl, trivial⟩⟩
              · try simp only [decide_eq_true_eq, decide_eq_false_iff_not, Bool.not_eq_true', Bool.not_eq_false', beq_iff_eq, bne_iff_ne, ne_eq, beq_eq_false_iff_ne, bne_eq_false_iff_eq, Int.not_lt, Int.not_le, Nat.not_lt, Nat.not_le, Int.ofNat_lt, Int.ofNat_le, Bool.not_eq_eq_eq_not, Bool.not_true, Bool.not_false] at hc5
                have hmem : (((X[key0.1])[j]), ((Y[key0.2])[j])) ∈ qs2.map (·.1) := by have h := hc5; rw [List.take_of_length_le (by omega), any_mem] at h; exact of_decide_eq_true h
                refine SCode.skip ?_
                show SCode _ _ _ _
                refine SCode.region ?_
                refine SOps.move rfl ?_
                refine SOps.addI rfl rfl (by first | omega | (simp only [lenB] <;> omega)) (by first | omega | (simp only [lenB] <;> omega)) ?_
                refine SOps.assign rfl ?_
                refine SOps.nil ?_
                first
                  | exact ⟨j + 1, qs2 ++ [((((X[key0.1])[j]), ((Y[key0.2])[j])), w ++ [j])], b8, ⟨by rw [List.getElem?_append_left (List.getElem?_eq_some_iff.1 hqi2).1]; exact hqi2, by omega, hd2.add hqi2 hja hmem hnk, by rw [← hrw, nxI_drop hk1 hk2 hr1 hr2, rowD_new hmem]⟩, by omega, St.Le.of ⟨rfl, rfl, rfl, (by show some _ = some _; simp), rfl, rfl, rfl, trivial⟩ rfl (by rw [List.map_append]; rfl)⟩
                  | exact ⟨j + 1, qs2, kq2, ⟨hqi2, by omega, hd2, by rw [← hrw, nxI_drop hk1 hk2 hr1 hr2, rowD_in hmem]⟩, by omega, St.Le.of ⟨rfl, rfl, rfl, rfl, rfl, rfl, rfl, trivial⟩⟩
        · try simp only [decide_eq_true_eq, decide_eq_false_iff_not, Bool.not_eq_true', Bool.not_eq_false', beq_iff_eq, bne_iff_ne, ne_eq, beq_eq_false_iff_ne, bne_eq_false_iff_eq, Int.not_lt, Int.not_le, Nat.not_lt, Nat.not_le, Int.ofNat_lt, Int.ofNat_le, Bool.not_eq_eq_eq_not, Bool.not_true, Bool.not_false] at hc3
          refine SCode.exit ?_
          show SCode _ _ _ _
          refine SCode.region ?_
          refine SOps.move rfl ?_
          refine SOps.addI rfl rfl (by first | omega | (simp only [lenB] <;> omega)) (by first | omega | (simp only [lenB] <;> omega)) ?_
          refine SOps.assign rfl ?_
          refine SOps.nil ?_
          exact ⟨i + 1, qs2, kq2, ⟨by have := (List.getElem?_eq_some_iff.1 hqi2).1; omega, by have := (List.getElem?_eq_some_iff.1 hqi2).1; omega, hd2, by rw [← hdf, show 65537 - i = (65537 - (i + 1)) + 1 by omega, difE_some hqi, if_neg hnb, ← hrw, nxI_end hT1 hk1 (by omega)]; rfl⟩, by omega, St.Le.of ⟨rfl, rfl, rfl, rfl, rfl, trivial⟩⟩
  · try simp only [decide_eq_true_eq, decide_eq_false_iff_not, Bool.not_eq_true', Bool.not_eq_false', beq_iff_eq, bne_iff_ne, ne_eq, beq_eq_false_iff_ne, bne_eq_false_iff_eq, Int.not_lt, Int.not_le, Nat.not_lt, Nat.not_le, Int.ofNat_lt, Int.ofNat_le, Bool.not_eq_eq_eq_not, Bool.not_true, Bool.not_false] at hc1
    refine SCode.exit ?_
    show SCode _ _ _ _
    refine SCode.seqR ?_
    refine SOps.assign rfl ?_
    refine SOps.assign rfl ?_
    refine SOps.nil ?_
    refine SCode.drop ?_
    refine SCode.ret ?_
    exact ⟨_, Res.two (.tmp rfl) (.tmp rfl), by rw [← hdf, difE_none (by omega)]; rfl, rfl⟩
theorem difR_some {a : List Letter} {p q : List Item} {w : List Nat} (h : difR a p q = some w) : validPat a p = true ∧ validPat a q = true := by
  rw [difR] at h
  split at h
  · rename_i h2; simpa using h2
  · cases h
theorem l6Differs (hV : VS E) (hA : AW6 E) (a : List Letter) (p q : List Item) (hp : ∀ x ∈ p, x.lets.size ≤ 1048576) (hq : ∀ x ∈ q, x.lets.size ≤ 1048576) : GCall Tryd.prog E 7 [DLs a, DIts p, DIts q] [] (fun d H => d = .v (.bool true) ∧ H = []) := by
  refine GCall.body (C := ⟨Tryd.prog, E, true⟩) Tryd.func7 rfl (fun _ => rfl) (by kernel_rfl) rfl ?_
  refine SCode.seqR ?_
  refine SOps.assign rfl ?_
  refine SOps.nil ?_
  refine SCode.seq ?_
  refine SCode.seqR ?_
  refine SOps.callP hA rfl ?_
  rintro _ rfl
  refine SOps.un rfl rfl ?_
  refine SOps.nil ?_
  refine SCode.cond rfl (fun h => by cases h) (fun _ => ?_)
  refine SCode.skip ?_
  show SCode _ _ _ _
  refine SCode.seq ?_
  refine SCode.seqR ?_
  refine SOps.move rfl ?_
  refine SOps.lenM rfl sliceB_22_69_2 ?_
  refine SOps.bin rfl rfl rfl ?_
  refine SOps.move rfl ?_
  refine SOps.caseB 16 rfl (fun hb1 => ?_) (fun hb1 => ?_)
  · try simp only [decide_eq_true_eq, decide_eq_false_iff_not, Bool.not_eq_true', Bool.not_eq_false', beq_iff_eq, bne_iff_ne, ne_eq, beq_eq_false_iff_ne, bne_eq_false_iff_eq, Int.not_lt, Int.not_le, Nat.not_lt, Nat.not_le, Int.ofNat_lt, Int.ofNat_le, Bool.not_eq_eq_eq_not, Bool.not_true, Bool.not_false] at hb1
    refine SOps.skip rfl ?_
    refine SOps.skip rfl ?_
    refine SOps.skip rfl ?_
    refine SOps.pick rfl rfl ?_
    refine SOps.move rfl ?_
    refine SOps.skip rfl ?_
    refine SOps.skip rfl ?_
    refine SOps.skip rfl ?_
    refine SOps.pick rfl rfl ?_
    refine SOps.nil ?_
    refine SCode.cond rfl (fun _ => ?_) (fun h => by cases h)
    refine SCode.seqR ?_
    refine SOps.assign rfl ?_
    refine SOps.nil ?_
    refine SCode.ret ?_
    exact ⟨_, Res.one (.tmp rfl), rfl, rfl⟩
  · try simp only [decide_eq_true_eq, decide_eq_false_iff_not, Bool.not_eq_true', Bool.not_eq_false', beq_iff_eq, bne_iff_ne, ne_eq, beq_eq_false_iff_ne, bne_eq_false_iff_eq, Int.not_lt, Int.not_le, Nat.not_lt, Nat.not_le, Int.ofNat_lt, Int.ofNat_le, Bool.not_eq_eq_eq_not, Bool.not_true, Bool.not_false] at hb1
    refine SOps.move rfl ?_
    refine SOps.lenM rfl sliceB_23_56_4 ?_
    refine SOps.bin rfl rfl rfl ?_
    refine SOps.pick rfl rfl ?_
    refine SOps.move rfl ?_
    refine SOps.caseB 21 rfl (fun hb2 => ?_) (fun hb2 => ?_)
    · try simp only [decide_eq_true_eq, decide_eq_false_iff_not, Bool.not_eq_true', Bool.not_eq_false', beq_iff_eq, bne_iff_ne, ne_eq, beq_eq_false_iff_ne, bne_eq_false_iff_eq, Int.not_lt, Int.not_le, Nat.not_lt, Nat.not_le, Int.ofNat_lt, Int.ofNat_le, Bool.not_eq_eq_eq_not, Bool.not_true, Bool.not_false] at hb2
      refine SOps.skip rfl ?_
      refine SOps.skip rfl ?_
      refine SOps.skip rfl ?_
      refine SOps.pick rfl rfl ?_
      refine SOps.nil ?_
      refine SCode.cond rfl (fun _ => ?_) (fun h => by cases h)
      refine SCode.seqR ?_
      refine SOps.assign rfl ?_
      refine SOps.nil ?_
      refine SCode.ret ?_
      exact ⟨_, Res.one (.tmp rfl), rfl, rfl⟩
    · try simp only [decide_eq_true_eq, decide_eq_false_iff_not, Bool.not_eq_true', Bool.not_eq_false', beq_iff_eq, bne_iff_ne, ne_eq, beq_eq_false_iff_ne, bne_eq_false_iff_eq, Int.not_lt, Int.not_le, Nat.not_lt, Nat.not_le, Int.ofNat_lt, Int.ofNat_le, Bool.not_eq_eq_eq_not, Bool.not_true, Bool.not_false] at hb2
      refine SOps.move rfl ?_
      refine SOps.lenM rfl sliceB_23_56_4 ?_
      refine SOps.bin rfl rfl rfl ?_
      refine SOps.pick rfl rfl ?_
      refine SOps.nil ?_
      refine SCode.cond rfl (fun hc3 => ?_) (fun hc3 => ?_)
      · try simp only [decide_eq_true_eq, decide_eq_false_iff_not, Bool.not_eq_true', Bool.not_eq_false', beq_iff_eq, bne_iff_ne, ne_eq, beq_eq_false_iff_ne, bne_eq_false_iff_eq, Int.not_lt, Int.not_le, Nat.not_lt, Nat.not_le, Int.ofNat_lt, Int.ofNat_le, Bool.not_eq_eq_eq_not, Bool.not_true, Bool.not_false] at hc3
        refine SCode.seqR ?_
        refine SOps.assign rfl ?_
        refine SOps.nil ?_
        refine SCode.ret ?_
        exact ⟨_, Res.one (.tmp rfl), rfl, rfl⟩
      · try simp only [decide_eq_true_eq, decide_eq_false_iff_not, Bool.not_eq_true', Bool.not_eq_false', beq_iff_eq, bne_iff_ne, ne_eq, beq_eq_false_iff_ne, bne_eq_false_iff_eq, Int.not_lt, Int.not_le, Nat.not_lt, Nat.not_le, Int.ofNat_lt, Int.ofNat_le, Bool.not_eq_eq_eq_not, Bool.not_true, Bool.not_false] at hc3
        refine SCode.skip ?_
        show SCode _ _ _ _
        refine SCode.seqR ?_
        refine SOps.move rfl ?_
        refine SOps.move rfl ?_
        refine SOps.move rfl ?_
        rcases hd : difR a p q with _ | wd
        · refine SOps.callP (aDifference hV a p q hp hq) rfl ?_
          rintro _ rfl
          rw [hd]
          show SOps _ _ _ ⟨_, (30, .tup [.v (.string .empty), .v (.bool false)]) :: _, _⟩ _
          refine SOps.move rfl ?_
          refine SOps.extract rfl rfl ?_
          refine SOps.extract rfl rfl ?_
          refine SOps.assign rfl ?_
          refine SOps.assign rfl ?_
          refine SOps.nil ?_
          refine SCode.seq ?_
          refine SCode.seqR ?_
          refine SOps.move rfl ?_
          refine SOps.move rfl ?_
          refine SOps.callP (qValid _ _ hp) rfl ?_
          rintro _ rfl
          refine SOps.un rfl rfl ?_
          refine SOps.move rfl ?_
          refine SOps.caseB 37 rfl (fun hb4 => ?_) (fun hb4 => ?_)
          · try simp only [decide_eq_true_eq, decide_eq_false_iff_not, Bool.not_eq_true', Bool.not_eq_false', beq_iff_eq, bne_iff_ne, ne_eq, beq_eq_false_iff_ne, bne_eq_false_iff_eq, Int.not_lt, Int.not_le, Nat.not_lt, Nat.not_le, Int.ofNat_lt, Int.ofNat_le, Bool.not_eq_eq_eq_not, Bool.not_true, Bool.not_false] at hb4
            refine SOps.skip rfl ?_
            refine SOps.skip rfl ?_
            refine SOps.skip rfl ?_
            refine SOps.skip rfl ?_
            refine SOps.pick rfl rfl ?_
            refine SOps.nil ?_
            refine SCode.cond rfl (fun _ => ?_) (fun h => by cases h)
            refine SCode.seqR ?_
            refine SOps.move rfl ?_
            refine SOps.bin rfl rfl rfl ?_
            refine SOps.reSlot (t := 44) rfl (show _ = DV.v (.bool true) from congrArg (fun b => DV.v (.bool b)) (by first | exact decide_eq_true rfl | exact beq_self_eq_true _ | rfl)) ?_
            refine SOps.move rfl ?_
            refine SOps.move rfl ?_
            refine SOps.un rfl rfl ?_
            refine SOps.pick rfl rfl ?_
            refine SOps.assign rfl ?_
            refine SOps.nil ?_
            refine SCode.ret ?_
            exact ⟨_, Res.one (.tmp rfl), rfl, rfl⟩
          · try simp only [decide_eq_true_eq, decide_eq_false_iff_not, Bool.not_eq_true', Bool.not_eq_false', beq_iff_eq, bne_iff_ne, ne_eq, beq_eq_false_iff_ne, bne_eq_false_iff_eq, Int.not_lt, Int.not_le, Nat.not_lt, Nat.not_le, Int.ofNat_lt, Int.ofNat_le, Bool.not_eq_eq_eq_not, Bool.not_true, Bool.not_false] at hb4
            refine SOps.move rfl ?_
            refine SOps.move rfl ?_
            refine SOps.callP (qValid _ _ hq) rfl ?_
            rintro _ rfl
            refine SOps.un rfl rfl ?_
            refine SOps.pick rfl rfl ?_
            refine SOps.nil ?_
            refine SCode.cond rfl (fun hc5 => ?_) (fun hc5 => ?_)
            · try simp only [decide_eq_true_eq, decide_eq_false_iff_not, Bool.not_eq_true', Bool.not_eq_false', beq_iff_eq, bne_iff_ne, ne_eq, beq_eq_false_iff_ne, bne_eq_false_iff_eq, Int.not_lt, Int.not_le, Nat.not_lt, Nat.not_le, Int.ofNat_lt, Int.ofNat_le, Bool.not_eq_eq_eq_not, Bool.not_true, Bool.not_false] at hc5
              refine SCode.seqR ?_
              refine SOps.move rfl ?_
              refine SOps.bin rfl rfl rfl ?_
              refine SOps.reSlot (t := 44) rfl (show _ = DV.v (.bool true) from congrArg (fun b => DV.v (.bool b)) (by first | exact decide_eq_true rfl | exact beq_self_eq_true _ | rfl)) ?_
              refine SOps.move rfl ?_
              refine SOps.move rfl ?_
              refine SOps.un rfl rfl ?_
              refine SOps.pick rfl rfl ?_
              refine SOps.assign rfl ?_
              refine SOps.nil ?_
              refine SCode.ret ?_
              exact ⟨_, Res.one (.tmp rfl), rfl, rfl⟩
            · try simp only [decide_eq_true_eq, decide_eq_false_iff_not, Bool.not_eq_true', Bool.not_eq_false', beq_iff_eq, bne_iff_ne, ne_eq, beq_eq_false_iff_ne, bne_eq_false_iff_eq, Int.not_lt, Int.not_le, Nat.not_lt, Nat.not_le, Int.ofNat_lt, Int.ofNat_le, Bool.not_eq_eq_eq_not, Bool.not_true, Bool.not_false] at hc5
              refine SCode.skip ?_
              show SCode _ _ _ _
              refine SCode.seqR ?_
              refine SOps.move rfl ?_
              refine SOps.move rfl ?_
              refine SOps.move rfl ?_
              have hvpq : validPat a p = true ∧ validPat a q = true := by simp_all
              have hvl1 := validPat_len hvpq.1
              have hvl2 := validPat_len hvpq.2
              refine SOps.callP (qDifference a p q (by omega) (by omega) (by omega)) rfl ?_
              rintro _ rfl
              rw [show difP a p q = none from by rw [difR, hvpq.1, hvpq.2] at hd; exact hd]
              show SOps _ _ _ ⟨_, (53, .tup [.v (.string .empty), .v (.bool false)]) :: _, _⟩ _
              refine SOps.move rfl ?_
              refine SOps.extract rfl rfl ?_
              refine SOps.extract rfl rfl ?_
              refine SOps.assign rfl ?_
              refine SOps.assign rfl ?_
              refine SOps.nil ?_
              refine SCode.seqR ?_
              refine SOps.move rfl ?_
              refine SOps.move rfl ?_
              refine SOps.bin rfl rfl rfl ?_
              refine SOps.reSlot (t := 58) rfl (show _ = DV.v (.bool true) from congrArg (fun b => DV.v (.bool b)) (by first | exact decide_eq_true rfl | exact beq_self_eq_true _)) ?_
              refine SOps.move rfl ?_
              refine SOps.move rfl ?_
              refine SOps.move rfl ?_
              refine SOps.boolEq rfl rfl boolTy_4 ?_
              refine SOps.reSlot (t := 62) rfl (show _ = DV.v (.bool true) from congrArg (fun b => DV.v (.bool b)) (by first | rfl | exact beq_self_eq_true _)) ?_
              refine SOps.pick rfl rfl ?_
              refine SOps.assign rfl ?_
              refine SOps.nil ?_
              refine SCode.ret ?_
              exact ⟨_, Res.one (.tmp rfl), rfl, rfl⟩
        · refine SOps.callP (aDifference hV a p q hp hq) rfl ?_
          rintro _ rfl
          rw [hd]
          show SOps _ _ _ ⟨_, (30, .tup [.v (.string (encs (spellA a wd))), .v (.bool true)]) :: _, _⟩ _
          refine SOps.move rfl ?_
          refine SOps.extract rfl rfl ?_
          refine SOps.extract rfl rfl ?_
          refine SOps.assign rfl ?_
          refine SOps.assign rfl ?_
          refine SOps.nil ?_
          refine SCode.seq ?_
          refine SCode.seqR ?_
          refine SOps.move rfl ?_
          refine SOps.move rfl ?_
          refine SOps.callP (qValid _ _ hp) rfl ?_
          rintro _ rfl
          have hvpq : validPat a p = true ∧ validPat a q = true := difR_some hd
          refine SOps.reSlot (t := 35) rfl (show _ = DV.v (.bool true) from congrArg (fun b => DV.v (.bool b)) (hvpq.1)) ?_
          refine SOps.un rfl rfl ?_
          refine SOps.move rfl ?_
          refine SOps.move rfl ?_
          refine SOps.move rfl ?_
          refine SOps.callP (qValid _ _ hq) rfl ?_
          rintro _ rfl
          have hvpq : validPat a p = true ∧ validPat a q = true := difR_some hd
          refine SOps.reSlot (t := 40) rfl (show _ = DV.v (.bool true) from congrArg (fun b => DV.v (.bool b)) (hvpq.2)) ?_
          refine SOps.un rfl rfl ?_
          refine SOps.pick rfl rfl ?_
          refine SOps.nil ?_
          refine SCode.cond rfl (fun h => by cases h) (fun _ => ?_)
          refine SCode.skip ?_
          show SCode _ _ _ _
          refine SCode.seqR ?_
          refine SOps.move rfl ?_
          refine SOps.move rfl ?_
          refine SOps.move rfl ?_
          have hvl := validPat_len hvpq.1
          have hvl1 := validPat_len hvpq.1
          have hvl2 := validPat_len hvpq.2
          refine SOps.callP (qDifference a p q (by omega) (by omega) (by omega)) rfl ?_
          rintro _ rfl
          rw [show difP a p q = some wd from by rw [difR, hvpq.1, hvpq.2] at hd; exact hd]
          show SOps _ _ _ ⟨_, (53, .tup [.v (.string (encs (spellA a wd))), .v (.bool true)]) :: _, _⟩ _
          refine SOps.move rfl ?_
          refine SOps.extract rfl rfl ?_
          refine SOps.extract rfl rfl ?_
          refine SOps.assign rfl ?_
          refine SOps.assign rfl ?_
          refine SOps.nil ?_
          refine SCode.seqR ?_
          refine SOps.move rfl ?_
          refine SOps.move rfl ?_
          refine SOps.bin rfl rfl rfl ?_
          refine SOps.reSlot (t := 58) rfl (show _ = DV.v (.bool true) from congrArg (fun b => DV.v (.bool b)) (by first | exact decide_eq_true rfl | exact beq_self_eq_true _)) ?_
          refine SOps.move rfl ?_
          refine SOps.move rfl ?_
          refine SOps.move rfl ?_
          refine SOps.boolEq rfl rfl boolTy_4 ?_
          refine SOps.reSlot (t := 62) rfl (show _ = DV.v (.bool true) from congrArg (fun b => DV.v (.bool b)) (by first | rfl | exact beq_self_eq_true _)) ?_
          refine SOps.pick rfl rfl ?_
          refine SOps.assign rfl ?_
          refine SOps.nil ?_
          refine SCode.ret ?_
          exact ⟨_, Res.one (.tmp rfl), rfl, rfl⟩
end Go.GH
