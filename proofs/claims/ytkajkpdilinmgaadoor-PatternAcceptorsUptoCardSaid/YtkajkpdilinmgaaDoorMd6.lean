/-
  Part 6 of the texts behind the walks of this claim: an own layer over the kit's wp, plain laws, and walks. No conditions.
-/
import Derived.Test.YtkajkpdilinmgaaDoorMd5
set_option linter.unusedVariables false
set_option linter.unusedSimpArgs false
set_option linter.deprecated false
namespace Go.GH
open Go Go.Proofs
variable {E : Env}
def accV (x : Acc) : Bool := accOK x && decide (widthA x ≤ 65)
theorem accV_iff {x : Acc} : accV x = true ↔ headOK x = true ∧ ∀ (i : Nat) (h : i < x.nxt.length), (x.nxt[i]).length = widthA x ∧ (x.nxt[i]).length ≤ 65 ∧ ∀ t ∈ x.nxt[i], 0 ≤ t ∧ t < x.nxt.length := by
  simp only [accV, accOK, Bool.and_eq_true, decide_eq_true_eq, List.all_eq_true]
  constructor
  · rintro ⟨⟨h1, h2⟩, h3⟩
    refine ⟨h1, fun i h => ?_⟩
    have := rowOK_iff.1 (h2 _ (List.getElem_mem h))
    exact ⟨this.1, by omega, this.2⟩
  · rintro ⟨h1, h2⟩
    have h0 : 0 < x.nxt.length := by have := headOK_iff.1 h1; omega
    refine ⟨⟨h1, fun l hl => ?_⟩, by rw [← (h2 0 h0).1]; exact (h2 0 h0).2.1⟩
    obtain ⟨i, hi, rfl⟩ := List.getElem_of_mem hl
    exact rowOK_iff.2 ⟨(h2 i hi).1, (h2 i hi).2.2⟩
theorem qValidAcc (x : Acc)  : GCall Tryd.prog E 24 [.agg (encAcc x)] [] (fun d H => d = .v (.bool (accV x)) ∧ H = []) := by
  refine GCall.body (C := ⟨Tryd.prog, E, true⟩) Tryd.func24 rfl (fun _ => rfl) (by kernel_rfl) rfl ?_
  refine SCode.seqR ?_
  refine SOps.boxAM rfl rfl ?_
  refine SOps.assign rfl ?_
  refine SOps.nil ?_
  refine SCode.seqR ?_
  refine SOps.fieldPin rfl fieldB_28_2_2 ?_
  refine SOps.loadPin rfl flatB_26 ?_
  refine SOps.lenM rfl sliceB_26_39_1 ?_
  refine SOps.assign rfl ?_
  refine SOps.nil ?_
  refine SCode.seq ?_
  refine SCode.seqR ?_
  refine SOps.fact (isl_len (t := 7) rfl) (fun hB => ?_)
  simp only [List.length_map, lenB] at hB
  refine SOps.move rfl ?_
  refine SOps.bin rfl rfl rfl ?_
  refine SOps.move rfl ?_
  refine SOps.caseB 11 rfl (fun hb1 => ?_) (fun hb1 => ?_)
  · try simp only [decide_eq_true_eq, decide_eq_false_iff_not, Bool.not_eq_true', Bool.not_eq_false', beq_iff_eq, bne_iff_ne, ne_eq, beq_eq_false_iff_ne, bne_eq_false_iff_eq, Int.not_lt, Int.not_le, Nat.not_lt, Nat.not_le, Int.ofNat_lt, Int.ofNat_le, Bool.not_eq_eq_eq_not, Bool.not_true, Bool.not_false] at hb1
    refine SOps.skip rfl ?_
    refine SOps.skip rfl ?_
    refine SOps.pick rfl rfl ?_
    refine SOps.move rfl ?_
    refine SOps.skip rfl ?_
    refine SOps.skip rfl ?_
    refine SOps.skip rfl ?_
    refine SOps.skip rfl ?_
    refine SOps.skip rfl ?_
    refine SOps.pick rfl rfl ?_
    refine SOps.move rfl ?_
    refine SOps.skip rfl ?_
    refine SOps.skip rfl ?_
    refine SOps.skip rfl ?_
    refine SOps.pick rfl rfl ?_
    refine SOps.move rfl ?_
    refine SOps.skip rfl ?_
    refine SOps.skip rfl ?_
    refine SOps.skip rfl ?_
    refine SOps.skip rfl ?_
    refine SOps.pick rfl rfl ?_
    refine SOps.nil ?_
    refine SCode.cond rfl (fun _ => ?_) (fun h => by cases h)
    refine SCode.seqR ?_
    refine SOps.assign rfl ?_
    refine SOps.nil ?_
    refine SCode.ret ?_
    exact ⟨_, Res.one (.tmp rfl), congrArg (fun b => DV.v (.bool b)) (Eq.symm (Bool.eq_false_iff.2 (fun h => by obtain ⟨hh, hrows⟩ := accV_iff.1 h; have hho := headOK_iff.1 hh; omega))), rfl⟩
  · try simp only [decide_eq_true_eq, decide_eq_false_iff_not, Bool.not_eq_true', Bool.not_eq_false', beq_iff_eq, bne_iff_ne, ne_eq, beq_eq_false_iff_ne, bne_eq_false_iff_eq, Int.not_lt, Int.not_le, Nat.not_lt, Nat.not_le, Int.ofNat_lt, Int.ofNat_le, Bool.not_eq_eq_eq_not, Bool.not_true, Bool.not_false] at hb1
    refine SOps.move rfl ?_
    refine SOps.bin rfl rfl rfl ?_
    refine SOps.pick rfl rfl ?_
    refine SOps.move rfl ?_
    refine SOps.caseB 15 rfl (fun hb2 => ?_) (fun hb2 => ?_)
    · try simp only [decide_eq_true_eq, decide_eq_false_iff_not, Bool.not_eq_true', Bool.not_eq_false', beq_iff_eq, bne_iff_ne, ne_eq, beq_eq_false_iff_ne, bne_eq_false_iff_eq, Int.not_lt, Int.not_le, Nat.not_lt, Nat.not_le, Int.ofNat_lt, Int.ofNat_le, Bool.not_eq_eq_eq_not, Bool.not_true, Bool.not_false] at hb2
      refine SOps.skip rfl ?_
      refine SOps.skip rfl ?_
      refine SOps.skip rfl ?_
      refine SOps.skip rfl ?_
      refine SOps.skip rfl ?_
      refine SOps.pick rfl rfl ?_
      refine SOps.move rfl ?_
      refine SOps.skip rfl ?_
      refine SOps.skip rfl ?_
      refine SOps.skip rfl ?_
      refine SOps.pick rfl rfl ?_
      refine SOps.move rfl ?_
      refine SOps.skip rfl ?_
      refine SOps.skip rfl ?_
      refine SOps.skip rfl ?_
      refine SOps.skip rfl ?_
      refine SOps.pick rfl rfl ?_
      refine SOps.nil ?_
      refine SCode.cond rfl (fun _ => ?_) (fun h => by cases h)
      refine SCode.seqR ?_
      refine SOps.assign rfl ?_
      refine SOps.nil ?_
      refine SCode.ret ?_
      exact ⟨_, Res.one (.tmp rfl), congrArg (fun b => DV.v (.bool b)) (Eq.symm (Bool.eq_false_iff.2 (fun h => by obtain ⟨hh, hrows⟩ := accV_iff.1 h; have hho := headOK_iff.1 hh; omega))), rfl⟩
    · try simp only [decide_eq_true_eq, decide_eq_false_iff_not, Bool.not_eq_true', Bool.not_eq_false', beq_iff_eq, bne_iff_ne, ne_eq, beq_eq_false_iff_ne, bne_eq_false_iff_eq, Int.not_lt, Int.not_le, Nat.not_lt, Nat.not_le, Int.ofNat_lt, Int.ofNat_le, Bool.not_eq_eq_eq_not, Bool.not_true, Bool.not_false] at hb2
      refine SOps.fieldPin rfl fieldB_28_1_1 ?_
      refine SOps.loadPin rfl flatB_25 ?_
      refine SOps.lenM rfl sliceB_25_4_1 ?_
      refine SOps.move rfl ?_
      refine SOps.bin rfl rfl rfl ?_
      refine SOps.pick rfl rfl ?_
      refine SOps.move rfl ?_
      refine SOps.caseB 22 rfl (fun hb3 => ?_) (fun hb3 => ?_)
      · try simp only [decide_eq_true_eq, decide_eq_false_iff_not, Bool.not_eq_true', Bool.not_eq_false', beq_iff_eq, bne_iff_ne, ne_eq, beq_eq_false_iff_ne, bne_eq_false_iff_eq, Int.not_lt, Int.not_le, Nat.not_lt, Nat.not_le, Int.ofNat_lt, Int.ofNat_le, Bool.not_eq_eq_eq_not, Bool.not_true, Bool.not_false] at hb3
        refine SOps.skip rfl ?_
        refine SOps.skip rfl ?_
        refine SOps.skip rfl ?_
        refine SOps.pick rfl rfl ?_
        refine SOps.move rfl ?_
        refine SOps.skip rfl ?_
        refine SOps.skip rfl ?_
        refine SOps.skip rfl ?_
        refine SOps.skip rfl ?_
        refine SOps.pick rfl rfl ?_
        refine SOps.nil ?_
        refine SCode.cond rfl (fun _ => ?_) (fun h => by cases h)
        refine SCode.seqR ?_
        refine SOps.assign rfl ?_
        refine SOps.nil ?_
        refine SCode.ret ?_
        exact ⟨_, Res.one (.tmp rfl), congrArg (fun b => DV.v (.bool b)) (Eq.symm (Bool.eq_false_iff.2 (fun h => by obtain ⟨hh, hrows⟩ := accV_iff.1 h; have hho := headOK_iff.1 hh; omega))), rfl⟩
      · try simp only [decide_eq_true_eq, decide_eq_false_iff_not, Bool.not_eq_true', Bool.not_eq_false', beq_iff_eq, bne_iff_ne, ne_eq, beq_eq_false_iff_ne, bne_eq_false_iff_eq, Int.not_lt, Int.not_le, Nat.not_lt, Nat.not_le, Int.ofNat_lt, Int.ofNat_le, Bool.not_eq_eq_eq_not, Bool.not_true, Bool.not_false] at hb3
        refine SOps.fieldPin rfl fieldB_28_0_0 ?_
        refine SOps.loadPin rfl flatB_3 ?_
        refine SOps.bin rfl rfl rfl ?_
        refine SOps.pick rfl rfl ?_
        refine SOps.move rfl ?_
        refine SOps.caseB 27 rfl (fun hb4 => ?_) (fun hb4 => ?_)
        · try simp only [decide_eq_true_eq, decide_eq_false_iff_not, Bool.not_eq_true', Bool.not_eq_false', beq_iff_eq, bne_iff_ne, ne_eq, beq_eq_false_iff_ne, bne_eq_false_iff_eq, Int.not_lt, Int.not_le, Nat.not_lt, Nat.not_le, Int.ofNat_lt, Int.ofNat_le, Bool.not_eq_eq_eq_not, Bool.not_true, Bool.not_false] at hb4
          refine SOps.skip rfl ?_
          refine SOps.skip rfl ?_
          refine SOps.skip rfl ?_
          refine SOps.skip rfl ?_
          refine SOps.pick rfl rfl ?_
          refine SOps.nil ?_
          refine SCode.cond rfl (fun _ => ?_) (fun h => by cases h)
          refine SCode.seqR ?_
          refine SOps.assign rfl ?_
          refine SOps.nil ?_
          refine SCode.ret ?_
          exact ⟨_, Res.one (.tmp rfl), congrArg (fun b => DV.v (.bool b)) (Eq.symm (Bool.eq_false_iff.2 (fun h => by obtain ⟨hh, hrows⟩ := accV_iff.1 h; have hho := headOK_iff.1 hh; omega))), rfl⟩
        · try simp only [decide_eq_true_eq, decide_eq_false_iff_not, Bool.not_eq_true', Bool.not_eq_false', beq_iff_eq, bne_iff_ne, ne_eq, beq_eq_false_iff_ne, bne_eq_false_iff_eq, Int.not_lt, Int.not_le, Nat.not_lt, Nat.not_le, Int.ofNat_lt, Int.ofNat_le, Bool.not_eq_eq_eq_not, Bool.not_true, Bool.not_false] at hb4
          refine SOps.fieldPin rfl fieldB_28_0_0 ?_
          refine SOps.loadPin rfl flatB_3 ?_
          refine SOps.move rfl ?_
          refine SOps.bin rfl rfl rfl ?_
          refine SOps.pick rfl rfl ?_
          refine SOps.nil ?_
          refine SCode.cond rfl (fun hc5 => ?_) (fun hc5 => ?_)
          · try simp only [decide_eq_true_eq, decide_eq_false_iff_not, Bool.not_eq_true', Bool.not_eq_false', beq_iff_eq, bne_iff_ne, ne_eq, beq_eq_false_iff_ne, bne_eq_false_iff_eq, Int.not_lt, Int.not_le, Nat.not_lt, Nat.not_le, Int.ofNat_lt, Int.ofNat_le, Bool.not_eq_eq_eq_not, Bool.not_true, Bool.not_false] at hc5
            refine SCode.seqR ?_
            refine SOps.assign rfl ?_
            refine SOps.nil ?_
            refine SCode.ret ?_
            exact ⟨_, Res.one (.tmp rfl), congrArg (fun b => DV.v (.bool b)) (Eq.symm (Bool.eq_false_iff.2 (fun h => by obtain ⟨hh, hrows⟩ := accV_iff.1 h; have hho := headOK_iff.1 hh; omega))), rfl⟩
          · try simp only [decide_eq_true_eq, decide_eq_false_iff_not, Bool.not_eq_true', Bool.not_eq_false', beq_iff_eq, bne_iff_ne, ne_eq, beq_eq_false_iff_ne, bne_eq_false_iff_eq, Int.not_lt, Int.not_le, Nat.not_lt, Nat.not_le, Int.ofNat_lt, Int.ofNat_le, Bool.not_eq_eq_eq_not, Bool.not_true, Bool.not_false] at hc5
            refine SCode.skip ?_
            show SCode _ _ _ _
            refine SCode.seq ?_
            refine SCode.seqR ?_
            have hh : headOK x = true := headOK_iff.2 ⟨by omega, by omega, by omega, by omega, by omega⟩
            have hx0 : 0 < x.nxt.length := by omega
            have hw0 := widthA_at hx0
            refine SOps.assign rfl ?_
            refine SOps.nil ?_
            refine SCode.block ?_
            refine SCode.loop1 (fun (i : Nat) => (⟨90, [(1, .ipin (encAcc x)), (3, .v (.int .i64 ((x.nxt.length : Nat) : Int))), (4, .v (.int .i64 (i : Int)))], []⟩ : St)) (fun (i : Nat) => i ≤ x.nxt.length ∧ ∀ (k : Nat) (h : k < x.nxt.length), k < i → (x.nxt[k]).length = widthA x ∧ (x.nxt[k]).length ≤ 65 ∧ ∀ t ∈ x.nxt[k], 0 ≤ t ∧ t < x.nxt.length) (fun (i : Nat) => x.nxt.length - i) (0) (by exact ⟨Nat.zero_le _, fun k h h2 => absurd h2 (Nat.not_lt_zero _)⟩) (St.Le.of ⟨(by first | rfl | (show some _ = some _; simp)), (by first | rfl | (show some _ = some _; simp)), (by first | rfl | (show some _ = some _; simp)), trivial⟩ rfl (by first | rfl | (simp))) ?_
            rintro i ⟨hi, hf⟩
            refine SCode.seq ?_
            refine SCode.seqR ?_
            refine SOps.move rfl ?_
            refine SOps.move rfl ?_
            refine SOps.bin rfl rfl rfl ?_
            refine SOps.nil ?_
            refine SCode.cond rfl (fun hc6 => ?_) (fun hc6 => ?_)
            · try simp only [decide_eq_true_eq, decide_eq_false_iff_not, Bool.not_eq_true', Bool.not_eq_false', beq_iff_eq, bne_iff_ne, ne_eq, beq_eq_false_iff_ne, bne_eq_false_iff_eq, Int.not_lt, Int.not_le, Nat.not_lt, Nat.not_le, Int.ofNat_lt, Int.ofNat_le, Bool.not_eq_eq_eq_not, Bool.not_true, Bool.not_false] at hc6
              refine SCode.skip ?_
              show SCode _ _ _ _
              refine SCode.seq ?_
              refine SCode.block ?_
              refine SCode.seq ?_
              refine SCode.seq ?_
              have hix : i < x.nxt.length := by omega
              rcases (show ¬ (x.nxt[i]).length = (x.nxt[0]).length ∨ (x.nxt[i]).length = (x.nxt[0]).length from (Classical.em _).symm) with hq | hq
              · apply SCode.drawAuto mixed_ [38, 39, 40, 41, 42, 43, 44, 45, 46, 47, 48, 49, 50, 51, 52, 53, 54, 55, 56, 57, 58] [[.inr 1], [.inl 0], [.inr 4], [.inl 1, .inl 2], [.inl 3], [.inl 4], [.inr 1], [.inl 6], [.inl 7], [.inl 8], [.inl 9], [.inl 5, .inl 10], [.inl 11], [.inl 12], [.inl 12], [.inl 12], [.inl 12], [.inl 12], [.inl 12], [.inl 12], [.inl 12, .inl 19]]
                · kernel_rfl
                · kernel_rfl
                · apply DOk.cons 38 
                  · rfl
                  · exact (NeedIs.inr _ rfl NeedIs.nil)
                  · intro rest
                    refine SOps.fieldPin rfl fieldB_28_2_2 ?_
                    exact SOps.nil rfl
                  apply DOk.cons 39 
                  · rfl
                  · exact (NeedIs.inl 0 _ _ rfl rfl NeedIs.nil)
                  · intro rest
                    refine SOps.loadPin rfl flatB_26 ?_
                    exact SOps.nil rfl
                  apply DOk.cons 40 
                  · rfl
                  · exact (NeedIs.inr _ rfl NeedIs.nil)
                  · intro rest
                    refine SOps.move rfl ?_
                    exact SOps.nil rfl
                  apply DOk.cons 41 
                  · rfl
                  · exact (NeedIs.inl 1 _ _ rfl rfl (NeedIs.inl 0 _ _ rfl rfl NeedIs.nil))
                  · intro rest
                    refine SOps.indexM (i) rfl rfl sliceB_26_39_1 (by first | omega | (simp only [lenB]; omega)) (by first | omega | (simp only [lenB]; omega)) ?_
                    exact SOps.nil rfl
                  apply DOk.cons 42 
                  · rfl
                  · exact (NeedIs.inl 0 _ _ rfl rfl NeedIs.nil)
                  · intro rest
                    refine SOps.loadPin rfl flatB_39 ?_
                    exact SOps.nil rfl
                  apply DOk.cons 43 
                  · rfl
                  · exact (NeedIs.inl 0 _ _ rfl rfl NeedIs.nil)
                  · intro rest
                    refine SOps.lenM rfl sliceB_39_3_1 ?_
                    exact SOps.nil rfl
                  apply DOk.cons 44 
                  · rfl
                  · exact (NeedIs.inr _ rfl NeedIs.nil)
                  · intro rest
                    refine SOps.fieldPin rfl fieldB_28_2_2 ?_
                    exact SOps.nil rfl
                  apply DOk.cons 45 
                  · rfl
                  · exact (NeedIs.inl 0 _ _ rfl rfl NeedIs.nil)
                  · intro rest
                    refine SOps.loadPin rfl flatB_26 ?_
                    exact SOps.nil rfl
                  apply DOk.cons 46 
                  · rfl
                  · exact (NeedIs.inl 0 _ _ rfl rfl NeedIs.nil)
                  · intro rest
                    refine SOps.indexM (0) rfl rfl sliceB_26_39_1 (by first | omega | (simp only [lenB]; omega)) (by first | omega | (simp only [lenB]; omega)) ?_
                    exact SOps.nil rfl
                  apply DOk.cons 47 
                  · rfl
                  · exact (NeedIs.inl 0 _ _ rfl rfl NeedIs.nil)
                  · intro rest
                    refine SOps.loadPin rfl flatB_39 ?_
                    exact SOps.nil rfl
                  apply DOk.cons 48 
                  · rfl
                  · exact (NeedIs.inl 0 _ _ rfl rfl NeedIs.nil)
                  · intro rest
                    refine SOps.lenM rfl sliceB_39_3_1 ?_
                    exact SOps.nil rfl
                  apply DOk.cons 49 (.v (.bool true))
                  · rfl
                  · exact (NeedIs.inl 5 _ _ rfl rfl (NeedIs.inl 0 _ _ rfl rfl NeedIs.nil))
                  · intro rest
                    refine SOps.bin rfl rfl rfl ?_
                    exact SOps.nil (congrArg (fun b => St.put _ 49 (.v (.bool b))) (bne_iff_ne.2 (by omega)))
                  apply DOk.cons 50 
                  · rfl
                  · exact (NeedIs.inl 0 _ _ rfl rfl NeedIs.nil)
                  · intro rest
                    refine SOps.move rfl ?_
                    exact SOps.nil rfl
                  apply DOk.cons 51 
                  · rfl
                  · exact (NeedIs.inl 0 _ _ rfl rfl NeedIs.nil)
                  · intro rest
                    refine SOps.skip rfl ?_
                    exact SOps.nil rfl
                  apply DOk.cons 52 
                  · rfl
                  · exact (NeedIs.inl 1 _ _ rfl rfl NeedIs.nil)
                  · intro rest
                    refine SOps.skip rfl ?_
                    exact SOps.nil rfl
                  apply DOk.cons 53 
                  · rfl
                  · exact (NeedIs.inl 2 _ _ rfl rfl NeedIs.nil)
                  · intro rest
                    refine SOps.skip rfl ?_
                    exact SOps.nil rfl
                  apply DOk.cons 54 
                  · rfl
                  · exact (NeedIs.inl 3 _ _ rfl rfl NeedIs.nil)
                  · intro rest
                    refine SOps.skip rfl ?_
                    exact SOps.nil rfl
                  apply DOk.cons 55 
                  · rfl
                  · exact (NeedIs.inl 4 _ _ rfl rfl NeedIs.nil)
                  · intro rest
                    refine SOps.skip rfl ?_
                    exact SOps.nil rfl
                  apply DOk.cons 56 
                  · rfl
                  · exact (NeedIs.inl 5 _ _ rfl rfl NeedIs.nil)
                  · intro rest
                    refine SOps.skip rfl ?_
                    exact SOps.nil rfl
                  apply DOk.cons 57 
                  · rfl
                  · exact (NeedIs.inl 6 _ _ rfl rfl NeedIs.nil)
                  · intro rest
                    refine SOps.skip rfl ?_
                    exact SOps.nil rfl
                  apply DOk.cons 58 
                  · rfl
                  · exact (NeedIs.inl 7 _ _ rfl rfl (NeedIs.inl 0 _ _ rfl rfl NeedIs.nil))
                  · intro rest
                    refine SOps.pick rfl rfl ?_
                    exact SOps.nil rfl
                  exact DOk.nil
                · rfl
                · show SCode _ _ _ _
                  refine SCode.cond rfl (fun _ => ?_) (fun h => by cases h)
                  refine SCode.seqR ?_
                  refine SOps.assign rfl ?_
                  refine SOps.nil ?_
                  refine SCode.ret ?_
                  exact ⟨_, Res.one (.tmp rfl), congrArg (fun b => DV.v (.bool b)) (Eq.symm (Bool.eq_false_iff.2 (fun h => by obtain ⟨hh, hrows⟩ := accV_iff.1 h; have hho := headOK_iff.1 hh; have h9 := hrows i hix; omega))), rfl⟩
              · apply SCode.drawAuto mixed_ [38, 39, 40, 41, 42, 43, 44, 45, 46, 47, 48, 49, 50, 51, 52, 53, 54, 55, 56, 57, 58] [[.inr 1], [.inl 0], [.inr 4], [.inl 1, .inl 2], [.inl 3], [.inl 4], [.inr 1], [.inl 6], [.inl 7], [.inl 8], [.inl 9], [.inl 5, .inl 10], [.inl 11], [.inl 12, .inr 1], [.inl 12, .inl 13], [.inl 12, .inr 4], [.inl 12, .inl 14, .inl 15], [.inl 12, .inl 16], [.inl 12, .inl 17], [.inl 12, .inl 18], [.inl 12, .inl 19]]
                · kernel_rfl
                · kernel_rfl
                · apply DOk.cons 38 
                  · rfl
                  · exact (NeedIs.inr _ rfl NeedIs.nil)
                  · intro rest
                    refine SOps.fieldPin rfl fieldB_28_2_2 ?_
                    exact SOps.nil rfl
                  apply DOk.cons 39 
                  · rfl
                  · exact (NeedIs.inl 0 _ _ rfl rfl NeedIs.nil)
                  · intro rest
                    refine SOps.loadPin rfl flatB_26 ?_
                    exact SOps.nil rfl
                  apply DOk.cons 40 
                  · rfl
                  · exact (NeedIs.inr _ rfl NeedIs.nil)
                  · intro rest
                    refine SOps.move rfl ?_
                    exact SOps.nil rfl
                  apply DOk.cons 41 
                  · rfl
                  · exact (NeedIs.inl 1 _ _ rfl rfl (NeedIs.inl 0 _ _ rfl rfl NeedIs.nil))
                  · intro rest
                    refine SOps.indexM (i) rfl rfl sliceB_26_39_1 (by first | omega | (simp only [lenB]; omega)) (by first | omega | (simp only [lenB]; omega)) ?_
                    exact SOps.nil rfl
                  apply DOk.cons 42 
                  · rfl
                  · exact (NeedIs.inl 0 _ _ rfl rfl NeedIs.nil)
                  · intro rest
                    refine SOps.loadPin rfl flatB_39 ?_
                    exact SOps.nil rfl
                  apply DOk.cons 43 
                  · rfl
                  · exact (NeedIs.inl 0 _ _ rfl rfl NeedIs.nil)
                  · intro rest
                    refine SOps.lenM rfl sliceB_39_3_1 ?_
                    exact SOps.nil rfl
                  apply DOk.cons 44 
                  · rfl
                  · exact (NeedIs.inr _ rfl NeedIs.nil)
                  · intro rest
                    refine SOps.fieldPin rfl fieldB_28_2_2 ?_
                    exact SOps.nil rfl
                  apply DOk.cons 45 
                  · rfl
                  · exact (NeedIs.inl 0 _ _ rfl rfl NeedIs.nil)
                  · intro rest
                    refine SOps.loadPin rfl flatB_26 ?_
                    exact SOps.nil rfl
                  apply DOk.cons 46 
                  · rfl
                  · exact (NeedIs.inl 0 _ _ rfl rfl NeedIs.nil)
                  · intro rest
                    refine SOps.indexM (0) rfl rfl sliceB_26_39_1 (by first | omega | (simp only [lenB]; omega)) (by first | omega | (simp only [lenB]; omega)) ?_
                    exact SOps.nil rfl
                  apply DOk.cons 47 
                  · rfl
                  · exact (NeedIs.inl 0 _ _ rfl rfl NeedIs.nil)
                  · intro rest
                    refine SOps.loadPin rfl flatB_39 ?_
                    exact SOps.nil rfl
                  apply DOk.cons 48 
                  · rfl
                  · exact (NeedIs.inl 0 _ _ rfl rfl NeedIs.nil)
                  · intro rest
                    refine SOps.lenM rfl sliceB_39_3_1 ?_
                    exact SOps.nil rfl
                  apply DOk.cons 49 (.v (.bool false))
                  · rfl
                  · exact (NeedIs.inl 5 _ _ rfl rfl (NeedIs.inl 0 _ _ rfl rfl NeedIs.nil))
                  · intro rest
                    refine SOps.bin rfl rfl rfl ?_
                    exact SOps.nil (congrArg (fun b => St.put _ 49 (.v (.bool b))) (bne_eq_false_iff_eq.2 (by omega)))
                  apply DOk.cons 50 
                  · rfl
                  · exact (NeedIs.inl 0 _ _ rfl rfl NeedIs.nil)
                  · intro rest
                    refine SOps.move rfl ?_
                    exact SOps.nil rfl
                  apply DOk.cons 51 
                  · rfl
                  · exact (NeedIs.inl 0 _ _ rfl rfl (NeedIs.inr _ rfl NeedIs.nil))
                  · intro rest
                    refine SOps.fieldPin rfl fieldB_28_2_2 ?_
                    exact SOps.nil rfl
                  apply DOk.cons 52 
                  · rfl
                  · exact (NeedIs.inl 1 _ _ rfl rfl (NeedIs.inl 0 _ _ rfl rfl NeedIs.nil))
                  · intro rest
                    refine SOps.loadPin rfl flatB_26 ?_
                    exact SOps.nil rfl
                  apply DOk.cons 53 
                  · rfl
                  · exact (NeedIs.inl 2 _ _ rfl rfl (NeedIs.inr _ rfl NeedIs.nil))
                  · intro rest
                    refine SOps.move rfl ?_
                    exact SOps.nil rfl
                  apply DOk.cons 54 
                  · rfl
                  · exact (NeedIs.inl 3 _ _ rfl rfl (NeedIs.inl 1 _ _ rfl rfl (NeedIs.inl 0 _ _ rfl rfl NeedIs.nil)))
                  · intro rest
                    refine SOps.indexM (i) rfl rfl sliceB_26_39_1 (by first | omega | (simp only [lenB]; omega)) (by first | omega | (simp only [lenB]; omega)) ?_
                    exact SOps.nil rfl
                  apply DOk.cons 55 
                  · rfl
                  · exact (NeedIs.inl 4 _ _ rfl rfl (NeedIs.inl 0 _ _ rfl rfl NeedIs.nil))
                  · intro rest
                    refine SOps.loadPin rfl flatB_39 ?_
                    exact SOps.nil rfl
                  apply DOk.cons 56 
                  · rfl
                  · exact (NeedIs.inl 5 _ _ rfl rfl (NeedIs.inl 0 _ _ rfl rfl NeedIs.nil))
                  · intro rest
                    refine SOps.lenM rfl sliceB_39_3_1 ?_
                    exact SOps.nil rfl
                  apply DOk.cons 57 
                  · rfl
                  · exact (NeedIs.inl 6 _ _ rfl rfl (NeedIs.inl 0 _ _ rfl rfl NeedIs.nil))
                  · intro rest
                    refine SOps.bin rfl rfl rfl ?_
                    exact SOps.nil rfl
                  apply DOk.cons 58 
                  · rfl
                  · exact (NeedIs.inl 7 _ _ rfl rfl (NeedIs.inl 0 _ _ rfl rfl NeedIs.nil))
                  · intro rest
                    refine SOps.pick rfl rfl ?_
                    exact SOps.nil rfl
                  exact DOk.nil
                · rfl
                · show SCode _ _ _ _
                  refine SCode.cond rfl (fun hc7 => ?_) (fun hc7 => ?_)
                  · try simp only [decide_eq_true_eq, decide_eq_false_iff_not, Bool.not_eq_true', Bool.not_eq_false', beq_iff_eq, bne_iff_ne, ne_eq, beq_eq_false_iff_ne, bne_eq_false_iff_eq, Int.not_lt, Int.not_le, Nat.not_lt, Nat.not_le, Int.ofNat_lt, Int.ofNat_le, Bool.not_eq_eq_eq_not, Bool.not_true, Bool.not_false] at hc7
                    refine SCode.seqR ?_
                    refine SOps.assign rfl ?_
                    refine SOps.nil ?_
                    refine SCode.ret ?_
                    exact ⟨_, Res.one (.tmp rfl), congrArg (fun b => DV.v (.bool b)) (Eq.symm (Bool.eq_false_iff.2 (fun h => by obtain ⟨hh, hrows⟩ := accV_iff.1 h; have hho := headOK_iff.1 hh; have h9 := hrows i hix; omega))), rfl⟩
                  · try simp only [decide_eq_true_eq, decide_eq_false_iff_not, Bool.not_eq_true', Bool.not_eq_false', beq_iff_eq, bne_iff_ne, ne_eq, beq_eq_false_iff_ne, bne_eq_false_iff_eq, Int.not_lt, Int.not_le, Nat.not_lt, Nat.not_le, Int.ofNat_lt, Int.ofNat_le, Bool.not_eq_eq_eq_not, Bool.not_true, Bool.not_false] at hc7
                    refine SCode.skip ?_
                    show SCode _ _ _ _
                    refine SCode.seqR ?_
                    refine SOps.assign rfl ?_
                    refine SOps.nil ?_
                    refine SCode.block ?_
                    refine SCode.loop1 (fun (j : Nat) => (⟨90, [(1, .ipin (encAcc x)), (3, .v (.int .i64 ((x.nxt.length : Nat) : Int))), (4, .v (.int .i64 (i : Int))), (5, .v (.int .i64 (j : Int)))], []⟩ : St)) (fun (j : Nat) => j ≤ (x.nxt[i]).length ∧ ∀ t ∈ (x.nxt[i]).take j, 0 ≤ t ∧ t < x.nxt.length) (fun (j : Nat) => (x.nxt[i]).length - j) (0) (by simp) (St.Le.of ⟨(by first | rfl | (show some _ = some _; simp)), (by first | rfl | (show some _ = some _; simp)), (by first | rfl | (show some _ = some _; simp)), (by first | rfl | (show some _ = some _; simp)), trivial⟩ rfl (by first | rfl | (simp))) ?_
                    rintro j ⟨hj, hg⟩
                    refine SCode.seq ?_
                    refine SCode.seqR ?_
                    refine SOps.move rfl ?_
                    refine SOps.fieldPin rfl fieldB_28_2_2 ?_
                    refine SOps.loadPin rfl flatB_26 ?_
                    refine SOps.move rfl ?_
                    refine SOps.indexM (i) rfl rfl sliceB_26_39_1 (by first | omega | (simp only [lenB]; omega)) (by first | omega | (simp only [lenB]; omega)) ?_
                    refine SOps.loadPin rfl flatB_39 ?_
                    refine SOps.lenM rfl sliceB_39_3_1 ?_
                    refine SOps.bin rfl rfl rfl ?_
                    refine SOps.nil ?_
                    refine SCode.cond rfl (fun hc8 => ?_) (fun hc8 => ?_)
                    · try simp only [decide_eq_true_eq, decide_eq_false_iff_not, Bool.not_eq_true', Bool.not_eq_false', beq_iff_eq, bne_iff_ne, ne_eq, beq_eq_false_iff_ne, bne_eq_false_iff_eq, Int.not_lt, Int.not_le, Nat.not_lt, Nat.not_le, Int.ofNat_lt, Int.ofNat_le, Bool.not_eq_eq_eq_not, Bool.not_true, Bool.not_false] at hc8
                      refine SCode.skip ?_
                      show SCode _ _ _ _
                      refine SCode.seq ?_
                      refine SCode.block ?_
                      refine SCode.seqR ?_
                      have hjx : j < (x.nxt[i]).length := by omega
                      refine SOps.fieldPin rfl fieldB_28_2_2 ?_
                      refine SOps.loadPin rfl flatB_26 ?_
                      refine SOps.move rfl ?_
                      refine SOps.indexM (i) rfl rfl sliceB_26_39_1 (by first | omega | (simp only [lenB]; omega)) (by first | omega | (simp only [lenB]; omega)) ?_
                      refine SOps.loadPin rfl flatB_39 ?_
                      refine SOps.move rfl ?_
                      refine SOps.indexM (j) rfl rfl sliceB_39_3_1 (by first | omega | (simp only [lenB]; omega)) (by first | omega | (simp only [lenB]; omega)) ?_
                      refine SOps.loadPin rfl flatB_3 ?_
                      refine SOps.bin rfl rfl rfl ?_
                      refine SOps.move rfl ?_
                      refine SOps.caseB 78 rfl (fun hb9 => ?_) (fun hb9 => ?_)
                      · try simp only [decide_eq_true_eq, decide_eq_false_iff_not, Bool.not_eq_true', Bool.not_eq_false', beq_iff_eq, bne_iff_ne, ne_eq, beq_eq_false_iff_ne, bne_eq_false_iff_eq, Int.not_lt, Int.not_le, Nat.not_lt, Nat.not_le, Int.ofNat_lt, Int.ofNat_le, Bool.not_eq_eq_eq_not, Bool.not_true, Bool.not_false] at hb9
                        refine SOps.skip rfl ?_
                        refine SOps.skip rfl ?_
                        refine SOps.skip rfl ?_
                        refine SOps.skip rfl ?_
                        refine SOps.skip rfl ?_
                        refine SOps.skip rfl ?_
                        refine SOps.skip rfl ?_
                        refine SOps.skip rfl ?_
                        refine SOps.skip rfl ?_
                        refine SOps.skip rfl ?_
                        refine SOps.pick rfl rfl ?_
                        refine SOps.nil ?_
                        refine SCode.cond rfl (fun _ => ?_) (fun h => by cases h)
                        refine SCode.seqR ?_
                        refine SOps.assign rfl ?_
                        refine SOps.nil ?_
                        refine SCode.ret ?_
                        exact ⟨_, Res.one (.tmp rfl), congrArg (fun b => DV.v (.bool b)) (Eq.symm (Bool.eq_false_iff.2 (fun h => by obtain ⟨hh, hrows⟩ := accV_iff.1 h; have hho := headOK_iff.1 hh; have h9 := (hrows i hix).2.2 _ (List.getElem_mem hjx); omega))), rfl⟩
                      · try simp only [decide_eq_true_eq, decide_eq_false_iff_not, Bool.not_eq_true', Bool.not_eq_false', beq_iff_eq, bne_iff_ne, ne_eq, beq_eq_false_iff_ne, bne_eq_false_iff_eq, Int.not_lt, Int.not_le, Nat.not_lt, Nat.not_le, Int.ofNat_lt, Int.ofNat_le, Bool.not_eq_eq_eq_not, Bool.not_true, Bool.not_false] at hb9
                        refine SOps.fieldPin rfl fieldB_28_2_2 ?_
                        refine SOps.loadPin rfl flatB_26 ?_
                        refine SOps.move rfl ?_
                        refine SOps.indexM (i) rfl rfl sliceB_26_39_1 (by first | omega | (simp only [lenB]; omega)) (by first | omega | (simp only [lenB]; omega)) ?_
                        refine SOps.loadPin rfl flatB_39 ?_
                        refine SOps.move rfl ?_
                        refine SOps.indexM (j) rfl rfl sliceB_39_3_1 (by first | omega | (simp only [lenB]; omega)) (by first | omega | (simp only [lenB]; omega)) ?_
                        refine SOps.loadPin rfl flatB_3 ?_
                        refine SOps.move rfl ?_
                        refine SOps.bin rfl rfl rfl ?_
                        refine SOps.pick rfl rfl ?_
                        refine SOps.nil ?_
                        refine SCode.cond rfl (fun hc10 => ?_) (fun hc10 => ?_)
                        · try simp only [decide_eq_true_eq, decide_eq_false_iff_not, Bool.not_eq_true', Bool.not_eq_false', beq_iff_eq, bne_iff_ne, ne_eq, beq_eq_false_iff_ne, bne_eq_false_iff_eq, Int.not_lt, Int.not_le, Nat.not_lt, Nat.not_le, Int.ofNat_lt, Int.ofNat_le, Bool.not_eq_eq_eq_not, Bool.not_true, Bool.not_false] at hc10
                          refine SCode.seqR ?_
                          refine SOps.assign rfl ?_
                          refine SOps.nil ?_
                          refine SCode.ret ?_
                          exact ⟨_, Res.one (.tmp rfl), congrArg (fun b => DV.v (.bool b)) (Eq.symm (Bool.eq_false_iff.2 (fun h => by obtain ⟨hh, hrows⟩ := accV_iff.1 h; have hho := headOK_iff.1 hh; have h9 := (hrows i hix).2.2 _ (List.getElem_mem hjx); omega))), rfl⟩
                        · try simp only [decide_eq_true_eq, decide_eq_false_iff_not, Bool.not_eq_true', Bool.not_eq_false', beq_iff_eq, bne_iff_ne, ne_eq, beq_eq_false_iff_ne, bne_eq_false_iff_eq, Int.not_lt, Int.not_le, Nat.not_lt, Nat.not_le, Int.ofNat_lt, Int.ofNat_le, Bool.not_eq_eq_eq_not, Bool.not_true, Bool.not_false] at hc10
                          refine SCode.skip ?_
                          show SCode _ _ _ _
                          refine SCode.region ?_
                          refine SOps.move rfl ?_
                          refine SOps.addI rfl rfl (by first | omega | (simp only [lenB]; omega)) (by first | omega | (simp only [lenB]; omega)) ?_
                          refine SOps.assign rfl ?_
                          refine SOps.nil ?_
                          exact ⟨j + 1, by exact ⟨by omega, take_more hg hjx ⟨by omega, by omega⟩⟩, by omega, (St.Le.of ⟨(by first | rfl | (show some _ = some _; simp)), (by first | rfl | (show some _ = some _; simp)), (by first | rfl | (show some _ = some _; simp)), (by first | rfl | (show some _ = some _; simp)), trivial⟩ rfl (by first | rfl | (simp)))⟩
                    · try simp only [decide_eq_true_eq, decide_eq_false_iff_not, Bool.not_eq_true', Bool.not_eq_false', beq_iff_eq, bne_iff_ne, ne_eq, beq_eq_false_iff_ne, bne_eq_false_iff_eq, Int.not_lt, Int.not_le, Nat.not_lt, Nat.not_le, Int.ofNat_lt, Int.ofNat_le, Bool.not_eq_eq_eq_not, Bool.not_true, Bool.not_false] at hc8
                      refine SCode.exit ?_
                      show SCode _ _ _ _
                      refine SCode.region ?_
                      refine SOps.move rfl ?_
                      refine SOps.addI rfl rfl (by first | omega | (simp only [lenB]; omega)) (by first | omega | (simp only [lenB]; omega)) ?_
                      refine SOps.assign rfl ?_
                      refine SOps.nil ?_
                      exact ⟨i + 1, by exact ⟨by omega, fun k h hk => by rcases Nat.lt_or_ge k i with h2 | h2; exact hf k h h2; obtain rfl : k = i := (by omega); exact ⟨by omega, by omega, all_of (by omega) hg⟩⟩, by omega, (St.Le.of ⟨(by first | rfl | (show some _ = some _; simp)), (by first | rfl | (show some _ = some _; simp)), (by first | rfl | (show some _ = some _; simp)), trivial⟩ rfl (by first | rfl | (simp)))⟩
            · try simp only [decide_eq_true_eq, decide_eq_false_iff_not, Bool.not_eq_true', Bool.not_eq_false', beq_iff_eq, bne_iff_ne, ne_eq, beq_eq_false_iff_ne, bne_eq_false_iff_eq, Int.not_lt, Int.not_le, Nat.not_lt, Nat.not_le, Int.ofNat_lt, Int.ofNat_le, Bool.not_eq_eq_eq_not, Bool.not_true, Bool.not_false] at hc6
              refine SCode.exit ?_
              show SCode _ _ _ _
              refine SCode.seqR ?_
              refine SOps.assign rfl ?_
              refine SOps.nil ?_
              refine SCode.ret ?_
              exact ⟨_, Res.one (.tmp rfl), congrArg (fun b => DV.v (.bool b)) (Eq.symm (accV_iff.2 ⟨hh, fun k h => hf k h (by omega)⟩)), rfl⟩
theorem qAccepts (x : Acc) (w : List Nat) (hx : accOK x = true) (hw : ∀ c ∈ w, c < widthA x) : GCall Tryd.prog E 25 [.agg (encAcc x), DNats w] [] (fun d H => d = .v (.bool (finA x (runA x x.start w))) ∧ H = []) := by
  refine GCall.body (C := ⟨Tryd.prog, E, true⟩) Tryd.func25 rfl (fun _ => rfl) (by kernel_rfl) rfl ?_
  refine SCode.seqR ?_
  refine SOps.boxAM rfl rfl ?_
  refine SOps.assign rfl ?_
  refine SOps.nil ?_
  refine SCode.seqR ?_
  refine SOps.fieldPin rfl fieldB_28_0_0 ?_
  refine SOps.loadPin rfl flatB_3 ?_
  refine SOps.assign rfl ?_
  refine SOps.nil ?_
  refine SCode.seq ?_
  refine SCode.seqR ?_
  refine SOps.assign rfl ?_
  refine SOps.nil ?_
  refine SCode.block ?_
  have hho := headOK_iff.1 (by have h := hx; simp only [accOK, Bool.and_eq_true] at h; exact h.1)
  refine SCode.loop1 (fun (i : Nat) => (⟨31, [(1, DNats w), (2, .ipin (encAcc x)), (5, .v (.int .i64 (runA x x.start (w.take i)))), (6, .v (.int .i64 (i : Int)))], []⟩ : St)) (fun (i : Nat) => i ≤ w.length) (fun (i : Nat) => w.length - i) (0) (by exact Nat.zero_le _) (St.Le.of ⟨(by first | rfl | (show some _ = some _; simp)), (by first | rfl | (show some _ = some _; simp)), (by first | rfl | (show some _ = some _; simp)), (by first | rfl | (show some _ = some _; simp)), trivial⟩ rfl (by first | rfl | (simp))) ?_
  rintro i hi
  obtain ⟨hr1, hr2⟩ := runA_ok hx (w.take i) x.start (by omega) (by omega) (fun c hc => hw c (List.mem_of_mem_take hc))
  refine SCode.fact (isl_len (t := 1) rfl) (fun hB => ?_)
  simp only [List.length_map, lenB] at hB
  refine SCode.seq ?_
  refine SCode.seqR ?_
  refine SOps.move rfl ?_
  refine SOps.move rfl ?_
  refine SOps.lenM rfl sliceB_39_3_1 ?_
  refine SOps.bin rfl rfl rfl ?_
  refine SOps.nil ?_
  refine SCode.cond rfl (fun hc1 => ?_) (fun hc1 => ?_)
  · try simp only [decide_eq_true_eq, decide_eq_false_iff_not, Bool.not_eq_true', Bool.not_eq_false', beq_iff_eq, bne_iff_ne, ne_eq, beq_eq_false_iff_ne, bne_eq_false_iff_eq, Int.not_lt, Int.not_le, Nat.not_lt, Nat.not_le, Int.ofNat_lt, Int.ofNat_le, Bool.not_eq_eq_eq_not, Bool.not_true, Bool.not_false] at hc1
    refine SCode.skip ?_
    show SCode _ _ _ _
    refine SCode.seq ?_
    refine SCode.block ?_
    have hi5 : i < w.length := by omega
    have hri : (runA x x.start (w.take i)).toNat < x.nxt.length := by omega
    have hrc : w[i] < (x.nxt[(runA x x.start (w.take i)).toNat]).length := by rw [(accOK_row hx hri).1]; exact hw _ (List.getElem_mem hi5)
    apply SCode.drawAuto mixed_ [15, 16, 17, 18, 19, 20, 21, 22, 23, 24, 25, 5] [[.inr 2], [.inl 0], [.inr 5], [.inl 1, .inl 2], [.inl 3], [.inr 1], [.inr 6], [.inl 5, .inl 6], [.inl 7], [.inl 4, .inl 8], [.inl 9], [.inl 10]]
    · kernel_rfl
    · kernel_rfl
    · apply DOk.cons 15 
      · rfl
      · exact (NeedIs.inr _ rfl NeedIs.nil)
      · intro rest
        refine SOps.fieldPin rfl fieldB_28_2_2 ?_
        exact SOps.nil rfl
      apply DOk.cons 16 
      · rfl
      · exact (NeedIs.inl 0 _ _ rfl rfl NeedIs.nil)
      · intro rest
        refine SOps.loadPin rfl flatB_26 ?_
        exact SOps.nil rfl
      apply DOk.cons 17 
      · rfl
      · exact (NeedIs.inr _ rfl NeedIs.nil)
      · intro rest
        refine SOps.move rfl ?_
        exact SOps.nil rfl
      apply DOk.cons 18 
      · rfl
      · exact (NeedIs.inl 1 _ _ rfl rfl (NeedIs.inl 0 _ _ rfl rfl NeedIs.nil))
      · intro rest
        refine SOps.indexM ((runA x x.start (w.take i)).toNat) rfl rfl sliceB_26_39_1 (by first | omega | (simp only [lenB]; omega)) (by first | omega | (simp only [lenB]; omega)) ?_
        exact SOps.nil rfl
      apply DOk.cons 19 
      · rfl
      · exact (NeedIs.inl 0 _ _ rfl rfl NeedIs.nil)
      · intro rest
        refine SOps.loadPin rfl flatB_39 ?_
        exact SOps.nil rfl
      apply DOk.cons 20 
      · rfl
      · exact (NeedIs.inr _ rfl NeedIs.nil)
      · intro rest
        refine SOps.move rfl ?_
        exact SOps.nil rfl
      apply DOk.cons 21 
      · rfl
      · exact (NeedIs.inr _ rfl NeedIs.nil)
      · intro rest
        refine SOps.move rfl ?_
        exact SOps.nil rfl
      apply DOk.cons 22 
      · rfl
      · exact (NeedIs.inl 1 _ _ rfl rfl (NeedIs.inl 0 _ _ rfl rfl NeedIs.nil))
      · intro rest
        refine SOps.indexM (i) rfl rfl sliceB_39_3_1 (by first | omega | (simp only [lenB]; omega)) (by first | omega | (simp only [lenB]; omega)) ?_
        exact SOps.nil rfl
      apply DOk.cons 23 
      · rfl
      · exact (NeedIs.inl 0 _ _ rfl rfl NeedIs.nil)
      · intro rest
        refine SOps.loadPin rfl flatB_3 ?_
        exact SOps.nil rfl
      apply DOk.cons 24 
      · rfl
      · exact (NeedIs.inl 4 _ _ rfl rfl (NeedIs.inl 0 _ _ rfl rfl NeedIs.nil))
      · intro rest
        refine SOps.indexM (w[i]) rfl rfl sliceB_39_3_1 (by first | omega | (simp only [lenB]; omega)) (by first | omega | (simp only [lenB]; omega)) ?_
        exact SOps.nil rfl
      apply DOk.cons 25 
      · rfl
      · exact (NeedIs.inl 0 _ _ rfl rfl NeedIs.nil)
      · intro rest
        refine SOps.loadPin rfl flatB_3 ?_
        exact SOps.nil rfl
      apply DOk.cons 5 
      · rfl
      · exact (NeedIs.inl 0 _ _ rfl rfl NeedIs.nil)
      · intro rest
        refine SOps.assign rfl ?_
        exact SOps.nil rfl
      exact DOk.nil
    · rfl
    · show SCode _ _ _ _
      refine SCode.region ?_
      refine SOps.move rfl ?_
      refine SOps.addI rfl rfl (by first | omega | (simp only [lenB]; omega)) (by first | omega | (simp only [lenB]; omega)) ?_
      refine SOps.assign rfl ?_
      refine SOps.nil ?_
      exact ⟨i + 1, by omega, by omega, St.Le.of ⟨rfl, rfl, (by show some _ = some _; rw [runA_succ hi5 hri hrc]), rfl, trivial⟩⟩
  · try simp only [decide_eq_true_eq, decide_eq_false_iff_not, Bool.not_eq_true', Bool.not_eq_false', beq_iff_eq, bne_iff_ne, ne_eq, beq_eq_false_iff_ne, bne_eq_false_iff_eq, Int.not_lt, Int.not_le, Nat.not_lt, Nat.not_le, Int.ofNat_lt, Int.ofNat_le, Bool.not_eq_eq_eq_not, Bool.not_true, Bool.not_false] at hc1
    refine SCode.exit ?_
    show SCode _ _ _ _
    refine SCode.seqR ?_
    refine SOps.fieldPin rfl fieldB_28_1_1 ?_
    refine SOps.loadPin rfl flatB_25 ?_
    refine SOps.move rfl ?_
    refine SOps.indexM ((runA x x.start (w.take i)).toNat) rfl rfl sliceB_25_4_1 (by first | omega | (simp only [lenB]; omega)) (by first | omega | (simp only [lenB]; omega)) ?_
    refine SOps.loadPin rfl flatB_4 ?_
    refine SOps.assign rfl ?_
    refine SOps.nil ?_
    refine SCode.ret ?_
    exact ⟨_, Res.one (.tmp rfl), congrArg (fun b => DV.v (.bool b)) (by rw [finA_at, List.take_of_length_le (show w.length ≤ i by omega)]), rfl⟩
theorem qInts (x y : List Int)  : GCall Tryd.prog E 33 [DInts x, DInts y] [] (fun d H => d = .v (.bool (decide (x = y))) ∧ H = []) := by
  refine GCall.body (C := ⟨Tryd.prog, E, true⟩) Tryd.func33 rfl (fun _ => rfl) (by kernel_rfl) rfl ?_
  refine SCode.seqR ?_
  refine SOps.assign rfl ?_
  refine SOps.nil ?_
  refine SCode.seq ?_
  refine SCode.seqR ?_
  refine SOps.move rfl ?_
  refine SOps.lenM rfl sliceB_39_3_1 ?_
  refine SOps.move rfl ?_
  refine SOps.lenM rfl sliceB_39_3_1 ?_
  refine SOps.bin rfl rfl rfl ?_
  refine SOps.nil ?_
  refine SCode.cond rfl (fun hc1 => ?_) (fun hc1 => ?_)
  · try simp only [decide_eq_true_eq, decide_eq_false_iff_not, Bool.not_eq_true', Bool.not_eq_false', beq_iff_eq, bne_iff_ne, ne_eq, beq_eq_false_iff_ne, bne_eq_false_iff_eq, Int.not_lt, Int.not_le, Nat.not_lt, Nat.not_le, Int.ofNat_lt, Int.ofNat_le, Bool.not_eq_eq_eq_not, Bool.not_true, Bool.not_false] at hc1
    refine SCode.seqR ?_
    refine SOps.assign rfl ?_
    refine SOps.nil ?_
    refine SCode.ret ?_
    exact ⟨_, Res.one (.tmp rfl), congrArg (fun b => DV.v (.bool b)) ((decide_eq_false (fun e => hc1 (by rw [e]))).symm), rfl⟩
  · try simp only [decide_eq_true_eq, decide_eq_false_iff_not, Bool.not_eq_true', Bool.not_eq_false', beq_iff_eq, bne_iff_ne, ne_eq, beq_eq_false_iff_ne, bne_eq_false_iff_eq, Int.not_lt, Int.not_le, Nat.not_lt, Nat.not_le, Int.ofNat_lt, Int.ofNat_le, Bool.not_eq_eq_eq_not, Bool.not_true, Bool.not_false] at hc1
    refine SCode.skip ?_
    show SCode _ _ _ _
    refine SCode.seq ?_
    refine SCode.seqR ?_
    refine SOps.assign rfl ?_
    refine SOps.nil ?_
    refine SCode.block ?_
    refine SCode.loop1 (fun (i : Nat) => (⟨26, [(0, DInts x), (1, DInts y), (5, .v (.int .i64 (i : Int)))], []⟩ : St)) (fun (i : Nat) => i ≤ x.length ∧ x.take i = y.take i) (fun (i : Nat) => x.length - i) (0) (by simp) (St.Le.of ⟨(by first | rfl | (show some _ = some _; simp)), (by first | rfl | (show some _ = some _; simp)), (by first | rfl | (show some _ = some _; simp)), trivial⟩ rfl (by first | rfl | (simp))) ?_
    rintro i ⟨hi, hf⟩
    refine SCode.fact (isl_len (t := 0) rfl) (fun hB => ?_)
    simp only [List.length_map, lenB] at hB
    refine SCode.seq ?_
    refine SCode.seqR ?_
    refine SOps.move rfl ?_
    refine SOps.move rfl ?_
    refine SOps.lenM rfl sliceB_39_3_1 ?_
    refine SOps.bin rfl rfl rfl ?_
    refine SOps.nil ?_
    refine SCode.cond rfl (fun hc2 => ?_) (fun hc2 => ?_)
    · try simp only [decide_eq_true_eq, decide_eq_false_iff_not, Bool.not_eq_true', Bool.not_eq_false', beq_iff_eq, bne_iff_ne, ne_eq, beq_eq_false_iff_ne, bne_eq_false_iff_eq, Int.not_lt, Int.not_le, Nat.not_lt, Nat.not_le, Int.ofNat_lt, Int.ofNat_le, Bool.not_eq_eq_eq_not, Bool.not_true, Bool.not_false] at hc2
      refine SCode.skip ?_
      show SCode _ _ _ _
      refine SCode.seq ?_
      refine SCode.block ?_
      refine SCode.seq ?_
      have hx : i < x.length := by omega
      have hy : i < y.length := by omega
      apply SCode.drawAuto mixed_ [17, 18, 19, 20, 21, 22, 23, 24, 25] [[.inr 0], [.inr 5], [.inl 0, .inl 1], [.inl 2], [.inr 1], [.inr 5], [.inl 4, .inl 5], [.inl 6], [.inl 3, .inl 7]]
      · kernel_rfl
      · kernel_rfl
      · apply DOk.cons 17 
        · rfl
        · exact (NeedIs.inr _ rfl NeedIs.nil)
        · intro rest
          refine SOps.move rfl ?_
          exact SOps.nil rfl
        apply DOk.cons 18 
        · rfl
        · exact (NeedIs.inr _ rfl NeedIs.nil)
        · intro rest
          refine SOps.move rfl ?_
          exact SOps.nil rfl
        apply DOk.cons 19 
        · rfl
        · exact (NeedIs.inl 1 _ _ rfl rfl (NeedIs.inl 0 _ _ rfl rfl NeedIs.nil))
        · intro rest
          refine SOps.indexM (i) rfl rfl sliceB_39_3_1 (by first | omega | (simp only [lenB]; omega)) (by first | omega | (simp only [lenB]; omega)) ?_
          exact SOps.nil rfl
        apply DOk.cons 20 
        · rfl
        · exact (NeedIs.inl 0 _ _ rfl rfl NeedIs.nil)
        · intro rest
          refine SOps.loadPin rfl flatB_3 ?_
          exact SOps.nil rfl
        apply DOk.cons 21 
        · rfl
        · exact (NeedIs.inr _ rfl NeedIs.nil)
        · intro rest
          refine SOps.move rfl ?_
          exact SOps.nil rfl
        apply DOk.cons 22 
        · rfl
        · exact (NeedIs.inr _ rfl NeedIs.nil)
        · intro rest
          refine SOps.move rfl ?_
          exact SOps.nil rfl
        apply DOk.cons 23 
        · rfl
        · exact (NeedIs.inl 1 _ _ rfl rfl (NeedIs.inl 0 _ _ rfl rfl NeedIs.nil))
        · intro rest
          refine SOps.indexM (i) rfl rfl sliceB_39_3_1 (by first | omega | (simp only [lenB]; omega)) (by first | omega | (simp only [lenB]; omega)) ?_
          exact SOps.nil rfl
        apply DOk.cons 24 
        · rfl
        · exact (NeedIs.inl 0 _ _ rfl rfl NeedIs.nil)
        · intro rest
          refine SOps.loadPin rfl flatB_3 ?_
          exact SOps.nil rfl
        apply DOk.cons 25 
        · rfl
        · exact (NeedIs.inl 4 _ _ rfl rfl (NeedIs.inl 0 _ _ rfl rfl NeedIs.nil))
        · intro rest
          refine SOps.bin rfl rfl rfl ?_
          exact SOps.nil rfl
        exact DOk.nil
      · rfl
      · show SCode _ _ _ _
        refine SCode.cond rfl (fun hc3 => ?_) (fun hc3 => ?_)
        · try simp only [decide_eq_true_eq, decide_eq_false_iff_not, Bool.not_eq_true', Bool.not_eq_false', beq_iff_eq, bne_iff_ne, ne_eq, beq_eq_false_iff_ne, bne_eq_false_iff_eq, Int.not_lt, Int.not_le, Nat.not_lt, Nat.not_le, Int.ofNat_lt, Int.ofNat_le, Bool.not_eq_eq_eq_not, Bool.not_true, Bool.not_false] at hc3
          refine SCode.seqR ?_
          refine SOps.assign rfl ?_
          refine SOps.nil ?_
          refine SCode.ret ?_
          exact ⟨_, Res.one (.tmp rfl), congrArg (fun b => DV.v (.bool b)) ((decide_eq_false (ne_of_getElem hx hy (by omega))).symm), rfl⟩
        · try simp only [decide_eq_true_eq, decide_eq_false_iff_not, Bool.not_eq_true', Bool.not_eq_false', beq_iff_eq, bne_iff_ne, ne_eq, beq_eq_false_iff_ne, bne_eq_false_iff_eq, Int.not_lt, Int.not_le, Nat.not_lt, Nat.not_le, Int.ofNat_lt, Int.ofNat_le, Bool.not_eq_eq_eq_not, Bool.not_true, Bool.not_false] at hc3
          refine SCode.skip ?_
          show SCode _ _ _ _
          refine SCode.region ?_
          refine SOps.move rfl ?_
          refine SOps.addI rfl rfl (by first | omega | (simp only [lenB]; omega)) (by first | omega | (simp only [lenB]; omega)) ?_
          refine SOps.assign rfl ?_
          refine SOps.nil ?_
          exact ⟨i + 1, by exact ⟨by omega, take_eq_succ hx hy hf (by omega)⟩, by omega, (St.Le.of ⟨(by first | rfl | (show some _ = some _; simp)), (by first | rfl | (show some _ = some _; simp)), (by first | rfl | (show some _ = some _; simp)), trivial⟩ rfl (by first | rfl | (simp)))⟩
    · try simp only [decide_eq_true_eq, decide_eq_false_iff_not, Bool.not_eq_true', Bool.not_eq_false', beq_iff_eq, bne_iff_ne, ne_eq, beq_eq_false_iff_ne, bne_eq_false_iff_eq, Int.not_lt, Int.not_le, Nat.not_lt, Nat.not_le, Int.ofNat_lt, Int.ofNat_le, Bool.not_eq_eq_eq_not, Bool.not_true, Bool.not_false] at hc2
      refine SCode.exit ?_
      show SCode _ _ _ _
      refine SCode.seqR ?_
      refine SOps.assign rfl ?_
      refine SOps.nil ?_
      refine SCode.ret ?_
      exact ⟨_, Res.one (.tmp rfl), congrArg (fun b => DV.v (.bool b)) ((decide_eq_true (take_full (by omega) (by omega) hf)).symm), rfl⟩
theorem qSameA (x y : Acc)  : GCall Tryd.prog E 15 [.agg (encAcc x), .agg (encAcc y)] [] (fun d H => d = .v (.bool (decide (x.start = y.start ∧ x.fin = y.fin ∧ x.nxt = y.nxt))) ∧ H = []) := by
  refine GCall.body (C := ⟨Tryd.prog, E, true⟩) Tryd.func15 rfl (fun _ => rfl) (by kernel_rfl) rfl ?_
  refine SCode.seqR ?_
  refine SOps.boxAM rfl rfl ?_
  refine SOps.boxAM rfl rfl ?_
  refine SOps.assign rfl ?_
  refine SOps.nil ?_
  refine SCode.seq ?_
  refine SCode.seqR ?_
  refine SOps.fieldPin rfl fieldB_28_0_0 ?_
  refine SOps.loadPin rfl flatB_3 ?_
  refine SOps.fieldPin rfl fieldB_28_0_0 ?_
  refine SOps.loadPin rfl flatB_3 ?_
  refine SOps.bin rfl rfl rfl ?_
  refine SOps.move rfl ?_
  refine SOps.caseB 12 rfl (fun hb1 => ?_) (fun hb1 => ?_)
  · try simp only [decide_eq_true_eq, decide_eq_false_iff_not, Bool.not_eq_true', Bool.not_eq_false', beq_iff_eq, bne_iff_ne, ne_eq, beq_eq_false_iff_ne, bne_eq_false_iff_eq, Int.not_lt, Int.not_le, Nat.not_lt, Nat.not_le, Int.ofNat_lt, Int.ofNat_le, Bool.not_eq_eq_eq_not, Bool.not_true, Bool.not_false] at hb1
    refine SOps.skip rfl ?_
    refine SOps.skip rfl ?_
    refine SOps.skip rfl ?_
    refine SOps.skip rfl ?_
    refine SOps.skip rfl ?_
    refine SOps.skip rfl ?_
    refine SOps.skip rfl ?_
    refine SOps.pick rfl rfl ?_
    refine SOps.move rfl ?_
    refine SOps.skip rfl ?_
    refine SOps.skip rfl ?_
    refine SOps.skip rfl ?_
    refine SOps.skip rfl ?_
    refine SOps.skip rfl ?_
    refine SOps.skip rfl ?_
    refine SOps.skip rfl ?_
    refine SOps.pick rfl rfl ?_
    refine SOps.nil ?_
    refine SCode.cond rfl (fun _ => ?_) (fun h => by cases h)
    refine SCode.seqR ?_
    refine SOps.assign rfl ?_
    refine SOps.nil ?_
    refine SCode.ret ?_
    exact ⟨_, Res.one (.tmp rfl), congrArg (fun b => DV.v (.bool b)) ((decide_eq_false (fun e => hb1 e.1)).symm), rfl⟩
  · try simp only [decide_eq_true_eq, decide_eq_false_iff_not, Bool.not_eq_true', Bool.not_eq_false', beq_iff_eq, bne_iff_ne, ne_eq, beq_eq_false_iff_ne, bne_eq_false_iff_eq, Int.not_lt, Int.not_le, Nat.not_lt, Nat.not_le, Int.ofNat_lt, Int.ofNat_le, Bool.not_eq_eq_eq_not, Bool.not_true, Bool.not_false] at hb1
    refine SOps.fieldPin rfl fieldB_28_1_1 ?_
    refine SOps.loadPin rfl flatB_25 ?_
    refine SOps.lenM rfl sliceB_25_4_1 ?_
    refine SOps.fieldPin rfl fieldB_28_1_1 ?_
    refine SOps.loadPin rfl flatB_25 ?_
    refine SOps.lenM rfl sliceB_25_4_1 ?_
    refine SOps.bin rfl rfl rfl ?_
    refine SOps.pick rfl rfl ?_
    refine SOps.move rfl ?_
    refine SOps.caseB 21 rfl (fun hb2 => ?_) (fun hb2 => ?_)
    · try simp only [decide_eq_true_eq, decide_eq_false_iff_not, Bool.not_eq_true', Bool.not_eq_false', beq_iff_eq, bne_iff_ne, ne_eq, beq_eq_false_iff_ne, bne_eq_false_iff_eq, Int.not_lt, Int.not_le, Nat.not_lt, Nat.not_le, Int.ofNat_lt, Int.ofNat_le, Bool.not_eq_eq_eq_not, Bool.not_true, Bool.not_false] at hb2
      refine SOps.skip rfl ?_
      refine SOps.skip rfl ?_
      refine SOps.skip rfl ?_
      refine SOps.skip rfl ?_
      refine SOps.skip rfl ?_
      refine SOps.skip rfl ?_
      refine SOps.skip rfl ?_
      refine SOps.pick rfl rfl ?_
      refine SOps.nil ?_
      refine SCode.cond rfl (fun _ => ?_) (fun h => by cases h)
      refine SCode.seqR ?_
      refine SOps.assign rfl ?_
      refine SOps.nil ?_
      refine SCode.ret ?_
      exact ⟨_, Res.one (.tmp rfl), congrArg (fun b => DV.v (.bool b)) ((decide_eq_false (fun e => by rw [e.2.1] at hb2; exact hb2 rfl)).symm), rfl⟩
    · try simp only [decide_eq_true_eq, decide_eq_false_iff_not, Bool.not_eq_true', Bool.not_eq_false', beq_iff_eq, bne_iff_ne, ne_eq, beq_eq_false_iff_ne, bne_eq_false_iff_eq, Int.not_lt, Int.not_le, Nat.not_lt, Nat.not_le, Int.ofNat_lt, Int.ofNat_le, Bool.not_eq_eq_eq_not, Bool.not_true, Bool.not_false] at hb2
      refine SOps.fieldPin rfl fieldB_28_2_2 ?_
      refine SOps.loadPin rfl flatB_26 ?_
      refine SOps.lenM rfl sliceB_26_39_1 ?_
      refine SOps.fieldPin rfl fieldB_28_2_2 ?_
      refine SOps.loadPin rfl flatB_26 ?_
      refine SOps.lenM rfl sliceB_26_39_1 ?_
      refine SOps.bin rfl rfl rfl ?_
      refine SOps.pick rfl rfl ?_
      refine SOps.nil ?_
      refine SCode.cond rfl (fun hc3 => ?_) (fun hc3 => ?_)
      · try simp only [decide_eq_true_eq, decide_eq_false_iff_not, Bool.not_eq_true', Bool.not_eq_false', beq_iff_eq, bne_iff_ne, ne_eq, beq_eq_false_iff_ne, bne_eq_false_iff_eq, Int.not_lt, Int.not_le, Nat.not_lt, Nat.not_le, Int.ofNat_lt, Int.ofNat_le, Bool.not_eq_eq_eq_not, Bool.not_true, Bool.not_false] at hc3
        refine SCode.seqR ?_
        refine SOps.assign rfl ?_
        refine SOps.nil ?_
        refine SCode.ret ?_
        exact ⟨_, Res.one (.tmp rfl), congrArg (fun b => DV.v (.bool b)) ((decide_eq_false (fun e => by rw [e.2.2] at hc3; exact hc3 rfl)).symm), rfl⟩
      · try simp only [decide_eq_true_eq, decide_eq_false_iff_not, Bool.not_eq_true', Bool.not_eq_false', beq_iff_eq, bne_iff_ne, ne_eq, beq_eq_false_iff_ne, bne_eq_false_iff_eq, Int.not_lt, Int.not_le, Nat.not_lt, Nat.not_le, Int.ofNat_lt, Int.ofNat_le, Bool.not_eq_eq_eq_not, Bool.not_true, Bool.not_false] at hc3
        refine SCode.skip ?_
        show SCode _ _ _ _
        refine SCode.seq ?_
        refine SCode.seqR ?_
        refine SOps.assign rfl ?_
        refine SOps.nil ?_
        refine SCode.block ?_
        refine SCode.loop1 (fun (i : Nat) => (⟨67, [(2, .ipin (encAcc x)), (3, .ipin (encAcc y)), (5, .v (.int .i64 (i : Int)))], []⟩ : St)) (fun (i : Nat) => i ≤ x.fin.length ∧ x.fin.take i = y.fin.take i) (fun (i : Nat) => x.fin.length - i) (0) (by simp) (St.Le.of ⟨(by first | rfl | (show some _ = some _; simp)), (by first | rfl | (show some _ = some _; simp)), (by first | rfl | (show some _ = some _; simp)), trivial⟩ rfl (by first | rfl | (simp))) ?_
        rintro i ⟨hi, hf⟩
        refine SCode.seq ?_
        refine SCode.seqR ?_
        refine SOps.move rfl ?_
        refine SOps.fieldPin rfl fieldB_28_1_1 ?_
        refine SOps.loadPin rfl flatB_25 ?_
        refine SOps.fact (isl_len (t := 32) rfl) (fun hB => ?_)
        simp only [List.length_map, lenB] at hB
        refine SOps.lenM rfl sliceB_25_4_1 ?_
        refine SOps.bin rfl rfl rfl ?_
        refine SOps.nil ?_
        refine SCode.cond rfl (fun hc4 => ?_) (fun hc4 => ?_)
        · try simp only [decide_eq_true_eq, decide_eq_false_iff_not, Bool.not_eq_true', Bool.not_eq_false', beq_iff_eq, bne_iff_ne, ne_eq, beq_eq_false_iff_ne, bne_eq_false_iff_eq, Int.not_lt, Int.not_le, Nat.not_lt, Nat.not_le, Int.ofNat_lt, Int.ofNat_le, Bool.not_eq_eq_eq_not, Bool.not_true, Bool.not_false] at hc4
          refine SCode.skip ?_
          show SCode _ _ _ _
          refine SCode.seq ?_
          refine SCode.block ?_
          refine SCode.seq ?_
          have hx : i < x.fin.length := by omega
          have hy : i < y.fin.length := by omega
          apply SCode.drawAuto mixed_ [37, 38, 39, 40, 41, 42, 43, 44, 45, 46, 47] [[.inr 2], [.inl 0], [.inr 5], [.inl 1, .inl 2], [.inl 3], [.inr 3], [.inl 5], [.inr 5], [.inl 6, .inl 7], [.inl 8], [.inl 4, .inl 9]]
          · kernel_rfl
          · kernel_rfl
          · apply DOk.cons 37 
            · rfl
            · exact (NeedIs.inr _ rfl NeedIs.nil)
            · intro rest
              refine SOps.fieldPin rfl fieldB_28_1_1 ?_
              exact SOps.nil rfl
            apply DOk.cons 38 
            · rfl
            · exact (NeedIs.inl 0 _ _ rfl rfl NeedIs.nil)
            · intro rest
              refine SOps.loadPin rfl flatB_25 ?_
              exact SOps.nil rfl
            apply DOk.cons 39 
            · rfl
            · exact (NeedIs.inr _ rfl NeedIs.nil)
            · intro rest
              refine SOps.move rfl ?_
              exact SOps.nil rfl
            apply DOk.cons 40 
            · rfl
            · exact (NeedIs.inl 1 _ _ rfl rfl (NeedIs.inl 0 _ _ rfl rfl NeedIs.nil))
            · intro rest
              refine SOps.indexM (i) rfl rfl sliceB_25_4_1 (by first | omega | (simp only [lenB]; omega)) (by first | omega | (simp only [lenB]; omega)) ?_
              exact SOps.nil rfl
            apply DOk.cons 41 
            · rfl
            · exact (NeedIs.inl 0 _ _ rfl rfl NeedIs.nil)
            · intro rest
              refine SOps.loadPin rfl flatB_4 ?_
              exact SOps.nil rfl
            apply DOk.cons 42 
            · rfl
            · exact (NeedIs.inr _ rfl NeedIs.nil)
            · intro rest
              refine SOps.fieldPin rfl fieldB_28_1_1 ?_
              exact SOps.nil rfl
            apply DOk.cons 43 
            · rfl
            · exact (NeedIs.inl 0 _ _ rfl rfl NeedIs.nil)
            · intro rest
              refine SOps.loadPin rfl flatB_25 ?_
              exact SOps.nil rfl
            apply DOk.cons 44 
            · rfl
            · exact (NeedIs.inr _ rfl NeedIs.nil)
            · intro rest
              refine SOps.move rfl ?_
              exact SOps.nil rfl
            apply DOk.cons 45 
            · rfl
            · exact (NeedIs.inl 1 _ _ rfl rfl (NeedIs.inl 0 _ _ rfl rfl NeedIs.nil))
            · intro rest
              refine SOps.indexM (i) rfl rfl sliceB_25_4_1 (by first | omega | (simp only [lenB]; omega)) (by first | omega | (simp only [lenB]; omega)) ?_
              exact SOps.nil rfl
            apply DOk.cons 46 
            · rfl
            · exact (NeedIs.inl 0 _ _ rfl rfl NeedIs.nil)
            · intro rest
              refine SOps.loadPin rfl flatB_4 ?_
              exact SOps.nil rfl
            apply DOk.cons 47 
            · rfl
            · exact (NeedIs.inl 5 _ _ rfl rfl (NeedIs.inl 0 _ _ rfl rfl NeedIs.nil))
            · intro rest
              refine SOps.boolNe rfl rfl boolTy_4 ?_
              exact SOps.nil rfl
            exact DOk.nil
          · rfl
          · show SCode _ _ _ _
            refine SCode.cond rfl (fun hc5 => ?_) (fun hc5 => ?_)
            · try simp only [decide_eq_true_eq, decide_eq_false_iff_not, Bool.not_eq_true', Bool.not_eq_false', beq_iff_eq, bne_iff_ne, ne_eq, beq_eq_false_iff_ne, bne_eq_false_iff_eq, Int.not_lt, Int.not_le, Nat.not_lt, Nat.not_le, Int.ofNat_lt, Int.ofNat_le, Bool.not_eq_eq_eq_not, Bool.not_true, Bool.not_false] at hc5
              refine SCode.seqR ?_
              refine SOps.assign rfl ?_
              refine SOps.nil ?_
              refine SCode.ret ?_
              exact ⟨_, Res.one (.tmp rfl), congrArg (fun b => DV.v (.bool b)) ((decide_eq_false (fun e => ne_of_getElem hx hy (by simpa using hc5) e.2.1)).symm), rfl⟩
            · try simp only [decide_eq_true_eq, decide_eq_false_iff_not, Bool.not_eq_true', Bool.not_eq_false', beq_iff_eq, bne_iff_ne, ne_eq, beq_eq_false_iff_ne, bne_eq_false_iff_eq, Int.not_lt, Int.not_le, Nat.not_lt, Nat.not_le, Int.ofNat_lt, Int.ofNat_le, Bool.not_eq_eq_eq_not, Bool.not_true, Bool.not_false] at hc5
              refine SCode.skip ?_
              show SCode _ _ _ _
              refine SCode.region ?_
              refine SOps.move rfl ?_
              refine SOps.addI rfl rfl (by first | omega | (simp only [lenB]; omega)) (by first | omega | (simp only [lenB]; omega)) ?_
              refine SOps.assign rfl ?_
              refine SOps.nil ?_
              exact ⟨i + 1, by exact ⟨by omega, take_eq_succ hx hy hf (by simpa using hc5)⟩, by omega, (St.Le.of ⟨(by first | rfl | (show some _ = some _; simp)), (by first | rfl | (show some _ = some _; simp)), (by first | rfl | (show some _ = some _; simp)), trivial⟩ rfl (by first | rfl | (simp)))⟩
        · try simp only [decide_eq_true_eq, decide_eq_false_iff_not, Bool.not_eq_true', Bool.not_eq_false', beq_iff_eq, bne_iff_ne, ne_eq, beq_eq_false_iff_ne, bne_eq_false_iff_eq, Int.not_lt, Int.not_le, Nat.not_lt, Nat.not_le, Int.ofNat_lt, Int.ofNat_le, Bool.not_eq_eq_eq_not, Bool.not_true, Bool.not_false] at hc4
          refine SCode.exit ?_
          show SCode _ _ _ _
          refine SCode.seq ?_
          refine SCode.seqR ?_
          refine SOps.assign rfl ?_
          refine SOps.nil ?_
          refine SCode.block ?_
          refine SCode.loop1 (fun (i : Nat) => (⟨67, [(2, .ipin (encAcc x)), (3, .ipin (encAcc y)), (6, .v (.int .i64 (i : Int)))], []⟩ : St)) (fun (i : Nat) => i ≤ x.nxt.length ∧ x.nxt.take i = y.nxt.take i) (fun (i : Nat) => x.nxt.length - i) (0) (by simp) (St.Le.of ⟨(by first | rfl | (show some _ = some _; simp)), (by first | rfl | (show some _ = some _; simp)), (by first | rfl | (show some _ = some _; simp)), trivial⟩ rfl (by first | rfl | (simp))) ?_
          rintro i ⟨hj, hg⟩
          refine SCode.seq ?_
          refine SCode.seqR ?_
          refine SOps.move rfl ?_
          refine SOps.fieldPin rfl fieldB_28_2_2 ?_
          refine SOps.loadPin rfl flatB_26 ?_
          refine SOps.fact (isl_len (t := 50) rfl) (fun hB => ?_)
          simp only [List.length_map, lenB] at hB
          refine SOps.lenM rfl sliceB_26_39_1 ?_
          refine SOps.bin rfl rfl rfl ?_
          refine SOps.nil ?_
          refine SCode.cond rfl (fun hc6 => ?_) (fun hc6 => ?_)
          · try simp only [decide_eq_true_eq, decide_eq_false_iff_not, Bool.not_eq_true', Bool.not_eq_false', beq_iff_eq, bne_iff_ne, ne_eq, beq_eq_false_iff_ne, bne_eq_false_iff_eq, Int.not_lt, Int.not_le, Nat.not_lt, Nat.not_le, Int.ofNat_lt, Int.ofNat_le, Bool.not_eq_eq_eq_not, Bool.not_true, Bool.not_false] at hc6
            refine SCode.skip ?_
            show SCode _ _ _ _
            refine SCode.seq ?_
            refine SCode.block ?_
            refine SCode.seq ?_
            have hx : i < x.nxt.length := by omega
            have hy : i < y.nxt.length := by omega
            apply SCode.drawAuto mixed_ [55, 56, 57, 58, 59, 60, 61, 62, 63, 64, 65, 66] [[.inr 2], [.inl 0], [.inr 6], [.inl 1, .inl 2], [.inl 3], [.inr 3], [.inl 5], [.inr 6], [.inl 6, .inl 7], [.inl 8], [.inl 4, .inl 9], [.inl 10]]
            · kernel_rfl
            · kernel_rfl
            · apply DOk.cons 55 
              · rfl
              · exact (NeedIs.inr _ rfl NeedIs.nil)
              · intro rest
                refine SOps.fieldPin rfl fieldB_28_2_2 ?_
                exact SOps.nil rfl
              apply DOk.cons 56 
              · rfl
              · exact (NeedIs.inl 0 _ _ rfl rfl NeedIs.nil)
              · intro rest
                refine SOps.loadPin rfl flatB_26 ?_
                exact SOps.nil rfl
              apply DOk.cons 57 
              · rfl
              · exact (NeedIs.inr _ rfl NeedIs.nil)
              · intro rest
                refine SOps.move rfl ?_
                exact SOps.nil rfl
              apply DOk.cons 58 
              · rfl
              · exact (NeedIs.inl 1 _ _ rfl rfl (NeedIs.inl 0 _ _ rfl rfl NeedIs.nil))
              · intro rest
                refine SOps.indexM (i) rfl rfl sliceB_26_39_1 (by first | omega | (simp only [lenB]; omega)) (by first | omega | (simp only [lenB]; omega)) ?_
                exact SOps.nil rfl
              apply DOk.cons 59 
              · rfl
              · exact (NeedIs.inl 0 _ _ rfl rfl NeedIs.nil)
              · intro rest
                refine SOps.loadPin rfl flatB_39 ?_
                exact SOps.nil rfl
              apply DOk.cons 60 
              · rfl
              · exact (NeedIs.inr _ rfl NeedIs.nil)
              · intro rest
                refine SOps.fieldPin rfl fieldB_28_2_2 ?_
                exact SOps.nil rfl
              apply DOk.cons 61 
              · rfl
              · exact (NeedIs.inl 0 _ _ rfl rfl NeedIs.nil)
              · intro rest
                refine SOps.loadPin rfl flatB_26 ?_
                exact SOps.nil rfl
              apply DOk.cons 62 
              · rfl
              · exact (NeedIs.inr _ rfl NeedIs.nil)
              · intro rest
                refine SOps.move rfl ?_
                exact SOps.nil rfl
              apply DOk.cons 63 
              · rfl
              · exact (NeedIs.inl 1 _ _ rfl rfl (NeedIs.inl 0 _ _ rfl rfl NeedIs.nil))
              · intro rest
                refine SOps.indexM (i) rfl rfl sliceB_26_39_1 (by first | omega | (simp only [lenB]; omega)) (by first | omega | (simp only [lenB]; omega)) ?_
                exact SOps.nil rfl
              apply DOk.cons 64 
              · rfl
              · exact (NeedIs.inl 0 _ _ rfl rfl NeedIs.nil)
              · intro rest
                refine SOps.loadPin rfl flatB_39 ?_
                exact SOps.nil rfl
              apply DOk.cons 65 
              · rfl
              · exact (NeedIs.inl 5 _ _ rfl rfl (NeedIs.inl 0 _ _ rfl rfl NeedIs.nil))
              · intro rest
                refine SOps.callP (qInts _ _) rfl ?_
                rintro _ rfl
                exact SOps.nil rfl
              apply DOk.cons 66 
              · rfl
              · exact (NeedIs.inl 0 _ _ rfl rfl NeedIs.nil)
              · intro rest
                refine SOps.un rfl rfl ?_
                exact SOps.nil rfl
              exact DOk.nil
            · rfl
            · show SCode _ _ _ _
              refine SCode.cond rfl (fun hc7 => ?_) (fun hc7 => ?_)
              · try simp only [decide_eq_true_eq, decide_eq_false_iff_not, Bool.not_eq_true', Bool.not_eq_false', beq_iff_eq, bne_iff_ne, ne_eq, beq_eq_false_iff_ne, bne_eq_false_iff_eq, Int.not_lt, Int.not_le, Nat.not_lt, Nat.not_le, Int.ofNat_lt, Int.ofNat_le, Bool.not_eq_eq_eq_not, Bool.not_true, Bool.not_false] at hc7
                refine SCode.seqR ?_
                refine SOps.assign rfl ?_
                refine SOps.nil ?_
                refine SCode.ret ?_
                exact ⟨_, Res.one (.tmp rfl), congrArg (fun b => DV.v (.bool b)) ((decide_eq_false (fun e => ne_of_getElem hx hy (by simpa using hc7) e.2.2)).symm), rfl⟩
              · try simp only [decide_eq_true_eq, decide_eq_false_iff_not, Bool.not_eq_true', Bool.not_eq_false', beq_iff_eq, bne_iff_ne, ne_eq, beq_eq_false_iff_ne, bne_eq_false_iff_eq, Int.not_lt, Int.not_le, Nat.not_lt, Nat.not_le, Int.ofNat_lt, Int.ofNat_le, Bool.not_eq_eq_eq_not, Bool.not_true, Bool.not_false] at hc7
                refine SCode.skip ?_
                show SCode _ _ _ _
                refine SCode.region ?_
                refine SOps.move rfl ?_
                refine SOps.addI rfl rfl (by first | omega | (simp only [lenB]; omega)) (by first | omega | (simp only [lenB]; omega)) ?_
                refine SOps.assign rfl ?_
                refine SOps.nil ?_
                exact ⟨i + 1, by exact ⟨by omega, take_eq_succ hx hy hg (by simpa using hc7)⟩, by omega, (St.Le.of ⟨(by first | rfl | (show some _ = some _; simp)), (by first | rfl | (show some _ = some _; simp)), (by first | rfl | (show some _ = some _; simp)), trivial⟩ rfl (by first | rfl | (simp)))⟩
          · try simp only [decide_eq_true_eq, decide_eq_false_iff_not, Bool.not_eq_true', Bool.not_eq_false', beq_iff_eq, bne_iff_ne, ne_eq, beq_eq_false_iff_ne, bne_eq_false_iff_eq, Int.not_lt, Int.not_le, Nat.not_lt, Nat.not_le, Int.ofNat_lt, Int.ofNat_le, Bool.not_eq_eq_eq_not, Bool.not_true, Bool.not_false] at hc6
            refine SCode.exit ?_
            show SCode _ _ _ _
            refine SCode.seqR ?_
            refine SOps.assign rfl ?_
            refine SOps.nil ?_
            refine SCode.ret ?_
            exact ⟨_, Res.one (.tmp rfl), congrArg (fun b => DV.v (.bool b)) ((decide_eq_true ⟨by omega, take_full (by omega) (by omega) hf, take_full (by omega) (by omega) hg⟩).symm), rfl⟩
theorem qSpell (a : List Letter) (w : List Nat) (hw : ∀ c ∈ w, c < a.length) (hl : w.length ≤ 1048576) : GCall Tryd.prog E 51 [DLs a, DNats w] [] (fun d H => d = .v (.string (encs (spellA a w))) ∧ H = []) := by
  refine GCall.body (C := ⟨Tryd.prog, E, true⟩) Tryd.func51 rfl (fun _ => rfl) (by kernel_rfl) rfl ?_
  refine SCode.seqR ?_
  refine SOps.assign rfl ?_
  refine SOps.nil ?_
  refine SCode.seqR ?_
  refine SOps.assign rfl ?_
  refine SOps.nil ?_
  refine SCode.seq ?_
  refine SCode.seqR ?_
  refine SOps.assign rfl ?_
  refine SOps.nil ?_
  refine SCode.block ?_
  refine SCode.loop1 (fun (i : Nat) => (⟨25, [(0, DLs a), (1, DNats w), (5, .v (.string (encs (spellA a (w.take i))))), (6, .v (.int .i64 (i : Int)))], []⟩ : St)) (fun (i : Nat) => i ≤ w.length ∧ (encs (spellA a (w.take i))).size ≤ 4 * i) (fun (i : Nat) => w.length - i) (0) (by exact ⟨Nat.zero_le _, Nat.le_refl _⟩) (St.Le.of ⟨(by first | rfl | (show some _ = some _; simp)), (by first | rfl | (show some _ = some _; simp)), (by first | rfl | (show some _ = some _; simp)), (by first | rfl | (show some _ = some _; simp)), trivial⟩ rfl (by first | rfl | (simp))) ?_
  rintro i ⟨hi, hsz⟩
  refine SCode.seq ?_
  refine SCode.seqR ?_
  refine SOps.move rfl ?_
  refine SOps.move rfl ?_
  refine SOps.lenM rfl sliceB_39_3_1 ?_
  refine SOps.bin rfl rfl rfl ?_
  refine SOps.nil ?_
  refine SCode.cond rfl (fun hc1 => ?_) (fun hc1 => ?_)
  · try simp only [decide_eq_true_eq, decide_eq_false_iff_not, Bool.not_eq_true', Bool.not_eq_false', beq_iff_eq, bne_iff_ne, ne_eq, beq_eq_false_iff_ne, bne_eq_false_iff_eq, Int.not_lt, Int.not_le, Nat.not_lt, Nat.not_le, Int.ofNat_lt, Int.ofNat_le, Bool.not_eq_eq_eq_not, Bool.not_true, Bool.not_false] at hc1
    refine SCode.skip ?_
    show SCode _ _ _ _
    refine SCode.seq ?_
    refine SCode.block ?_
    refine SCode.region ?_
    have hi5 : i < w.length := by omega
    have hci := hw _ (List.getElem_mem hi5)
    have hsp : encs (spellA a (w.take (i + 1))) = (encs (spellA a (w.take i))) ++ Utf8.encode (a[w[i]]).rune := by rw [List.take_add_one, List.getElem?_eq_getElem hi5, spellA, List.map_append]; show encs (_ ++ [(atL a w[i]).rune]) = _; rw [encs_snoc, atL_lt hci]; rfl
    refine SOps.move rfl ?_
    refine SOps.move rfl ?_
    refine SOps.move rfl ?_
    refine SOps.move rfl ?_
    refine SOps.indexM (i) rfl rfl sliceB_39_3_1 (by first | omega | (simp only [lenB]; omega)) (by first | omega | (simp only [lenB]; omega)) ?_
    refine SOps.loadPin rfl flatB_3 ?_
    refine SOps.indexM (w[i]) rfl rfl sliceB_22_69_2 (by first | omega | (simp only [lenB]; omega)) (by first | omega | (simp only [lenB]; omega)) ?_
    refine SOps.fieldPin rfl fieldB_69_0_0 ?_
    refine SOps.loadPin rfl flatB_21 ?_
    refine SOps.convIntStr rfl someB_21 strB_9 ?_
    refine SOps.concat rfl rfl (by simp only [lenB]; have := encode_size (a[w[i]]).rune; omega) ?_
    refine SOps.assign rfl ?_
    refine SOps.nil ?_
    show SCode _ _ _ _
    refine SCode.region ?_
    refine SOps.move rfl ?_
    refine SOps.addI rfl rfl (by first | omega | (simp only [lenB]; omega)) (by first | omega | (simp only [lenB]; omega)) ?_
    refine SOps.assign rfl ?_
    refine SOps.nil ?_
    exact ⟨i + 1, ⟨by omega, by rw [hsp, ByteArray.size_append]; have := encode_size (a[w[i]]).rune; omega⟩, by omega, St.Le.of ⟨rfl, rfl, (by show some _ = some _; rw [hsp]), rfl, trivial⟩⟩
  · try simp only [decide_eq_true_eq, decide_eq_false_iff_not, Bool.not_eq_true', Bool.not_eq_false', beq_iff_eq, bne_iff_ne, ne_eq, beq_eq_false_iff_ne, bne_eq_false_iff_eq, Int.not_lt, Int.not_le, Nat.not_lt, Nat.not_le, Int.ofNat_lt, Int.ofNat_le, Bool.not_eq_eq_eq_not, Bool.not_true, Bool.not_false] at hc1
    refine SCode.exit ?_
    show SCode _ _ _ _
    refine SCode.seqR ?_
    refine SOps.move rfl ?_
    refine SOps.assign rfl ?_
    refine SOps.nil ?_
    refine SCode.ret ?_
    exact ⟨_, Res.one (.tmp rfl), by rw [List.take_of_length_le (show w.length ≤ i by omega)], rfl⟩
theorem qBefore (s t : List Nat)  : GCall Tryd.prog E 29 [DNats s, DNats t] [] (fun d H => d = .v (.bool (befB s t)) ∧ H = []) := by
  refine GCall.body (C := ⟨Tryd.prog, E, true⟩) Tryd.func29 rfl (fun _ => rfl) (by kernel_rfl) rfl ?_
  refine SCode.seqR ?_
  refine SOps.assign rfl ?_
  refine SOps.nil ?_
  refine SCode.seq ?_
  refine SCode.seqR ?_
  refine SOps.move rfl ?_
  refine SOps.lenM rfl sliceB_39_3_1 ?_
  refine SOps.move rfl ?_
  refine SOps.lenM rfl sliceB_39_3_1 ?_
  refine SOps.bin rfl rfl rfl ?_
  refine SOps.nil ?_
  refine SCode.cond rfl (fun hc1 => ?_) (fun hc1 => ?_)
  · try simp only [decide_eq_true_eq, decide_eq_false_iff_not, Bool.not_eq_true', Bool.not_eq_false', beq_iff_eq, bne_iff_ne, ne_eq, beq_eq_false_iff_ne, bne_eq_false_iff_eq, Int.not_lt, Int.not_le, Nat.not_lt, Nat.not_le, Int.ofNat_lt, Int.ofNat_le, Bool.not_eq_eq_eq_not, Bool.not_true, Bool.not_false] at hc1
    refine SCode.seqR ?_
    refine SOps.move rfl ?_
    refine SOps.lenM rfl sliceB_39_3_1 ?_
    refine SOps.move rfl ?_
    refine SOps.lenM rfl sliceB_39_3_1 ?_
    refine SOps.bin rfl rfl rfl ?_
    refine SOps.assign rfl ?_
    refine SOps.nil ?_
    refine SCode.ret ?_
    exact ⟨_, Res.one (.tmp rfl), congrArg (fun b => DV.v (.bool b)) (by rw [befB_len (by omega)]; exact decide_eq_decide.2 (by omega)), rfl⟩
  · try simp only [decide_eq_true_eq, decide_eq_false_iff_not, Bool.not_eq_true', Bool.not_eq_false', beq_iff_eq, bne_iff_ne, ne_eq, beq_eq_false_iff_ne, bne_eq_false_iff_eq, Int.not_lt, Int.not_le, Nat.not_lt, Nat.not_le, Int.ofNat_lt, Int.ofNat_le, Bool.not_eq_eq_eq_not, Bool.not_true, Bool.not_false] at hc1
    refine SCode.skip ?_
    show SCode _ _ _ _
    refine SCode.seq ?_
    refine SCode.seqR ?_
    refine SOps.assign rfl ?_
    refine SOps.nil ?_
    refine SCode.block ?_
    refine SCode.loop1 (fun (i : Nat) => (⟨40, [(0, DNats s), (1, DNats t), (5, .v (.int .i64 (i : Int)))], []⟩ : St)) (fun (i : Nat) => i ≤ s.length ∧ s.take i = t.take i) (fun (i : Nat) => s.length - i) (0) (by simp) (St.Le.of ⟨(by first | rfl | (show some _ = some _; simp)), (by first | rfl | (show some _ = some _; simp)), (by first | rfl | (show some _ = some _; simp)), trivial⟩ rfl (by first | rfl | (simp))) ?_
    rintro i ⟨hi, hf⟩
    refine SCode.fact (isl_len (t := 0) rfl) (fun hB => ?_)
    simp only [List.length_map, lenB] at hB
    refine SCode.seq ?_
    refine SCode.seqR ?_
    refine SOps.move rfl ?_
    refine SOps.move rfl ?_
    refine SOps.lenM rfl sliceB_39_3_1 ?_
    refine SOps.bin rfl rfl rfl ?_
    refine SOps.nil ?_
    refine SCode.cond rfl (fun hc2 => ?_) (fun hc2 => ?_)
    · try simp only [decide_eq_true_eq, decide_eq_false_iff_not, Bool.not_eq_true', Bool.not_eq_false', beq_iff_eq, bne_iff_ne, ne_eq, beq_eq_false_iff_ne, bne_eq_false_iff_eq, Int.not_lt, Int.not_le, Nat.not_lt, Nat.not_le, Int.ofNat_lt, Int.ofNat_le, Bool.not_eq_eq_eq_not, Bool.not_true, Bool.not_false] at hc2
      refine SCode.skip ?_
      show SCode _ _ _ _
      refine SCode.seq ?_
      refine SCode.block ?_
      refine SCode.seq ?_
      have hx : i < s.length := by omega
      have hy : i < t.length := by omega
      apply SCode.drawAuto mixed_ [22, 23, 24, 25, 26, 27, 28, 29, 30] [[.inr 0], [.inr 5], [.inl 0, .inl 1], [.inl 2], [.inr 1], [.inr 5], [.inl 4, .inl 5], [.inl 6], [.inl 3, .inl 7]]
      · kernel_rfl
      · kernel_rfl
      · apply DOk.cons 22 
        · rfl
        · exact (NeedIs.inr _ rfl NeedIs.nil)
        · intro rest
          refine SOps.move rfl ?_
          exact SOps.nil rfl
        apply DOk.cons 23 
        · rfl
        · exact (NeedIs.inr _ rfl NeedIs.nil)
        · intro rest
          refine SOps.move rfl ?_
          exact SOps.nil rfl
        apply DOk.cons 24 
        · rfl
        · exact (NeedIs.inl 1 _ _ rfl rfl (NeedIs.inl 0 _ _ rfl rfl NeedIs.nil))
        · intro rest
          refine SOps.indexM (i) rfl rfl sliceB_39_3_1 (by first | omega | (simp only [lenB]; omega)) (by first | omega | (simp only [lenB]; omega)) ?_
          exact SOps.nil rfl
        apply DOk.cons 25 
        · rfl
        · exact (NeedIs.inl 0 _ _ rfl rfl NeedIs.nil)
        · intro rest
          refine SOps.loadPin rfl flatB_3 ?_
          exact SOps.nil rfl
        apply DOk.cons 26 
        · rfl
        · exact (NeedIs.inr _ rfl NeedIs.nil)
        · intro rest
          refine SOps.move rfl ?_
          exact SOps.nil rfl
        apply DOk.cons 27 
        · rfl
        · exact (NeedIs.inr _ rfl NeedIs.nil)
        · intro rest
          refine SOps.move rfl ?_
          exact SOps.nil rfl
        apply DOk.cons 28 
        · rfl
        · exact (NeedIs.inl 1 _ _ rfl rfl (NeedIs.inl 0 _ _ rfl rfl NeedIs.nil))
        · intro rest
          refine SOps.indexM (i) rfl rfl sliceB_39_3_1 (by first | omega | (simp only [lenB]; omega)) (by first | omega | (simp only [lenB]; omega)) ?_
          exact SOps.nil rfl
        apply DOk.cons 29 
        · rfl
        · exact (NeedIs.inl 0 _ _ rfl rfl NeedIs.nil)
        · intro rest
          refine SOps.loadPin rfl flatB_3 ?_
          exact SOps.nil rfl
        apply DOk.cons 30 
        · rfl
        · exact (NeedIs.inl 4 _ _ rfl rfl (NeedIs.inl 0 _ _ rfl rfl NeedIs.nil))
        · intro rest
          refine SOps.bin rfl rfl rfl ?_
          exact SOps.nil rfl
        exact DOk.nil
      · rfl
      · show SCode _ _ _ _
        refine SCode.cond rfl (fun hc3 => ?_) (fun hc3 => ?_)
        · try simp only [decide_eq_true_eq, decide_eq_false_iff_not, Bool.not_eq_true', Bool.not_eq_false', beq_iff_eq, bne_iff_ne, ne_eq, beq_eq_false_iff_ne, bne_eq_false_iff_eq, Int.not_lt, Int.not_le, Nat.not_lt, Nat.not_le, Int.ofNat_lt, Int.ofNat_le, Bool.not_eq_eq_eq_not, Bool.not_true, Bool.not_false] at hc3
          refine SCode.seq ?_
          apply SCode.drawAuto mixed_ [31, 32, 33, 34, 35, 36, 37, 38, 39, 4] [[.inr 0], [.inr 5], [.inl 0, .inl 1], [.inl 2], [.inr 1], [.inr 5], [.inl 4, .inl 5], [.inl 6], [.inl 3, .inl 7], [.inl 8]]
          · kernel_rfl
          · kernel_rfl
          · apply DOk.cons 31 
            · rfl
            · exact (NeedIs.inr _ rfl NeedIs.nil)
            · intro rest
              refine SOps.move rfl ?_
              exact SOps.nil rfl
            apply DOk.cons 32 
            · rfl
            · exact (NeedIs.inr _ rfl NeedIs.nil)
            · intro rest
              refine SOps.move rfl ?_
              exact SOps.nil rfl
            apply DOk.cons 33 
            · rfl
            · exact (NeedIs.inl 1 _ _ rfl rfl (NeedIs.inl 0 _ _ rfl rfl NeedIs.nil))
            · intro rest
              refine SOps.indexM (i) rfl rfl sliceB_39_3_1 (by first | omega | (simp only [lenB]; omega)) (by first | omega | (simp only [lenB]; omega)) ?_
              exact SOps.nil rfl
            apply DOk.cons 34 
            · rfl
            · exact (NeedIs.inl 0 _ _ rfl rfl NeedIs.nil)
            · intro rest
              refine SOps.loadPin rfl flatB_3 ?_
              exact SOps.nil rfl
            apply DOk.cons 35 
            · rfl
            · exact (NeedIs.inr _ rfl NeedIs.nil)
            · intro rest
              refine SOps.move rfl ?_
              exact SOps.nil rfl
            apply DOk.cons 36 
            · rfl
            · exact (NeedIs.inr _ rfl NeedIs.nil)
            · intro rest
              refine SOps.move rfl ?_
              exact SOps.nil rfl
            apply DOk.cons 37 
            · rfl
            · exact (NeedIs.inl 1 _ _ rfl rfl (NeedIs.inl 0 _ _ rfl rfl NeedIs.nil))
            · intro rest
              refine SOps.indexM (i) rfl rfl sliceB_39_3_1 (by first | omega | (simp only [lenB]; omega)) (by first | omega | (simp only [lenB]; omega)) ?_
              exact SOps.nil rfl
            apply DOk.cons 38 
            · rfl
            · exact (NeedIs.inl 0 _ _ rfl rfl NeedIs.nil)
            · intro rest
              refine SOps.loadPin rfl flatB_3 ?_
              exact SOps.nil rfl
            apply DOk.cons 39 
            · rfl
            · exact (NeedIs.inl 4 _ _ rfl rfl (NeedIs.inl 0 _ _ rfl rfl NeedIs.nil))
            · intro rest
              refine SOps.bin rfl rfl rfl ?_
              exact SOps.nil rfl
            apply DOk.cons 4 
            · rfl
            · exact (NeedIs.inl 0 _ _ rfl rfl NeedIs.nil)
            · intro rest
              refine SOps.assign rfl ?_
              exact SOps.nil rfl
            exact DOk.nil
          · rfl
          · show SCode _ _ _ _
            refine SCode.ret ?_
            exact ⟨_, Res.one (.tmp rfl), congrArg (fun b => DV.v (.bool b)) (by rw [befB_at (by omega) hx hy hf (by omega)]; exact decide_eq_decide.2 (by omega)), rfl⟩
        · try simp only [decide_eq_true_eq, decide_eq_false_iff_not, Bool.not_eq_true', Bool.not_eq_false', beq_iff_eq, bne_iff_ne, ne_eq, beq_eq_false_iff_ne, bne_eq_false_iff_eq, Int.not_lt, Int.not_le, Nat.not_lt, Nat.not_le, Int.ofNat_lt, Int.ofNat_le, Bool.not_eq_eq_eq_not, Bool.not_true, Bool.not_false] at hc3
          refine SCode.skip ?_
          show SCode _ _ _ _
          refine SCode.region ?_
          refine SOps.move rfl ?_
          refine SOps.addI rfl rfl (by first | omega | (simp only [lenB]; omega)) (by first | omega | (simp only [lenB]; omega)) ?_
          refine SOps.assign rfl ?_
          refine SOps.nil ?_
          exact ⟨i + 1, by exact ⟨by omega, take_eq_succ hx hy hf (by omega)⟩, by omega, (St.Le.of ⟨(by first | rfl | (show some _ = some _; simp)), (by first | rfl | (show some _ = some _; simp)), (by first | rfl | (show some _ = some _; simp)), trivial⟩ rfl (by first | rfl | (simp)))⟩
    · try simp only [decide_eq_true_eq, decide_eq_false_iff_not, Bool.not_eq_true', Bool.not_eq_false', beq_iff_eq, bne_iff_ne, ne_eq, beq_eq_false_iff_ne, bne_eq_false_iff_eq, Int.not_lt, Int.not_le, Nat.not_lt, Nat.not_le, Int.ofNat_lt, Int.ofNat_le, Bool.not_eq_eq_eq_not, Bool.not_true, Bool.not_false] at hc2
      refine SCode.exit ?_
      show SCode _ _ _ _
      refine SCode.seqR ?_
      refine SOps.assign rfl ?_
      refine SOps.nil ?_
      refine SCode.ret ?_
      exact ⟨_, Res.one (.tmp rfl), congrArg (fun b => DV.v (.bool b)) (Eq.symm (Bool.eq_false_iff.2 (fun h => by rw [take_full (x := s) (y := t) (by omega) (by omega) hf, befB_irr] at h; cases h))), rfl⟩
end Go.GH
namespace Go.GH
open Go Go.Proofs
variable {E : Env}
theorem qAccT (a : List Letter) (p : List Item) (hp3 : p.length ≤ 3) (ha : a.length ≤ 65) : GCall Tryd.prog E 16 [DLs a, DIts p] [] (fun d H => d = .agg (encAcc (accR a p)) ∧ H = []) :=
  (qAcceptor a p hp3 ha).clean (fun d H e => ⟨_, fun _ _ _ h => h, e⟩)
theorem l6Acceptors (hV : VS E) (hA : AW6 E) (a : List Letter) (p : List Item) (hp : ∀ x ∈ p, x.lets.size ≤ 1048576) : GCall Tryd.prog E 3 [DLs a, DIts p] [] (fun d H => d = .v (.bool true) ∧ H = []) := by
  refine GCall.body (C := ⟨Tryd.prog, E, true⟩) Tryd.func3 rfl (fun _ => rfl) (by kernel_rfl) rfl ?_
  refine SCode.seqR ?_
  refine SOps.assign rfl ?_
  refine SOps.nil ?_
  refine SCode.seq ?_
  refine SCode.seqR ?_
  refine SOps.callP hA rfl ?_
  rintro _ rfl
  refine SOps.un rfl rfl ?_
  refine SOps.nil ?_
  refine SCode.cond rfl (fun h => by cases h) (fun _ => ?_)
  refine SCode.skip ?_
  show SCode _ _ _ _
  refine SCode.seq ?_
  refine SCode.seqR ?_
  refine SOps.move rfl ?_
  refine SOps.lenM rfl sliceB_22_69_2 ?_
  refine SOps.bin rfl rfl rfl ?_
  refine SOps.move rfl ?_
  refine SOps.caseB 12 rfl (fun hb1 => ?_) (fun hb1 => ?_)
  · try simp only [decide_eq_true_eq, decide_eq_false_iff_not, Bool.not_eq_true', Bool.not_eq_false', beq_iff_eq, bne_iff_ne, ne_eq, beq_eq_false_iff_ne, bne_eq_false_iff_eq, Int.not_lt, Int.not_le, Nat.not_lt, Nat.not_le, Int.ofNat_lt, Int.ofNat_le, Bool.not_eq_eq_eq_not, Bool.not_true, Bool.not_false] at hb1
    refine SOps.skip rfl ?_
    refine SOps.skip rfl ?_
    refine SOps.skip rfl ?_
    refine SOps.pick rfl rfl ?_
    refine SOps.nil ?_
    refine SCode.cond rfl (fun _ => ?_) (fun h => by cases h)
    refine SCode.seqR ?_
    refine SOps.assign rfl ?_
    refine SOps.nil ?_
    refine SCode.ret ?_
    exact ⟨_, Res.one (.tmp rfl), rfl, rfl⟩
  · try simp only [decide_eq_true_eq, decide_eq_false_iff_not, Bool.not_eq_true', Bool.not_eq_false', beq_iff_eq, bne_iff_ne, ne_eq, beq_eq_false_iff_ne, bne_eq_false_iff_eq, Int.not_lt, Int.not_le, Nat.not_lt, Nat.not_le, Int.ofNat_lt, Int.ofNat_le, Bool.not_eq_eq_eq_not, Bool.not_true, Bool.not_false] at hb1
    refine SOps.move rfl ?_
    refine SOps.lenM rfl sliceB_23_56_4 ?_
    refine SOps.bin rfl rfl rfl ?_
    refine SOps.pick rfl rfl ?_
    refine SOps.nil ?_
    refine SCode.cond rfl (fun hc2 => ?_) (fun hc2 => ?_)
    · try simp only [decide_eq_true_eq, decide_eq_false_iff_not, Bool.not_eq_true', Bool.not_eq_false', beq_iff_eq, bne_iff_ne, ne_eq, beq_eq_false_iff_ne, bne_eq_false_iff_eq, Int.not_lt, Int.not_le, Nat.not_lt, Nat.not_le, Int.ofNat_lt, Int.ofNat_le, Bool.not_eq_eq_eq_not, Bool.not_true, Bool.not_false] at hc2
      refine SCode.seqR ?_
      refine SOps.assign rfl ?_
      refine SOps.nil ?_
      refine SCode.ret ?_
      exact ⟨_, Res.one (.tmp rfl), rfl, rfl⟩
    · try simp only [decide_eq_true_eq, decide_eq_false_iff_not, Bool.not_eq_true', Bool.not_eq_false', beq_iff_eq, bne_iff_ne, ne_eq, beq_eq_false_iff_ne, bne_eq_false_iff_eq, Int.not_lt, Int.not_le, Nat.not_lt, Nat.not_le, Int.ofNat_lt, Int.ofNat_le, Bool.not_eq_eq_eq_not, Bool.not_true, Bool.not_false] at hc2
      refine SCode.skip ?_
      show SCode _ _ _ _
      refine SCode.seqR ?_
      refine SOps.move rfl ?_
      refine SOps.move rfl ?_
      refine SOps.callP (aAccT hV _ _ (by assumption)) rfl ?_
      rintro _ rfl
      refine SOps.move rfl ?_
      refine SOps.extract rfl rfl ?_
      refine SOps.extract rfl rfl ?_
      refine SOps.alloc (sz := 3) zeroIs_28 (fun b0 hb_0 => ?_)
      refine SOps.storeAM 0 rfl rfl aggB_28_3 rfl ?_
      refine SOps.freezeRef (t := 5) 0 0 rfl rfl rfl rfl rfl ?_
      refine SOps.assign rfl ?_
      refine SOps.nil ?_
      refine SCode.seq ?_
      refine SCode.seqR ?_
      refine SOps.move rfl ?_
      refine SOps.move rfl ?_
      refine SOps.callP (qValid _ _ hp) rfl ?_
      rintro _ rfl
      refine SOps.un rfl rfl ?_
      refine SOps.nil ?_
      refine SCode.cond rfl (fun hc3 => ?_) (fun hc3 => ?_)
      · try simp only [decide_eq_true_eq, decide_eq_false_iff_not, Bool.not_eq_true', Bool.not_eq_false', beq_iff_eq, bne_iff_ne, ne_eq, beq_eq_false_iff_ne, bne_eq_false_iff_eq, Int.not_lt, Int.not_le, Nat.not_lt, Nat.not_le, Int.ofNat_lt, Int.ofNat_le, Bool.not_eq_eq_eq_not, Bool.not_true, Bool.not_false] at hc3
        refine SCode.seqR ?_
        refine SOps.move rfl ?_
        refine SOps.bin rfl rfl rfl ?_
        refine SOps.reSlot (t := 28) rfl (show _ = DV.v (.bool true) from congrArg (fun b => DV.v (.bool b)) (by rw [if_neg (by simp_all)]; rfl)) ?_
        refine SOps.move rfl ?_
        refine SOps.loadPinA rfl aggB_28_3 (Nat.le_of_ble_eq_true rfl) ?_
        refine SOps.buildM placesB_28 zeroIs_28 rfl rfl ?_
        refine SOps.relab (t := 31) (d' := .agg (encAcc ⟨0, [], []⟩)) rfl (fun w F v h => zeroA h) ?_
        refine SOps.callP (qSameA (accX a p) ⟨0, [], []⟩) rfl ?_
        rintro _ rfl
        refine SOps.reSlot (t := 32) rfl (show _ = DV.v (.bool true) from congrArg (fun b => DV.v (.bool b)) (by rw [accX, if_neg (by simp_all)]; exact decide_eq_true ⟨rfl, rfl, rfl⟩)) ?_
        refine SOps.pick rfl rfl ?_
        refine SOps.assign rfl ?_
        refine SOps.nil ?_
        refine SCode.ret ?_
        exact ⟨_, Res.one (.tmp rfl), rfl, rfl⟩
      · try simp only [decide_eq_true_eq, decide_eq_false_iff_not, Bool.not_eq_true', Bool.not_eq_false', beq_iff_eq, bne_iff_ne, ne_eq, beq_eq_false_iff_ne, bne_eq_false_iff_eq, Int.not_lt, Int.not_le, Nat.not_lt, Nat.not_le, Int.ofNat_lt, Int.ofNat_le, Bool.not_eq_eq_eq_not, Bool.not_true, Bool.not_false] at hc3
        refine SCode.skip ?_
        show SCode _ _ _ _
        refine SCode.seq ?_
        have hv : validPat a p = true := by simp_all
        have hvl := validPat_len hv
        apply SCode.drawAuto mixed_ [34, 35, 36, 37, 38, 39, 40, 41, 42, 4] [[.inr 6], [.inl 0], [.inl 1], [.inl 2, .inr 5], [.inl 2, .inr 0], [.inl 2, .inr 1], [.inl 2, .inl 4, .inl 5], [.inl 2, .inl 3, .inl 6], [.inl 2, .inl 7], [.inl 8]]
        · kernel_rfl
        · kernel_rfl
        · apply DOk.cons 34 
          · rfl
          · exact (NeedIs.inr _ rfl NeedIs.nil)
          · intro rest
            refine SOps.move rfl ?_
            exact SOps.nil rfl
          apply DOk.cons 35 (.v (.bool true))
          · rfl
          · exact (NeedIs.inl 0 _ _ rfl rfl NeedIs.nil)
          · intro rest
            refine SOps.bin rfl rfl rfl ?_
            exact SOps.nil (congrArg (fun b => St.put _ 35 (.v (.bool b))) (by rw [if_pos hv]; rfl))
          apply DOk.cons 36 
          · rfl
          · exact (NeedIs.inl 0 _ _ rfl rfl NeedIs.nil)
          · intro rest
            refine SOps.move rfl ?_
            exact SOps.nil rfl
          apply DOk.cons 37 
          · rfl
          · exact (NeedIs.inl 0 _ _ rfl rfl (NeedIs.inr _ rfl NeedIs.nil))
          · intro rest
            refine SOps.loadPinA rfl aggB_28_3 (Nat.le_of_ble_eq_true rfl) ?_
            exact SOps.nil rfl
          apply DOk.cons 38 
          · rfl
          · exact (NeedIs.inl 1 _ _ rfl rfl (NeedIs.inr _ rfl NeedIs.nil))
          · intro rest
            refine SOps.move rfl ?_
            exact SOps.nil rfl
          apply DOk.cons 39 
          · rfl
          · exact (NeedIs.inl 2 _ _ rfl rfl (NeedIs.inr _ rfl NeedIs.nil))
          · intro rest
            refine SOps.move rfl ?_
            exact SOps.nil rfl
          apply DOk.cons 40 
          · rfl
          · exact (NeedIs.inl 3 _ _ rfl rfl (NeedIs.inl 1 _ _ rfl rfl (NeedIs.inl 0 _ _ rfl rfl NeedIs.nil)))
          · intro rest
            refine SOps.callP (qAccT _ _ (by omega) (by omega)) rfl ?_
            rintro _ rfl
            exact SOps.nil rfl
          apply DOk.cons 41 (.v (.bool true))
          · rfl
          · exact (NeedIs.inl 4 _ _ rfl rfl (NeedIs.inl 3 _ _ rfl rfl (NeedIs.inl 0 _ _ rfl rfl NeedIs.nil)))
          · intro rest
            refine SOps.callP (qSameA _ _) rfl ?_
            rintro _ rfl
            exact SOps.nil (congrArg (fun b => St.put _ 41 (.v (.bool b))) (by rw [accX_ok hv]; exact decide_eq_true ⟨rfl, rfl, rfl⟩))
          apply DOk.cons 42 
          · rfl
          · exact (NeedIs.inl 5 _ _ rfl rfl (NeedIs.inl 0 _ _ rfl rfl NeedIs.nil))
          · intro rest
            refine SOps.pick rfl rfl ?_
            exact SOps.nil rfl
          apply DOk.cons 4 
          · rfl
          · exact (NeedIs.inl 0 _ _ rfl rfl NeedIs.nil)
          · intro rest
            refine SOps.assign rfl ?_
            exact SOps.nil rfl
          exact DOk.nil
        · rfl
        · show SCode _ _ _ _
          refine SCode.ret ?_
          exact ⟨_, Res.one (.tmp rfl), rfl, rfl⟩
end Go.GH
