/-
  Part 4 of the texts behind the walks of this claim: an own layer over the kit's wp, plain laws, and walks. No conditions.
-/
import Derived.Test.YtkajkpdilinmgaaDoorMi3
import Derived.Test.YtkajkpdilinmgaaDoorRows
set_option linter.unusedVariables false
set_option linter.unusedSimpArgs false
set_option linter.deprecated false
namespace Go.GH
open Go Go.Proofs
variable {E : Env}
theorem aggB_28_3 : aggB Tryd.prog 28 3 = true := by kernel_rfl
theorem fieldB_28_0_0 : fieldB Tryd.prog 28 0 0 = true := by kernel_rfl
theorem fieldB_28_1_1 : fieldB Tryd.prog 28 1 1 = true := by kernel_rfl
theorem fieldB_28_2_2 : fieldB Tryd.prog 28 2 2 = true := by kernel_rfl
theorem flatB_26 : flatB Tryd.prog 26 = true := by kernel_rfl
theorem flatB_39 : flatB Tryd.prog 39 = true := by kernel_rfl
theorem sliceB_26_39_1 : sliceB Tryd.prog 26 39 1 = true := by kernel_rfl
theorem aValid (x : Acc)  : GCall Tryd.prog E 42 [.agg (encAcc x)] [] (fun d H => d = (if accOK x then .tup [.v (.int .i64 ((widthA x : Nat) : Int)), .v (.bool (decide (((widthA x : Nat) : Int) ≤ 65)))] else .tup [.v (.int .i64 0), .v (.bool false)]) ∧ H = []) := by
  refine GCall.body (C := ⟨Tryd.prog, E, true⟩) Tryd.func42 rfl (fun _ => rfl) (by kernel_rfl) rfl ?_
  refine SCode.seqR ?_
  refine SOps.boxAM rfl rfl ?_
  refine SOps.assign rfl ?_
  refine SOps.assign rfl ?_
  refine SOps.nil ?_
  refine SCode.seqR ?_
  refine SOps.fieldPin rfl fieldB_28_2_2 ?_
  refine SOps.loadPin rfl flatB_26 ?_
  refine SOps.lenM rfl sliceB_26_39_1 ?_
  refine SOps.assign rfl ?_
  refine SOps.nil ?_
  refine SCode.seq ?_
  refine SCode.seqR ?_
  refine SOps.move rfl ?_
  refine SOps.bin rfl rfl rfl ?_
  refine SOps.move rfl ?_
  refine SOps.caseB 15 rfl (fun hb1 => ?_) (fun hb1 => ?_)
  · try simp only [decide_eq_true_eq, decide_eq_false_iff_not, Bool.not_eq_true', Bool.not_eq_false', beq_iff_eq, bne_iff_ne, ne_eq, beq_eq_false_iff_ne, bne_eq_false_iff_eq, Int.not_lt, Int.not_le, Nat.not_lt, Nat.not_le, Int.ofNat_lt, Int.ofNat_le, Bool.not_eq_eq_eq_not, Bool.not_true, Bool.not_false] at hb1
    refine SOps.skip rfl ?_
    refine SOps.skip rfl ?_
    refine SOps.pick rfl rfl ?_
    refine SOps.move rfl ?_
    refine SOps.skip rfl ?_
    refine SOps.skip rfl ?_
    refine SOps.skip rfl ?_
    refine SOps.skip rfl ?_
    refine SOps.skip rfl ?_
    refine SOps.pick rfl rfl ?_
    refine SOps.move rfl ?_
    refine SOps.skip rfl ?_
    refine SOps.skip rfl ?_
    refine SOps.skip rfl ?_
    refine SOps.pick rfl rfl ?_
    refine SOps.move rfl ?_
    refine SOps.skip rfl ?_
    refine SOps.skip rfl ?_
    refine SOps.skip rfl ?_
    refine SOps.skip rfl ?_
    refine SOps.pick rfl rfl ?_
    refine SOps.nil ?_
    refine SCode.cond rfl (fun _ => ?_) (fun h => by cases h)
    refine SCode.seqR ?_
    refine SOps.assign rfl ?_
    refine SOps.assign rfl ?_
    refine SOps.nil ?_
    refine SCode.ret ?_
    exact ⟨_, Res.two (.tmp rfl) (.tmp rfl), by first | (rw [if_pos (show accOK x = true from (Bool.and_eq_true _ _).mpr ⟨hho, List.all_eq_true.2 (all_of (by omega) hf)⟩)]; done) | (rw [if_neg (fun h => by simp only [accOK, Bool.and_eq_true, List.all_eq_true] at h; first | (have := headOK_iff.1 h.1; omega) | (have := rowOK_iff.1 (h.2 _ (List.getElem_mem (show i < x.nxt.length by omega))); omega) | (have := (rowOK_iff.1 (h.2 _ (List.getElem_mem (show i < x.nxt.length by omega)))).2 _ (List.getElem_mem (show j < (x.nxt[i]).length by omega)); omega))]; done), rfl⟩
  · try simp only [decide_eq_true_eq, decide_eq_false_iff_not, Bool.not_eq_true', Bool.not_eq_false', beq_iff_eq, bne_iff_ne, ne_eq, beq_eq_false_iff_ne, bne_eq_false_iff_eq, Int.not_lt, Int.not_le, Nat.not_lt, Nat.not_le, Int.ofNat_lt, Int.ofNat_le, Bool.not_eq_eq_eq_not, Bool.not_true, Bool.not_false] at hb1
    refine SOps.move rfl ?_
    refine SOps.bin rfl rfl rfl ?_
    refine SOps.pick rfl rfl ?_
    refine SOps.move rfl ?_
    refine SOps.caseB 19 rfl (fun hb2 => ?_) (fun hb2 => ?_)
    · try simp only [decide_eq_true_eq, decide_eq_false_iff_not, Bool.not_eq_true', Bool.not_eq_false', beq_iff_eq, bne_iff_ne, ne_eq, beq_eq_false_iff_ne, bne_eq_false_iff_eq, Int.not_lt, Int.not_le, Nat.not_lt, Nat.not_le, Int.ofNat_lt, Int.ofNat_le, Bool.not_eq_eq_eq_not, Bool.not_true, Bool.not_false] at hb2
      refine SOps.skip rfl ?_
      refine SOps.skip rfl ?_
      refine SOps.skip rfl ?_
      refine SOps.skip rfl ?_
      refine SOps.skip rfl ?_
      refine SOps.pick rfl rfl ?_
      refine SOps.move rfl ?_
      refine SOps.skip rfl ?_
      refine SOps.skip rfl ?_
      refine SOps.skip rfl ?_
      refine SOps.pick rfl rfl ?_
      refine SOps.move rfl ?_
      refine SOps.skip rfl ?_
      refine SOps.skip rfl ?_
      refine SOps.skip rfl ?_
      refine SOps.skip rfl ?_
      refine SOps.pick rfl rfl ?_
      refine SOps.nil ?_
      refine SCode.cond rfl (fun _ => ?_) (fun h => by cases h)
      refine SCode.seqR ?_
      refine SOps.assign rfl ?_
      refine SOps.assign rfl ?_
      refine SOps.nil ?_
      refine SCode.ret ?_
      exact ⟨_, Res.two (.tmp rfl) (.tmp rfl), by first | (rw [if_pos (show accOK x = true from (Bool.and_eq_true _ _).mpr ⟨hho, List.all_eq_true.2 (all_of (by omega) hf)⟩)]; done) | (rw [if_neg (fun h => by simp only [accOK, Bool.and_eq_true, List.all_eq_true] at h; first | (have := headOK_iff.1 h.1; omega) | (have := rowOK_iff.1 (h.2 _ (List.getElem_mem (show i < x.nxt.length by omega))); omega) | (have := (rowOK_iff.1 (h.2 _ (List.getElem_mem (show i < x.nxt.length by omega)))).2 _ (List.getElem_mem (show j < (x.nxt[i]).length by omega)); omega))]; done), rfl⟩
    · try simp only [decide_eq_true_eq, decide_eq_false_iff_not, Bool.not_eq_true', Bool.not_eq_false', beq_iff_eq, bne_iff_ne, ne_eq, beq_eq_false_iff_ne, bne_eq_false_iff_eq, Int.not_lt, Int.not_le, Nat.not_lt, Nat.not_le, Int.ofNat_lt, Int.ofNat_le, Bool.not_eq_eq_eq_not, Bool.not_true, Bool.not_false] at hb2
      refine SOps.fieldPin rfl fieldB_28_1_1 ?_
      refine SOps.loadPin rfl flatB_25 ?_
      refine SOps.lenM rfl sliceB_25_4_1 ?_
      refine SOps.move rfl ?_
      refine SOps.bin rfl rfl rfl ?_
      refine SOps.pick rfl rfl ?_
      refine SOps.move rfl ?_
      refine SOps.caseB 26 rfl (fun hb3 => ?_) (fun hb3 => ?_)
      · try simp only [decide_eq_true_eq, decide_eq_false_iff_not, Bool.not_eq_true', Bool.not_eq_false', beq_iff_eq, bne_iff_ne, ne_eq, beq_eq_false_iff_ne, bne_eq_false_iff_eq, Int.not_lt, Int.not_le, Nat.not_lt, Nat.not_le, Int.ofNat_lt, Int.ofNat_le, Bool.not_eq_eq_eq_not, Bool.not_true, Bool.not_false] at hb3
        refine SOps.skip rfl ?_
        refine SOps.skip rfl ?_
        refine SOps.skip rfl ?_
        refine SOps.pick rfl rfl ?_
        refine SOps.move rfl ?_
        refine SOps.skip rfl ?_
        refine SOps.skip rfl ?_
        refine SOps.skip rfl ?_
        refine SOps.skip rfl ?_
        refine SOps.pick rfl rfl ?_
        refine SOps.nil ?_
        refine SCode.cond rfl (fun _ => ?_) (fun h => by cases h)
        refine SCode.seqR ?_
        refine SOps.assign rfl ?_
        refine SOps.assign rfl ?_
        refine SOps.nil ?_
        refine SCode.ret ?_
        exact ⟨_, Res.two (.tmp rfl) (.tmp rfl), by first | (rw [if_pos (show accOK x = true from (Bool.and_eq_true _ _).mpr ⟨hho, List.all_eq_true.2 (all_of (by omega) hf)⟩)]; done) | (rw [if_neg (fun h => by simp only [accOK, Bool.and_eq_true, List.all_eq_true] at h; first | (have := headOK_iff.1 h.1; omega) | (have := rowOK_iff.1 (h.2 _ (List.getElem_mem (show i < x.nxt.length by omega))); omega) | (have := (rowOK_iff.1 (h.2 _ (List.getElem_mem (show i < x.nxt.length by omega)))).2 _ (List.getElem_mem (show j < (x.nxt[i]).length by omega)); omega))]; done), rfl⟩
      · try simp only [decide_eq_true_eq, decide_eq_false_iff_not, Bool.not_eq_true', Bool.not_eq_false', beq_iff_eq, bne_iff_ne, ne_eq, beq_eq_false_iff_ne, bne_eq_false_iff_eq, Int.not_lt, Int.not_le, Nat.not_lt, Nat.not_le, Int.ofNat_lt, Int.ofNat_le, Bool.not_eq_eq_eq_not, Bool.not_true, Bool.not_false] at hb3
        refine SOps.fieldPin rfl fieldB_28_0_0 ?_
        refine SOps.loadPin rfl flatB_3 ?_
        refine SOps.bin rfl rfl rfl ?_
        refine SOps.pick rfl rfl ?_
        refine SOps.move rfl ?_
        refine SOps.caseB 31 rfl (fun hb4 => ?_) (fun hb4 => ?_)
        · try simp only [decide_eq_true_eq, decide_eq_false_iff_not, Bool.not_eq_true', Bool.not_eq_false', beq_iff_eq, bne_iff_ne, ne_eq, beq_eq_false_iff_ne, bne_eq_false_iff_eq, Int.not_lt, Int.not_le, Nat.not_lt, Nat.not_le, Int.ofNat_lt, Int.ofNat_le, Bool.not_eq_eq_eq_not, Bool.not_true, Bool.not_false] at hb4
          refine SOps.skip rfl ?_
          refine SOps.skip rfl ?_
          refine SOps.skip rfl ?_
          refine SOps.skip rfl ?_
          refine SOps.pick rfl rfl ?_
          refine SOps.nil ?_
          refine SCode.cond rfl (fun _ => ?_) (fun h => by cases h)
          refine SCode.seqR ?_
          refine SOps.assign rfl ?_
          refine SOps.assign rfl ?_
          refine SOps.nil ?_
          refine SCode.ret ?_
          exact ⟨_, Res.two (.tmp rfl) (.tmp rfl), by first | (rw [if_pos (show accOK x = true from (Bool.and_eq_true _ _).mpr ⟨hho, List.all_eq_true.2 (all_of (by omega) hf)⟩)]; done) | (rw [if_neg (fun h => by simp only [accOK, Bool.and_eq_true, List.all_eq_true] at h; first | (have := headOK_iff.1 h.1; omega) | (have := rowOK_iff.1 (h.2 _ (List.getElem_mem (show i < x.nxt.length by omega))); omega) | (have := (rowOK_iff.1 (h.2 _ (List.getElem_mem (show i < x.nxt.length by omega)))).2 _ (List.getElem_mem (show j < (x.nxt[i]).length by omega)); omega))]; done), rfl⟩
        · try simp only [decide_eq_true_eq, decide_eq_false_iff_not, Bool.not_eq_true', Bool.not_eq_false', beq_iff_eq, bne_iff_ne, ne_eq, beq_eq_false_iff_ne, bne_eq_false_iff_eq, Int.not_lt, Int.not_le, Nat.not_lt, Nat.not_le, Int.ofNat_lt, Int.ofNat_le, Bool.not_eq_eq_eq_not, Bool.not_true, Bool.not_false] at hb4
          refine SOps.fieldPin rfl fieldB_28_0_0 ?_
          refine SOps.loadPin rfl flatB_3 ?_
          refine SOps.move rfl ?_
          refine SOps.bin rfl rfl rfl ?_
          refine SOps.pick rfl rfl ?_
          refine SOps.nil ?_
          refine SCode.cond rfl (fun hc5 => ?_) (fun hc5 => ?_)
          · try simp only [decide_eq_true_eq, decide_eq_false_iff_not, Bool.not_eq_true', Bool.not_eq_false', beq_iff_eq, bne_iff_ne, ne_eq, beq_eq_false_iff_ne, bne_eq_false_iff_eq, Int.not_lt, Int.not_le, Nat.not_lt, Nat.not_le, Int.ofNat_lt, Int.ofNat_le, Bool.not_eq_eq_eq_not, Bool.not_true, Bool.not_false] at hc5
            refine SCode.seqR ?_
            refine SOps.assign rfl ?_
            refine SOps.assign rfl ?_
            refine SOps.nil ?_
            refine SCode.ret ?_
            exact ⟨_, Res.two (.tmp rfl) (.tmp rfl), by first | (rw [if_pos (show accOK x = true from (Bool.and_eq_true _ _).mpr ⟨hho, List.all_eq_true.2 (all_of (by omega) hf)⟩)]; done) | (rw [if_neg (fun h => by simp only [accOK, Bool.and_eq_true, List.all_eq_true] at h; first | (have := headOK_iff.1 h.1; omega) | (have := rowOK_iff.1 (h.2 _ (List.getElem_mem (show i < x.nxt.length by omega))); omega) | (have := (rowOK_iff.1 (h.2 _ (List.getElem_mem (show i < x.nxt.length by omega)))).2 _ (List.getElem_mem (show j < (x.nxt[i]).length by omega)); omega))]; done), rfl⟩
          · try simp only [decide_eq_true_eq, decide_eq_false_iff_not, Bool.not_eq_true', Bool.not_eq_false', beq_iff_eq, bne_iff_ne, ne_eq, beq_eq_false_iff_ne, bne_eq_false_iff_eq, Int.not_lt, Int.not_le, Nat.not_lt, Nat.not_le, Int.ofNat_lt, Int.ofNat_le, Bool.not_eq_eq_eq_not, Bool.not_true, Bool.not_false] at hc5
            refine SCode.skip ?_
            show SCode _ _ _ _
            refine SCode.seqR ?_
            refine SOps.fieldPin rfl fieldB_28_2_2 ?_
            refine SOps.loadPin rfl flatB_26 ?_
            refine SOps.indexM (0) rfl rfl sliceB_26_39_1 (by first | omega | (simp only [lenB]; omega)) (by first | omega | (simp only [lenB]; omega)) ?_
            refine SOps.loadPin rfl flatB_39 ?_
            refine SOps.reSlot (t := 40) rfl (show _ = DInts (x.nxt[0]) from rfl) ?_
            refine SOps.lenM rfl sliceB_39_3_1 ?_
            refine SOps.assign rfl ?_
            refine SOps.nil ?_
            refine SCode.seq ?_
            refine SCode.seqR ?_
            refine SOps.fieldPin rfl fieldB_28_2_2 ?_
            refine SOps.loadPin rfl flatB_26 ?_
            refine SOps.lenM rfl sliceB_26_39_1 ?_
            refine SOps.move rfl ?_
            refine SOps.nil ?_
            refine SCode.block ?_
            have hho : headOK x = true := headOK_iff.2 (by omega)
            refine SCode.loop1 (fun (i : Nat) => (⟨71, [(4, .v (.int .i64 ((x.nxt.length : Nat) : Int))), (5, .v (.int .i64 ((widthA x : Nat) : Int))), (43, DTab x.nxt), (44, .v (.int .i64 ((x.nxt.length : Nat) : Int))), (45, .v (.int .i64 (i : Int)))], []⟩ : St)) (fun (i : Nat) => i ≤ x.nxt.length ∧ ∀ r ∈ x.nxt.take i, rowOK x.nxt.length (widthA x) r = true) (fun (i : Nat) => x.nxt.length - i) (0) (by simp) (St.Le.of ⟨rfl, (by show some _ = some _; first | (rw [← widthA_at (by omega)]; done) | (rw [← widthA_at (by omega)]; rfl)), rfl, rfl, rfl, trivial⟩) ?_
            rintro i ⟨hi, hf⟩
            refine SCode.seqR ?_
            refine SOps.bin rfl rfl rfl ?_
            refine SOps.nil ?_
            refine SCode.seq ?_
            refine SCode.cond rfl (fun hc6 => ?_) (fun hc6 => ?_)
            · try simp only [decide_eq_true_eq, decide_eq_false_iff_not, Bool.not_eq_true', Bool.not_eq_false', beq_iff_eq, bne_iff_ne, ne_eq, beq_eq_false_iff_ne, bne_eq_false_iff_eq, Int.not_lt, Int.not_le, Nat.not_lt, Nat.not_le, Int.ofNat_lt, Int.ofNat_le, Bool.not_eq_eq_eq_not, Bool.not_true, Bool.not_false] at hc6
              refine SCode.skip ?_
              show SCode _ _ _ _
              refine SCode.seq ?_
              refine SCode.block ?_
              refine SCode.seqR ?_
              refine SOps.indexM (i) rfl rfl sliceB_26_39_1 (by first | omega | (simp only [lenB]; omega)) (by first | omega | (simp only [lenB]; omega)) ?_
              refine SOps.loadPin rfl flatB_39 ?_
              refine SOps.assign rfl ?_
              refine SOps.nil ?_
              refine SCode.seq ?_
              refine SCode.seqR ?_
              refine SOps.move rfl ?_
              refine SOps.lenM rfl sliceB_39_3_1 ?_
              refine SOps.move rfl ?_
              refine SOps.bin rfl rfl rfl ?_
              refine SOps.nil ?_
              refine SCode.cond rfl (fun hc7 => ?_) (fun hc7 => ?_)
              · try simp only [decide_eq_true_eq, decide_eq_false_iff_not, Bool.not_eq_true', Bool.not_eq_false', beq_iff_eq, bne_iff_ne, ne_eq, beq_eq_false_iff_ne, bne_eq_false_iff_eq, Int.not_lt, Int.not_le, Nat.not_lt, Nat.not_le, Int.ofNat_lt, Int.ofNat_le, Bool.not_eq_eq_eq_not, Bool.not_true, Bool.not_false] at hc7
                refine SCode.seqR ?_
                refine SOps.assign rfl ?_
                refine SOps.assign rfl ?_
                refine SOps.nil ?_
                refine SCode.ret ?_
                exact ⟨_, Res.two (.tmp rfl) (.tmp rfl), by first | (rw [if_pos (show accOK x = true from (Bool.and_eq_true _ _).mpr ⟨hho, List.all_eq_true.2 (all_of (by omega) hf)⟩)]; done) | (rw [if_neg (fun h => by simp only [accOK, Bool.and_eq_true, List.all_eq_true] at h; first | (have := headOK_iff.1 h.1; omega) | (have := rowOK_iff.1 (h.2 _ (List.getElem_mem (show i < x.nxt.length by omega))); omega) | (have := (rowOK_iff.1 (h.2 _ (List.getElem_mem (show i < x.nxt.length by omega)))).2 _ (List.getElem_mem (show j < (x.nxt[i]).length by omega)); omega))]; done), rfl⟩
              · try simp only [decide_eq_true_eq, decide_eq_false_iff_not, Bool.not_eq_true', Bool.not_eq_false', beq_iff_eq, bne_iff_ne, ne_eq, beq_eq_false_iff_ne, bne_eq_false_iff_eq, Int.not_lt, Int.not_le, Nat.not_lt, Nat.not_le, Int.ofNat_lt, Int.ofNat_le, Bool.not_eq_eq_eq_not, Bool.not_true, Bool.not_false] at hc7
                refine SCode.skip ?_
                show SCode _ _ _ _
                refine SCode.seqR ?_
                refine SOps.move rfl ?_
                refine SOps.lenM rfl sliceB_39_3_1 ?_
                refine SOps.move rfl ?_
                refine SOps.nil ?_
                refine SCode.block ?_
                refine SCode.fact (isl_len (t := 53) rfl) (fun hBj => ?_)
                simp only [List.length_map, lenB] at hBj
                refine SCode.loop1 (fun (j : Nat) => (⟨71, [(4, .v (.int .i64 ((x.nxt.length : Nat) : Int))), (5, .v (.int .i64 ((widthA x : Nat) : Int))), (43, DTab x.nxt), (44, .v (.int .i64 ((x.nxt.length : Nat) : Int))), (45, .v (.int .i64 (i : Int))), (53, DInts (x.nxt[i])), (54, .v (.int .i64 (((x.nxt[i]).length : Nat) : Int))), (55, .v (.int .i64 (j : Int)))], []⟩ : St)) (fun (j : Nat) => j ≤ (x.nxt[i]).length ∧ ∀ t ∈ (x.nxt[i]).take j, 0 ≤ t ∧ t < x.nxt.length) (fun (j : Nat) => (x.nxt[i]).length - j) (0) (by simp) (St.Le.of ⟨(by first | rfl | (show some _ = some _; simp)), (by first | rfl | (show some _ = some _; simp)), (by first | rfl | (show some _ = some _; simp)), (by first | rfl | (show some _ = some _; simp)), (by first | rfl | (show some _ = some _; simp)), (by first | rfl | (show some _ = some _; simp)), (by first | rfl | (show some _ = some _; simp)), (by first | rfl | (show some _ = some _; simp)), trivial⟩ rfl (by first | rfl | (simp))) ?_
                rintro j ⟨hj, hg⟩
                refine SCode.seqR ?_
                refine SOps.bin rfl rfl rfl ?_
                refine SOps.nil ?_
                refine SCode.seq ?_
                refine SCode.cond rfl (fun hc8 => ?_) (fun hc8 => ?_)
                · try simp only [decide_eq_true_eq, decide_eq_false_iff_not, Bool.not_eq_true', Bool.not_eq_false', beq_iff_eq, bne_iff_ne, ne_eq, beq_eq_false_iff_ne, bne_eq_false_iff_eq, Int.not_lt, Int.not_le, Nat.not_lt, Nat.not_le, Int.ofNat_lt, Int.ofNat_le, Bool.not_eq_eq_eq_not, Bool.not_true, Bool.not_false] at hc8
                  refine SCode.skip ?_
                  show SCode _ _ _ _
                  refine SCode.seq ?_
                  refine SCode.block ?_
                  refine SCode.seqR ?_
                  refine SOps.indexM (j) rfl rfl sliceB_39_3_1 (by first | omega | (simp only [lenB]; omega)) (by first | omega | (simp only [lenB]; omega)) ?_
                  refine SOps.loadPin rfl flatB_3 ?_
                  refine SOps.assign rfl ?_
                  refine SOps.nil ?_
                  refine SCode.seqR ?_
                  refine SOps.move rfl ?_
                  refine SOps.bin rfl rfl rfl ?_
                  refine SOps.move rfl ?_
                  refine SOps.caseB 61 rfl (fun hb9 => ?_) (fun hb9 => ?_)
                  · try simp only [decide_eq_true_eq, decide_eq_false_iff_not, Bool.not_eq_true', Bool.not_eq_false', beq_iff_eq, bne_iff_ne, ne_eq, beq_eq_false_iff_ne, bne_eq_false_iff_eq, Int.not_lt, Int.not_le, Nat.not_lt, Nat.not_le, Int.ofNat_lt, Int.ofNat_le, Bool.not_eq_eq_eq_not, Bool.not_true, Bool.not_false] at hb9
                    refine SOps.skip rfl ?_
                    refine SOps.skip rfl ?_
                    refine SOps.skip rfl ?_
                    refine SOps.pick rfl rfl ?_
                    refine SOps.nil ?_
                    refine SCode.cond rfl (fun _ => ?_) (fun h => by cases h)
                    refine SCode.seqR ?_
                    refine SOps.assign rfl ?_
                    refine SOps.assign rfl ?_
                    refine SOps.nil ?_
                    refine SCode.ret ?_
                    exact ⟨_, Res.two (.tmp rfl) (.tmp rfl), by first | (rw [if_pos (show accOK x = true from (Bool.and_eq_true _ _).mpr ⟨hho, List.all_eq_true.2 (all_of (by omega) hf)⟩)]; done) | (rw [if_neg (fun h => by simp only [accOK, Bool.and_eq_true, List.all_eq_true] at h; first | (have := headOK_iff.1 h.1; omega) | (have := rowOK_iff.1 (h.2 _ (List.getElem_mem (show i < x.nxt.length by omega))); omega) | (have := (rowOK_iff.1 (h.2 _ (List.getElem_mem (show i < x.nxt.length by omega)))).2 _ (List.getElem_mem (show j < (x.nxt[i]).length by omega)); omega))]; done), rfl⟩
                  · try simp only [decide_eq_true_eq, decide_eq_false_iff_not, Bool.not_eq_true', Bool.not_eq_false', beq_iff_eq, bne_iff_ne, ne_eq, beq_eq_false_iff_ne, bne_eq_false_iff_eq, Int.not_lt, Int.not_le, Nat.not_lt, Nat.not_le, Int.ofNat_lt, Int.ofNat_le, Bool.not_eq_eq_eq_not, Bool.not_true, Bool.not_false] at hb9
                    refine SOps.move rfl ?_
                    refine SOps.move rfl ?_
                    refine SOps.bin rfl rfl rfl ?_
                    refine SOps.pick rfl rfl ?_
                    refine SOps.nil ?_
                    refine SCode.cond rfl (fun hc10 => ?_) (fun hc10 => ?_)
                    · try simp only [decide_eq_true_eq, decide_eq_false_iff_not, Bool.not_eq_true', Bool.not_eq_false', beq_iff_eq, bne_iff_ne, ne_eq, beq_eq_false_iff_ne, bne_eq_false_iff_eq, Int.not_lt, Int.not_le, Nat.not_lt, Nat.not_le, Int.ofNat_lt, Int.ofNat_le, Bool.not_eq_eq_eq_not, Bool.not_true, Bool.not_false] at hc10
                      refine SCode.seqR ?_
                      refine SOps.assign rfl ?_
                      refine SOps.assign rfl ?_
                      refine SOps.nil ?_
                      refine SCode.ret ?_
                      exact ⟨_, Res.two (.tmp rfl) (.tmp rfl), by first | (rw [if_pos (show accOK x = true from (Bool.and_eq_true _ _).mpr ⟨hho, List.all_eq_true.2 (all_of (by omega) hf)⟩)]; done) | (rw [if_neg (fun h => by simp only [accOK, Bool.and_eq_true, List.all_eq_true] at h; first | (have := headOK_iff.1 h.1; omega) | (have := rowOK_iff.1 (h.2 _ (List.getElem_mem (show i < x.nxt.length by omega))); omega) | (have := (rowOK_iff.1 (h.2 _ (List.getElem_mem (show i < x.nxt.length by omega)))).2 _ (List.getElem_mem (show j < (x.nxt[i]).length by omega)); omega))]; done), rfl⟩
                    · try simp only [decide_eq_true_eq, decide_eq_false_iff_not, Bool.not_eq_true', Bool.not_eq_false', beq_iff_eq, bne_iff_ne, ne_eq, beq_eq_false_iff_ne, bne_eq_false_iff_eq, Int.not_lt, Int.not_le, Nat.not_lt, Nat.not_le, Int.ofNat_lt, Int.ofNat_le, Bool.not_eq_eq_eq_not, Bool.not_true, Bool.not_false] at hc10
                      refine SCode.skip ?_
                      show SCode _ _ _ _
                      refine SCode.region ?_
                      refine SOps.addI rfl rfl (by first | omega | (simp only [lenB]; omega)) (by first | omega | (simp only [lenB]; omega)) ?_
                      refine SOps.move rfl ?_
                      refine SOps.nil ?_
                      exact ⟨j + 1, by exact ⟨by omega, take_more hg (by omega) (by omega)⟩, by omega, (St.Le.of ⟨(by first | rfl | (show some _ = some _; simp)), (by first | rfl | (show some _ = some _; simp)), (by first | rfl | (show some _ = some _; simp)), (by first | rfl | (show some _ = some _; simp)), (by first | rfl | (show some _ = some _; simp)), (by first | rfl | (show some _ = some _; simp)), (by first | rfl | (show some _ = some _; simp)), (by first | rfl | (show some _ = some _; simp)), trivial⟩ rfl (by first | rfl | (simp)))⟩
                · try simp only [decide_eq_true_eq, decide_eq_false_iff_not, Bool.not_eq_true', Bool.not_eq_false', beq_iff_eq, bne_iff_ne, ne_eq, beq_eq_false_iff_ne, bne_eq_false_iff_eq, Int.not_lt, Int.not_le, Nat.not_lt, Nat.not_le, Int.ofNat_lt, Int.ofNat_le, Bool.not_eq_eq_eq_not, Bool.not_true, Bool.not_false] at hc8
                  refine SCode.exit ?_
                  show SCode _ _ _ _
                  refine SCode.region ?_
                  refine SOps.addI rfl rfl (by first | omega | (simp only [lenB]; omega)) (by first | omega | (simp only [lenB]; omega)) ?_
                  refine SOps.move rfl ?_
                  refine SOps.nil ?_
                  exact ⟨i + 1, ⟨by omega, take_more hf (by omega) (rowOK_iff.2 ⟨by omega, all_of (by omega) hg⟩)⟩, by omega, St.Le.of ⟨rfl, rfl, rfl, rfl, rfl, trivial⟩⟩
            · try simp only [decide_eq_true_eq, decide_eq_false_iff_not, Bool.not_eq_true', Bool.not_eq_false', beq_iff_eq, bne_iff_ne, ne_eq, beq_eq_false_iff_ne, bne_eq_false_iff_eq, Int.not_lt, Int.not_le, Nat.not_lt, Nat.not_le, Int.ofNat_lt, Int.ofNat_le, Bool.not_eq_eq_eq_not, Bool.not_true, Bool.not_false] at hc6
              refine SCode.exit ?_
              show SCode _ _ _ _
              refine SCode.seqR ?_
              refine SOps.move rfl ?_
              refine SOps.move rfl ?_
              refine SOps.bin rfl rfl rfl ?_
              refine SOps.assign rfl ?_
              refine SOps.assign rfl ?_
              refine SOps.nil ?_
              refine SCode.ret ?_
              exact ⟨_, Res.two (.tmp rfl) (.tmp rfl), by first | (rw [if_pos (show accOK x = true from (Bool.and_eq_true _ _).mpr ⟨hho, List.all_eq_true.2 (all_of (by omega) hf)⟩)]; done) | (rw [if_neg (fun h => by simp only [accOK, Bool.and_eq_true, List.all_eq_true] at h; first | (have := headOK_iff.1 h.1; omega) | (have := rowOK_iff.1 (h.2 _ (List.getElem_mem (show i < x.nxt.length by omega))); omega) | (have := (rowOK_iff.1 (h.2 _ (List.getElem_mem (show i < x.nxt.length by omega)))).2 _ (List.getElem_mem (show j < (x.nxt[i]).length by omega)); omega))]; done), rfl⟩
theorem aAccepts (hV : VS E) (a : List Letter) (x : Acc) (s : ByteArray) (hs : s.size ≤ 1048576) : GCall Tryd.prog E 21 [DLs a, .agg (encAcc x), .v (.string s)] [] (fun d H => d = .v (.bool (acceptsA a x s)) ∧ H = []) := by
  refine GCall.body (C := ⟨Tryd.prog, E, true⟩) Tryd.func21 rfl (fun _ => rfl) (by kernel_rfl) rfl ?_
  refine SCode.seqR ?_
  refine SOps.boxAM rfl rfl ?_
  refine SOps.assign rfl ?_
  refine SOps.nil ?_
  refine SCode.seqR ?_
  refine SOps.move rfl ?_
  by_cases hpr : properB a = true
  · refine SOps.callP (pProper _) rfl ?_
    rintro _ rfl
    rw [if_pos hpr]
    refine SOps.move rfl ?_
    refine SOps.extract rfl rfl ?_
    refine SOps.extract rfl rfl ?_
    refine SOps.assign rfl ?_
    refine SOps.assign rfl ?_
    refine SOps.nil ?_
    refine SCode.seqR ?_
    refine SOps.loadPinA rfl aggB_28_3 (Nat.le_of_ble_eq_true rfl) ?_
    by_cases hax : accOK x = true
    · refine SOps.callP (aValid _) rfl ?_
      rintro _ rfl
      rw [if_pos hax]
      refine SOps.move rfl ?_
      refine SOps.extract rfl rfl ?_
      refine SOps.extract rfl rfl ?_
      refine SOps.assign rfl ?_
      refine SOps.assign rfl ?_
      refine SOps.nil ?_
      refine SCode.seq ?_
      refine SCode.seqR ?_
      refine SOps.move rfl ?_
      refine SOps.un rfl rfl ?_
      refine SOps.move rfl ?_
      refine SOps.caseB 28 rfl (fun hb1 => ?_) (fun hb1 => ?_)
      · try simp only [decide_eq_true_eq, decide_eq_false_iff_not, Bool.not_eq_true', Bool.not_eq_false', beq_iff_eq, bne_iff_ne, ne_eq, beq_eq_false_iff_ne, bne_eq_false_iff_eq, Int.not_lt, Int.not_le, Nat.not_lt, Nat.not_le, Int.ofNat_lt, Int.ofNat_le, Bool.not_eq_eq_eq_not, Bool.not_true, Bool.not_false] at hb1
        refine SOps.skip rfl ?_
        refine SOps.skip rfl ?_
        refine SOps.pick rfl rfl ?_
        refine SOps.move rfl ?_
        refine SOps.skip rfl ?_
        refine SOps.skip rfl ?_
        refine SOps.skip rfl ?_
        refine SOps.skip rfl ?_
        refine SOps.pick rfl rfl ?_
        refine SOps.nil ?_
        refine SCode.cond rfl (fun _ => ?_) (fun h => by cases h)
        refine SCode.seqR ?_
        refine SOps.assign rfl ?_
        refine SOps.nil ?_
        refine SCode.ret ?_
        exact ⟨_, Res.one (.tmp rfl), congrArg (fun b => DV.v (.bool b)) (by first | (rw [finA_at, List.take_of_length_le (show (idxs a s).length ≤ i by omega), acceptsA, hpr, hax, hov, decide_eq_true (show a.length ≤ 65 by omega), decide_eq_true hwa]; rfl) | (simp_all [acceptsA]; done) | (rcases Classical.em (a.length ≤ 65) with h65 | h65 <;> rcases Classical.em (widthA x = a.length) with hw | hw <;> first | (exfalso; omega) | (simp_all [acceptsA]; done) | (simp_all [acceptsA]; omega))), rfl⟩
      · try simp only [decide_eq_true_eq, decide_eq_false_iff_not, Bool.not_eq_true', Bool.not_eq_false', beq_iff_eq, bne_iff_ne, ne_eq, beq_eq_false_iff_ne, bne_eq_false_iff_eq, Int.not_lt, Int.not_le, Nat.not_lt, Nat.not_le, Int.ofNat_lt, Int.ofNat_le, Bool.not_eq_eq_eq_not, Bool.not_true, Bool.not_false] at hb1
        refine SOps.move rfl ?_
        refine SOps.un rfl rfl ?_
        refine SOps.pick rfl rfl ?_
        refine SOps.move rfl ?_
        refine SOps.caseB 32 rfl (fun hb2 => ?_) (fun hb2 => ?_)
        · try simp only [decide_eq_true_eq, decide_eq_false_iff_not, Bool.not_eq_true', Bool.not_eq_false', beq_iff_eq, bne_iff_ne, ne_eq, beq_eq_false_iff_ne, bne_eq_false_iff_eq, Int.not_lt, Int.not_le, Nat.not_lt, Nat.not_le, Int.ofNat_lt, Int.ofNat_le, Bool.not_eq_eq_eq_not, Bool.not_true, Bool.not_false] at hb2
          refine SOps.skip rfl ?_
          refine SOps.skip rfl ?_
          refine SOps.skip rfl ?_
          refine SOps.skip rfl ?_
          refine SOps.pick rfl rfl ?_
          refine SOps.nil ?_
          refine SCode.cond rfl (fun _ => ?_) (fun h => by cases h)
          refine SCode.seqR ?_
          refine SOps.assign rfl ?_
          refine SOps.nil ?_
          refine SCode.ret ?_
          exact ⟨_, Res.one (.tmp rfl), congrArg (fun b => DV.v (.bool b)) (by first | (rw [finA_at, List.take_of_length_le (show (idxs a s).length ≤ i by omega), acceptsA, hpr, hax, hov, decide_eq_true (show a.length ≤ 65 by omega), decide_eq_true hwa]; rfl) | (simp_all [acceptsA]; done) | (rcases Classical.em (a.length ≤ 65) with h65 | h65 <;> rcases Classical.em (widthA x = a.length) with hw | hw <;> first | (exfalso; omega) | (simp_all [acceptsA]; done) | (simp_all [acceptsA]; omega))), rfl⟩
        · try simp only [decide_eq_true_eq, decide_eq_false_iff_not, Bool.not_eq_true', Bool.not_eq_false', beq_iff_eq, bne_iff_ne, ne_eq, beq_eq_false_iff_ne, bne_eq_false_iff_eq, Int.not_lt, Int.not_le, Nat.not_lt, Nat.not_le, Int.ofNat_lt, Int.ofNat_le, Bool.not_eq_eq_eq_not, Bool.not_true, Bool.not_false] at hb2
          refine SOps.move rfl ?_
          refine SOps.move rfl ?_
          refine SOps.lenM rfl sliceB_22_69_2 ?_
          refine SOps.bin rfl rfl rfl ?_
          refine SOps.pick rfl rfl ?_
          refine SOps.nil ?_
          refine SCode.cond rfl (fun hc3 => ?_) (fun hc3 => ?_)
          · try simp only [decide_eq_true_eq, decide_eq_false_iff_not, Bool.not_eq_true', Bool.not_eq_false', beq_iff_eq, bne_iff_ne, ne_eq, beq_eq_false_iff_ne, bne_eq_false_iff_eq, Int.not_lt, Int.not_le, Nat.not_lt, Nat.not_le, Int.ofNat_lt, Int.ofNat_le, Bool.not_eq_eq_eq_not, Bool.not_true, Bool.not_false] at hc3
            refine SCode.seqR ?_
            refine SOps.assign rfl ?_
            refine SOps.nil ?_
            refine SCode.ret ?_
            exact ⟨_, Res.one (.tmp rfl), congrArg (fun b => DV.v (.bool b)) (by first | (rw [finA_at, List.take_of_length_le (show (idxs a s).length ≤ i by omega), acceptsA, hpr, hax, hov, decide_eq_true (show a.length ≤ 65 by omega), decide_eq_true hwa]; rfl) | (simp_all [acceptsA]; done) | (rcases Classical.em (a.length ≤ 65) with h65 | h65 <;> rcases Classical.em (widthA x = a.length) with hw | hw <;> first | (exfalso; omega) | (simp_all [acceptsA]; done) | (simp_all [acceptsA]; omega))), rfl⟩
          · try simp only [decide_eq_true_eq, decide_eq_false_iff_not, Bool.not_eq_true', Bool.not_eq_false', beq_iff_eq, bne_iff_ne, ne_eq, beq_eq_false_iff_ne, bne_eq_false_iff_eq, Int.not_lt, Int.not_le, Nat.not_lt, Nat.not_le, Int.ofNat_lt, Int.ofNat_le, Bool.not_eq_eq_eq_not, Bool.not_true, Bool.not_false] at hc3
            refine SCode.skip ?_
            show SCode _ _ _ _
            refine SCode.seqR ?_
            refine SOps.move rfl ?_
            refine SOps.move rfl ?_
            by_cases hov : overA a s = true
            · refine SOps.callP (pOver hV a s hs) rfl ?_
              rintro _ rfl
              rw [if_pos hov]
              refine SOps.move rfl ?_
              refine SOps.extract rfl rfl ?_
              refine SOps.extract rfl rfl ?_
              refine SOps.assign rfl ?_
              refine SOps.assign rfl ?_
              refine SOps.nil ?_
              refine SCode.seqR ?_
              refine SOps.fieldPin rfl fieldB_28_0_0 ?_
              refine SOps.loadPin rfl flatB_3 ?_
              refine SOps.assign rfl ?_
              refine SOps.nil ?_
              refine SCode.seq ?_
              refine SCode.seqR ?_
              refine SOps.move rfl ?_
              refine SOps.lenM rfl sliceB_39_3_1 ?_
              refine SOps.move rfl ?_
              refine SOps.nil ?_
              refine SCode.block ?_
              have hho := headOK_iff.1 (by have h := hax; simp only [accOK, Bool.and_eq_true] at h; exact h.1)
              have hwa : widthA x = a.length := by omega
              have hlt := idxs_lt hov
              have hil := idxs_len a s
              refine SCode.loop1 (fun (i : Nat) => (⟨69, [(4, .ipin (encAcc x)), (12, .v (.bool true)), (13, .v (.int .i64 (runA x x.start ((idxs a s).take i)))), (46, DNats (idxs a s)), (47, .v (.int .i64 (((idxs a s).length : Nat) : Int))), (48, .v (.int .i64 (i : Int)))], []⟩ : St)) (fun (i : Nat) => i ≤ (idxs a s).length) (fun (i : Nat) => (idxs a s).length - i) (0) (by exact Nat.zero_le _) (St.Le.of ⟨(by first | rfl | (show some _ = some _; simp)), (by first | rfl | (show some _ = some _; simp)), (by first | rfl | (show some _ = some _; simp)), (by first | rfl | (show some _ = some _; simp)), (by first | rfl | (show some _ = some _; simp)), (by first | rfl | (show some _ = some _; simp)), trivial⟩ rfl (by first | rfl | (simp))) ?_
              rintro i hi
              obtain ⟨hr1, hr2⟩ := runA_ok hax ((idxs a s).take i) x.start (by omega) (by omega) (fun c hc => by rw [hwa]; exact hlt c (List.mem_of_mem_take hc))
              refine SCode.seqR ?_
              refine SOps.bin rfl rfl rfl ?_
              refine SOps.nil ?_
              refine SCode.seq ?_
              refine SCode.cond rfl (fun hc4 => ?_) (fun hc4 => ?_)
              · try simp only [decide_eq_true_eq, decide_eq_false_iff_not, Bool.not_eq_true', Bool.not_eq_false', beq_iff_eq, bne_iff_ne, ne_eq, beq_eq_false_iff_ne, bne_eq_false_iff_eq, Int.not_lt, Int.not_le, Nat.not_lt, Nat.not_le, Int.ofNat_lt, Int.ofNat_le, Bool.not_eq_eq_eq_not, Bool.not_true, Bool.not_false] at hc4
                refine SCode.skip ?_
                show SCode _ _ _ _
                refine SCode.seq ?_
                refine SCode.block ?_
                refine SCode.seqR ?_
                refine SOps.indexM (i) rfl rfl sliceB_39_3_1 (by first | omega | (simp only [lenB]; omega)) (by first | omega | (simp only [lenB]; omega)) ?_
                refine SOps.loadPin rfl flatB_3 ?_
                refine SOps.assign rfl ?_
                refine SOps.nil ?_
                refine SCode.region ?_
                have hi5 : i < (idxs a s).length := by omega
                have hri : (runA x x.start ((idxs a s).take i)).toNat < x.nxt.length := by omega
                have hrc : (idxs a s)[i] < (x.nxt[(runA x x.start ((idxs a s).take i)).toNat]).length := by rw [(accOK_row hax hri).1, hwa]; exact hlt _ (List.getElem_mem hi5)
                refine SOps.fieldPin rfl fieldB_28_2_2 ?_
                refine SOps.loadPin rfl flatB_26 ?_
                refine SOps.move rfl ?_
                refine SOps.indexM ((runA x x.start ((idxs a s).take i)).toNat) rfl rfl sliceB_26_39_1 (by first | omega | (simp only [lenB]; omega)) (by first | omega | (simp only [lenB]; omega)) ?_
                refine SOps.loadPin rfl flatB_39 ?_
                refine SOps.move rfl ?_
                refine SOps.indexM ((idxs a s)[i]) rfl rfl sliceB_39_3_1 (by first | omega | (simp only [lenB]; omega)) (by first | omega | (simp only [lenB]; omega)) ?_
                refine SOps.loadPin rfl flatB_3 ?_
                refine SOps.assign rfl ?_
                refine SOps.nil ?_
                show SCode _ _ _ _
                refine SCode.region ?_
                refine SOps.addI rfl rfl (by first | omega | (simp only [lenB]; omega)) (by first | omega | (simp only [lenB]; omega)) ?_
                refine SOps.move rfl ?_
                refine SOps.nil ?_
                exact ⟨i + 1, by omega, by omega, St.Le.of ⟨rfl, rfl, (by show some _ = some _; rw [runA_succ hi5 hri hrc]), rfl, rfl, rfl, trivial⟩⟩
              · try simp only [decide_eq_true_eq, decide_eq_false_iff_not, Bool.not_eq_true', Bool.not_eq_false', beq_iff_eq, bne_iff_ne, ne_eq, beq_eq_false_iff_ne, bne_eq_false_iff_eq, Int.not_lt, Int.not_le, Nat.not_lt, Nat.not_le, Int.ofNat_lt, Int.ofNat_le, Bool.not_eq_eq_eq_not, Bool.not_true, Bool.not_false] at hc4
                refine SCode.exit ?_
                show SCode _ _ _ _
                refine SCode.seqR ?_
                refine SOps.move rfl ?_
                refine SOps.move rfl ?_
                refine SOps.fieldPin rfl fieldB_28_1_1 ?_
                refine SOps.loadPin rfl flatB_25 ?_
                refine SOps.move rfl ?_
                refine SOps.indexM ((runA x x.start ((idxs a s).take i)).toNat) rfl rfl sliceB_25_4_1 (by first | omega | (simp only [lenB]; omega)) (by first | omega | (simp only [lenB]; omega)) ?_
                refine SOps.loadPin rfl flatB_4 ?_
                refine SOps.pick rfl rfl ?_
                refine SOps.assign rfl ?_
                refine SOps.nil ?_
                refine SCode.ret ?_
                exact ⟨_, Res.one (.tmp rfl), congrArg (fun b => DV.v (.bool b)) (by first | (rw [finA_at, List.take_of_length_le (show (idxs a s).length ≤ i by omega), acceptsA, hpr, hax, hov, decide_eq_true (show a.length ≤ 65 by omega), decide_eq_true hwa]; rfl) | (simp_all [acceptsA]; done) | (rcases Classical.em (a.length ≤ 65) with h65 | h65 <;> rcases Classical.em (widthA x = a.length) with hw | hw <;> first | (exfalso; omega) | (simp_all [acceptsA]; done) | (simp_all [acceptsA]; omega))), rfl⟩
            · refine SOps.callP (pOver hV a s hs) rfl ?_
              rintro _ rfl
              rw [if_neg hov]
              refine SOps.move rfl ?_
              refine SOps.extract rfl rfl ?_
              refine SOps.extract rfl rfl ?_
              refine SOps.assign rfl ?_
              refine SOps.assign rfl ?_
              refine SOps.nil ?_
              refine SCode.seqR ?_
              refine SOps.fieldPin rfl fieldB_28_0_0 ?_
              refine SOps.loadPin rfl flatB_3 ?_
              refine SOps.assign rfl ?_
              refine SOps.nil ?_
              refine SCode.seq ?_
              refine SCode.seqR ?_
              refine SOps.move rfl ?_
              refine SOps.lenNil rfl sliceB_39_3_1 ?_
              refine SOps.move rfl ?_
              refine SOps.nil ?_
              refine SCode.block ?_
              refine SCode.loop1 (fun (i : Nat) => (⟨69, [(12, .v (.bool false)), (46, .v (.slice none 0 0)), (47, .v (.int .i64 0)), (48, .v (.int .i64 (i : Int)))], []⟩ : St)) (fun (i : Nat) => True) (fun (i : Nat) => 0) (0) (by trivial) (St.Le.of ⟨(by first | rfl | (show some _ = some _; simp)), (by first | rfl | (show some _ = some _; simp)), (by first | rfl | (show some _ = some _; simp)), (by first | rfl | (show some _ = some _; simp)), trivial⟩ rfl (by first | rfl | (simp))) ?_
              rintro i -
              refine SCode.seqR ?_
              refine SOps.bin rfl rfl rfl ?_
              refine SOps.nil ?_
              refine SCode.seq ?_
              refine SCode.cond rfl (fun hc5 => ?_) (fun hc5 => ?_)
              · try simp only [decide_eq_true_eq, decide_eq_false_iff_not, Bool.not_eq_true', Bool.not_eq_false', beq_iff_eq, bne_iff_ne, ne_eq, beq_eq_false_iff_ne, bne_eq_false_iff_eq, Int.not_lt, Int.not_le, Nat.not_lt, Nat.not_le, Int.ofNat_lt, Int.ofNat_le, Bool.not_eq_eq_eq_not, Bool.not_true, Bool.not_false] at hc5
                exact absurd hc5 (by omega)
              · try simp only [decide_eq_true_eq, decide_eq_false_iff_not, Bool.not_eq_true', Bool.not_eq_false', beq_iff_eq, bne_iff_ne, ne_eq, beq_eq_false_iff_ne, bne_eq_false_iff_eq, Int.not_lt, Int.not_le, Nat.not_lt, Nat.not_le, Int.ofNat_lt, Int.ofNat_le, Bool.not_eq_eq_eq_not, Bool.not_true, Bool.not_false] at hc5
                refine SCode.exit ?_
                show SCode _ _ _ _
                refine SCode.seqR ?_
                refine SOps.move rfl ?_
                refine SOps.move rfl ?_
                refine SOps.skip rfl ?_
                refine SOps.skip rfl ?_
                refine SOps.skip rfl ?_
                refine SOps.skip rfl ?_
                refine SOps.skip rfl ?_
                refine SOps.pick rfl rfl ?_
                refine SOps.assign rfl ?_
                refine SOps.nil ?_
                refine SCode.ret ?_
                exact ⟨_, Res.one (.tmp rfl), congrArg (fun b => DV.v (.bool b)) (by first | (rw [finA_at, List.take_of_length_le (show (idxs a s).length ≤ i by omega), acceptsA, hpr, hax, hov, decide_eq_true (show a.length ≤ 65 by omega), decide_eq_true hwa]; rfl) | (simp_all [acceptsA]; done) | (rcases Classical.em (a.length ≤ 65) with h65 | h65 <;> rcases Classical.em (widthA x = a.length) with hw | hw <;> first | (exfalso; omega) | (simp_all [acceptsA]; done) | (simp_all [acceptsA]; omega))), rfl⟩
    · refine SOps.callP (aValid _) rfl ?_
      rintro _ rfl
      rw [if_neg hax]
      refine SOps.move rfl ?_
      refine SOps.extract rfl rfl ?_
      refine SOps.extract rfl rfl ?_
      refine SOps.assign rfl ?_
      refine SOps.assign rfl ?_
      refine SOps.nil ?_
      refine SCode.seq ?_
      refine SCode.seqR ?_
      refine SOps.move rfl ?_
      refine SOps.un rfl rfl ?_
      refine SOps.move rfl ?_
      refine SOps.caseB 28 rfl (fun hb6 => ?_) (fun hb6 => ?_)
      · try simp only [decide_eq_true_eq, decide_eq_false_iff_not, Bool.not_eq_true', Bool.not_eq_false', beq_iff_eq, bne_iff_ne, ne_eq, beq_eq_false_iff_ne, bne_eq_false_iff_eq, Int.not_lt, Int.not_le, Nat.not_lt, Nat.not_le, Int.ofNat_lt, Int.ofNat_le, Bool.not_eq_eq_eq_not, Bool.not_true, Bool.not_false] at hb6
        refine SOps.skip rfl ?_
        refine SOps.skip rfl ?_
        refine SOps.pick rfl rfl ?_
        refine SOps.move rfl ?_
        refine SOps.skip rfl ?_
        refine SOps.skip rfl ?_
        refine SOps.skip rfl ?_
        refine SOps.skip rfl ?_
        refine SOps.pick rfl rfl ?_
        refine SOps.nil ?_
        refine SCode.cond rfl (fun _ => ?_) (fun h => by cases h)
        refine SCode.seqR ?_
        refine SOps.assign rfl ?_
        refine SOps.nil ?_
        refine SCode.ret ?_
        exact ⟨_, Res.one (.tmp rfl), congrArg (fun b => DV.v (.bool b)) (by first | (rw [finA_at, List.take_of_length_le (show (idxs a s).length ≤ i by omega), acceptsA, hpr, hax, hov, decide_eq_true (show a.length ≤ 65 by omega), decide_eq_true hwa]; rfl) | (simp_all [acceptsA]; done) | (rcases Classical.em (a.length ≤ 65) with h65 | h65 <;> rcases Classical.em (widthA x = a.length) with hw | hw <;> first | (exfalso; omega) | (simp_all [acceptsA]; done) | (simp_all [acceptsA]; omega))), rfl⟩
      · try simp only [decide_eq_true_eq, decide_eq_false_iff_not, Bool.not_eq_true', Bool.not_eq_false', beq_iff_eq, bne_iff_ne, ne_eq, beq_eq_false_iff_ne, bne_eq_false_iff_eq, Int.not_lt, Int.not_le, Nat.not_lt, Nat.not_le, Int.ofNat_lt, Int.ofNat_le, Bool.not_eq_eq_eq_not, Bool.not_true, Bool.not_false] at hb6
        refine SOps.move rfl ?_
        refine SOps.un rfl rfl ?_
        refine SOps.pick rfl rfl ?_
        refine SOps.move rfl ?_
        refine SOps.skip rfl ?_
        refine SOps.skip rfl ?_
        refine SOps.skip rfl ?_
        refine SOps.skip rfl ?_
        refine SOps.pick rfl rfl ?_
        refine SOps.nil ?_
        refine SCode.cond rfl (fun _ => ?_) (fun h => by cases h)
        refine SCode.seqR ?_
        refine SOps.assign rfl ?_
        refine SOps.nil ?_
        refine SCode.ret ?_
        exact ⟨_, Res.one (.tmp rfl), congrArg (fun b => DV.v (.bool b)) (by first | (rw [finA_at, List.take_of_length_le (show (idxs a s).length ≤ i by omega), acceptsA, hpr, hax, hov, decide_eq_true (show a.length ≤ 65 by omega), decide_eq_true hwa]; rfl) | (simp_all [acceptsA]; done) | (rcases Classical.em (a.length ≤ 65) with h65 | h65 <;> rcases Classical.em (widthA x = a.length) with hw | hw <;> first | (exfalso; omega) | (simp_all [acceptsA]; done) | (simp_all [acceptsA]; omega))), rfl⟩
  · refine SOps.callP (pProper _) rfl ?_
    rintro _ rfl
    rw [if_neg hpr]
    refine SOps.move rfl ?_
    refine SOps.extract rfl rfl ?_
    refine SOps.extract rfl rfl ?_
    refine SOps.assign rfl ?_
    refine SOps.assign rfl ?_
    refine SOps.nil ?_
    refine SCode.seqR ?_
    refine SOps.loadPinA rfl aggB_28_3 (Nat.le_of_ble_eq_true rfl) ?_
    by_cases hax : accOK x = true
    · refine SOps.callP (aValid _) rfl ?_
      rintro _ rfl
      rw [if_pos hax]
      refine SOps.move rfl ?_
      refine SOps.extract rfl rfl ?_
      refine SOps.extract rfl rfl ?_
      refine SOps.assign rfl ?_
      refine SOps.assign rfl ?_
      refine SOps.nil ?_
      refine SCode.seq ?_
      refine SCode.seqR ?_
      refine SOps.move rfl ?_
      refine SOps.un rfl rfl ?_
      refine SOps.move rfl ?_
      refine SOps.skip rfl ?_
      refine SOps.skip rfl ?_
      refine SOps.pick rfl rfl ?_
      refine SOps.move rfl ?_
      refine SOps.skip rfl ?_
      refine SOps.skip rfl ?_
      refine SOps.skip rfl ?_
      refine SOps.skip rfl ?_
      refine SOps.pick rfl rfl ?_
      refine SOps.nil ?_
      refine SCode.cond rfl (fun _ => ?_) (fun h => by cases h)
      refine SCode.seqR ?_
      refine SOps.assign rfl ?_
      refine SOps.nil ?_
      refine SCode.ret ?_
      exact ⟨_, Res.one (.tmp rfl), congrArg (fun b => DV.v (.bool b)) (by first | (rw [finA_at, List.take_of_length_le (show (idxs a s).length ≤ i by omega), acceptsA, hpr, hax, hov, decide_eq_true (show a.length ≤ 65 by omega), decide_eq_true hwa]; rfl) | (simp_all [acceptsA]; done) | (rcases Classical.em (a.length ≤ 65) with h65 | h65 <;> rcases Classical.em (widthA x = a.length) with hw | hw <;> first | (exfalso; omega) | (simp_all [acceptsA]; done) | (simp_all [acceptsA]; omega))), rfl⟩
    · refine SOps.callP (aValid _) rfl ?_
      rintro _ rfl
      rw [if_neg hax]
      refine SOps.move rfl ?_
      refine SOps.extract rfl rfl ?_
      refine SOps.extract rfl rfl ?_
      refine SOps.assign rfl ?_
      refine SOps.assign rfl ?_
      refine SOps.nil ?_
      refine SCode.seq ?_
      refine SCode.seqR ?_
      refine SOps.move rfl ?_
      refine SOps.un rfl rfl ?_
      refine SOps.move rfl ?_
      refine SOps.skip rfl ?_
      refine SOps.skip rfl ?_
      refine SOps.pick rfl rfl ?_
      refine SOps.move rfl ?_
      refine SOps.skip rfl ?_
      refine SOps.skip rfl ?_
      refine SOps.skip rfl ?_
      refine SOps.skip rfl ?_
      refine SOps.pick rfl rfl ?_
      refine SOps.nil ?_
      refine SCode.cond rfl (fun _ => ?_) (fun h => by cases h)
      refine SCode.seqR ?_
      refine SOps.assign rfl ?_
      refine SOps.nil ?_
      refine SCode.ret ?_
      exact ⟨_, Res.one (.tmp rfl), congrArg (fun b => DV.v (.bool b)) (by first | (rw [finA_at, List.take_of_length_le (show (idxs a s).length ≤ i by omega), acceptsA, hpr, hax, hov, decide_eq_true (show a.length ≤ 65 by omega), decide_eq_true hwa]; rfl) | (simp_all [acceptsA]; done) | (rcases Classical.em (a.length ≤ 65) with h65 | h65 <;> rcases Classical.em (widthA x = a.length) with hw | hw <;> first | (exfalso; omega) | (simp_all [acceptsA]; done) | (simp_all [acceptsA]; omega))), rfl⟩
end Go.GH
namespace Go.GH
open Go Go.Proofs
variable {E : Env}
theorem elemB_39_1_24 : elemB Tryd.prog 39 1 24 = true := by kernel_rfl
theorem elemB_60_1_1 : elemB Tryd.prog 60 1 1 = true := by kernel_rfl
theorem flatB_60 : flatB Tryd.prog 60 = true := by kernel_rfl
theorem mapB_62 : mapB Tryd.prog 62 60 3 (.int .u8) := ⟨by kernel_rfl, by kernel_rfl⟩
theorem oneB_26 : oneB Tryd.prog 26 = true := by kernel_rfl
theorem placesB_28 : placesB Tryd.prog 28 [(0, 1), (1, 1), (2, 1)] = true := by kernel_rfl
theorem sliceB_63_60_1 : sliceB Tryd.prog 63 60 1 = true := by kernel_rfl
theorem zeroIs_28 : zeroIs Tryd.prog 28 (.agg #[.int .i64 0, .slice none 0 0, .slice none 0 0]) := by unfold zeroIs; kernel_rfl
theorem zeroIs_39 : zeroIs Tryd.prog 39 (.slice none 0 0) := by unfold zeroIs; kernel_rfl
theorem zeroIs_60 : zeroIs Tryd.prog 60 (.int .u8 0) := by unfold zeroIs; kernel_rfl
def encQ (n : Nat) : List DV := [.v (.int .u8 (n : Int))]
def encRN (l : List Nat) : List DV := [DNats l]
def stepA (a : List Letter) (p : List Item) (q c : Nat) : Nat := stepN p (fun x => admF a x c) q
theorem rowR_set {done : List Nat} {m j n : Nat} (h : done.length = j) (hj : j < m) : (done ++ List.replicate (m - j) 0).set j n = done ++ [n] ++ List.replicate (m - (j + 1)) 0 := by
  have e : m - j = (m - (j + 1)) + 1 := by omega
  rw [List.set_append_right _ _ (by omega), e, List.replicate_succ, h, Nat.sub_self, List.set_cons_zero, List.append_assoc]
  rfl
def accQ (a : List Letter) (p : List Item) : List Bool × List (List Nat) := accF (stepA a p) (fun q => q.testBit p.length) a.length 257 0 [closedN p 1] [] []
def accR (a : List Letter) (p : List Item) : Acc := ⟨0, (accQ a p).1, (accQ a p).2.map (fun l => l.map (fun (n : Nat) => (n : Int)))⟩
theorem encRI_cast (l : List Nat) : encRI (l.map (fun (n : Nat) => (n : Int))) = encRN l := by
  show [DInts _] = [DNats _]
  unfold DInts DNats
  rw [List.map_map]
  rfl
theorem DTab_cast (t : List (List Nat)) : DTab (t.map (fun l => l.map (fun (n : Nat) => (n : Int)))) = .isl false 1 (t.map encRN) := by
  show DV.isl false 1 _ = _
  rw [List.map_map]
  congr 1
  exact List.map_congr_left (fun l _ => encRI_cast l)
theorem aAcceptor (hV : VS E) (a : List Letter) (p : List Item) (hp : ∀ x ∈ p, x.lets.size ≤ 1048576) : GCall Tryd.prog E 13 [DLs a, DIts p] [] (fun d H => d = (if validPat a p then .tup [.agg (encAcc (accR a p)), .v (.int .i64 0)] else .tup [.agg [.v (.int .i64 0), .v (.slice none 0 0), .v (.slice none 0 0)], .v (.int .i64 1)])) := by
  refine GCall.body (C := ⟨Tryd.prog, E, true⟩) Tryd.func13 rfl (fun _ => rfl) (by kernel_rfl) rfl ?_
  refine SCode.seqR ?_
  refine SOps.alloc (sz := 3) zeroIs_28 (fun b0 hb_0 => ?_)
  refine SOps.assign rfl ?_
  refine SOps.nil ?_
  refine SCode.seq ?_
  refine SCode.seqR ?_
  refine SOps.move rfl ?_
  refine SOps.move rfl ?_
  refine SOps.callP (pValid hV _ _ hp) rfl ?_
  rintro _ rfl
  refine SOps.un rfl rfl ?_
  refine SOps.nil ?_
  refine SCode.cond rfl (fun hc1 => ?_) (fun hc1 => ?_)
  · try simp only [decide_eq_true_eq, decide_eq_false_iff_not, Bool.not_eq_true', Bool.not_eq_false', beq_iff_eq, bne_iff_ne, ne_eq, beq_eq_false_iff_ne, bne_eq_false_iff_eq, Int.not_lt, Int.not_le, Nat.not_lt, Nat.not_le, Int.ofNat_lt, Int.ofNat_le, Bool.not_eq_eq_eq_not, Bool.not_true, Bool.not_false] at hc1
    refine SCode.seqR ?_
    refine SOps.buildM placesB_28 zeroIs_28 rfl rfl ?_
    refine SOps.storeAM 0 rfl rfl aggB_28_3 rfl ?_
    refine SOps.assign rfl ?_
    refine SOps.nil ?_
    refine SCode.ret ?_
    exact ⟨_, Res.two (.agg (i := 0) (k := 0) (j := 0) rfl aggB_28_3 rfl rfl rfl (Nat.le_of_ble_eq_true rfl)) (.tmp rfl), (by rw [if_neg (by simp_all)]; rfl)⟩
  · try simp only [decide_eq_true_eq, decide_eq_false_iff_not, Bool.not_eq_true', Bool.not_eq_false', beq_iff_eq, bne_iff_ne, ne_eq, beq_eq_false_iff_ne, bne_eq_false_iff_eq, Int.not_lt, Int.not_le, Nat.not_lt, Nat.not_le, Int.ofNat_lt, Int.ofNat_le, Bool.not_eq_eq_eq_not, Bool.not_true, Bool.not_false] at hc1
    have hvl := validPat_len hc1
    refine SCode.skip ?_
    show SCode _ _ _ _
    refine SCode.seqR ?_
    refine SOps.move rfl ?_
    refine SOps.move rfl ?_
    refine SOps.callP (pMachine _ _ (by omega) (by omega)) rfl ?_
    rintro _ rfl
    refine SOps.assign rfl ?_
    refine SOps.nil ?_
    refine SCode.seqR ?_
    refine SOps.move rfl ?_
    refine SOps.callP (pClosed _ 1 (by omega) (by decide)) rfl ?_
    rintro _ rfl
    refine SOps.assign rfl ?_
    refine SOps.nil ?_
    refine SCode.seqR ?_
    refine SOps.makeMap0 (fun b1 hb_1 => ?_)
    refine SOps.move rfl ?_
    refine SOps.insert 0 rfl rfl rfl rfl mapB_62 rfl (fun p hp => by cases hp) ?_
    refine SOps.move rfl ?_
    refine SOps.assign rfl ?_
    refine SOps.nil ?_
    refine SCode.seqR ?_
    refine SOps.move rfl ?_
    refine SOps.litO sliceB_63_60_1 zeroIs_60 rfl (fun b2 hb_2 => ?_)
    refine SOps.assign rfl ?_
    refine SOps.nil ?_
    refine SCode.seqR ?_
    refine SOps.alloc (sz := 3) zeroIs_28 (fun b3 hb_3 => ?_)
    refine SOps.nil ?_
    refine SCode.seq ?_
    refine SCode.seqR ?_
    refine SOps.assign rfl ?_
    refine SOps.nil ?_
    refine SCode.block ?_
    refine SCode.loop8 (fun (i : Nat) (qs : List Nat) (es : List (Value × DV)) (kq : Nat) (fins : List Bool) (kf : Nat) (nxt : List (List Nat)) (kn : Nat) => (⟨96, [(0, DLs a), (1, DIts p), (4, .ref b0 0), (6, .fn 57 [.ipin [DIts p], .ipin [DTbl (tbl a p)]]), (8, .mp b1), (9, .sl kq 1 0 qs.length), (10, .ref b3 0), (11, .v (.int .i64 (i : Int)))], [(b3, .row 28 3 [[.v (.int .i64 0), accD 1 kf (fins.map encB), accD 1 kn (nxt.map encRN)]]), (kq, .row 60 1 (qs.map encQ)), (b1, .map es), (b0, .row 28 3 [[.v (.int .i64 0), .v (.slice none 0 0), .v (.slice none 0 0)]])] ++ (accH 4 1 kf (fins.map encB) ++ (accH 39 1 kn (nxt.map encRN) ++ []))⟩ : St)) (fun (i : Nat) (qs : List Nat) (es : List (Value × DV)) (kq : Nat) (fins : List Bool) (kf : Nat) (nxt : List (List Nat)) (kn : Nat) => i ≤ qs.length ∧ 0 < qs.length ∧ QsOK qs ∧ MapOK es qs ∧ fins.length = i ∧ nxt.length = i ∧ accF (stepA a p) (fun q => q.testBit p.length) a.length (257 - i) i qs fins nxt = accF (stepA a p) (fun q => q.testBit p.length) a.length 257 0 [closedN p 1] [] []) (fun (i : Nat) (qs : List Nat) (es : List (Value × DV)) (kq : Nat) (fins : List Bool) (kf : Nat) (nxt : List (List Nat)) (kn : Nat) => 256 - i) (0) ([closedN p 1]) (updL [] (.int .u8 ((closedN p 1 : Nat) : Int)) (.v (.int .i64 0))) (b2) ([]) (0) ([]) (0) (by exact ⟨Nat.zero_le _, Nat.one_pos, ⟨by simp, fun q hq => by rw [List.mem_singleton] at hq; subst hq; exact closedN_lt (by omega) (by decide)⟩, MapOK.one _, rfl, rfl, rfl⟩) (St.Le.of ⟨(by first | rfl | (show some _ = some _; simp)), (by first | rfl | (show some _ = some _; simp)), (by first | rfl | (show some _ = some _; simp)), (by first | rfl | (show some _ = some _; simp)), (by first | rfl | (show some _ = some _; simp)), (by first | rfl | (show some _ = some _; simp)), (by first | rfl | (show some _ = some _; simp)), (by first | rfl | (show some _ = some _; simp)), trivial⟩ rfl (by first | rfl | (simp))) ?_
    rintro i qs es kq fins kf nxt kn ⟨hi, hqp, hqo, hmo, hfl, hnl, hacc⟩
    have hql := hqo.len
    refine SCode.seq ?_
    refine SCode.seqR ?_
    refine SOps.move rfl ?_
    refine SOps.move rfl ?_
    refine SOps.lenSl rfl sliceB_63_60_1 ?_
    refine SOps.bin rfl rfl rfl ?_
    refine SOps.nil ?_
    refine SCode.cond rfl (fun hc2 => ?_) (fun hc2 => ?_)
    · try simp only [decide_eq_true_eq, decide_eq_false_iff_not, Bool.not_eq_true', Bool.not_eq_false', beq_iff_eq, bne_iff_ne, ne_eq, beq_eq_false_iff_ne, bne_eq_false_iff_eq, Int.not_lt, Int.not_le, Nat.not_lt, Nat.not_le, Int.ofNat_lt, Int.ofNat_le, Bool.not_eq_eq_eq_not, Bool.not_true, Bool.not_false] at hc2
      refine SCode.skip ?_
      show SCode _ _ _ _
      refine SCode.seq ?_
      refine SCode.block ?_
      refine SCode.seqR ?_
      refine SOps.move rfl ?_
      refine SOps.lenM rfl sliceB_22_69_2 ?_
      refine SOps.makeK (f := encN) (a.length) (0) sliceB_39_3_1 elemB_3_1_8 zeroIs_3 rfl rfl (by first | omega | (simp only [lenB]; omega)) (by first | omega | (simp only [lenB]; omega)) rfl (by first | omega | (simp only [lenB]; omega)) (by simp only [lenB]; omega) (fun b4 hb_4 => ?_)
      refine SOps.assign rfl ?_
      refine SOps.nil ?_
      refine SCode.seq ?_
      refine SCode.seqR ?_
      refine SOps.move rfl ?_
      refine SOps.lenM rfl sliceB_22_69_2 ?_
      refine SOps.move rfl ?_
      refine SOps.nil ?_
      refine SCode.block ?_
      have hi7 : i < qs.length := by omega
      refine SCode.loop5 (fun (j : Nat) (q2 : List Nat) (done : List Nat) (es2 : List (Value × DV)) (kq2 : Nat) => (⟨96, [(0, DLs a), (1, DIts p), (4, .ref b0 0), (6, .fn 57 [.ipin [DIts p], .ipin [DTbl (tbl a p)]]), (8, .mp b1), (9, .sl kq2 1 0 q2.length), (10, .ref b3 0), (11, .v (.int .i64 (i : Int))), (12, .sl b4 1 0 a.length), (42, .v (.int .i64 ((a.length : Nat) : Int))), (43, .v (.int .i64 (j : Int)))], [(b4, .row 3 1 ((done ++ List.replicate (a.length - j) 0).map encN))] ++ ([(b3, .row 28 3 [[.v (.int .i64 0), accD 1 kf (fins.map encB), accD 1 kn (nxt.map encRN)]]), (kq2, .row 60 1 (q2.map encQ)), (b1, .map es2), (b0, .row 28 3 [[.v (.int .i64 0), .v (.slice none 0 0), .v (.slice none 0 0)]])] ++ (accH 4 1 kf (fins.map encB) ++ (accH 39 1 kn (nxt.map encRN) ++ [])))⟩ : St)) (fun (j : Nat) (q2 : List Nat) (done : List Nat) (es2 : List (Value × DV)) (kq2 : Nat) => ∃ (hi2 : i < q2.length), q2[i] = qs[i] ∧ j ≤ a.length ∧ done.length = j ∧ QsOK q2 ∧ MapOK es2 q2 ∧ rowF (stepA a p (qs[i])) (List.range' j (a.length - j)) q2 done = rowF (stepA a p (qs[i])) (List.range a.length) qs []) (fun (j : Nat) (q2 : List Nat) (done : List Nat) (es2 : List (Value × DV)) (kq2 : Nat) => a.length - j) (0) (qs) ([]) (es) (kq) (by exact ⟨hi7, rfl, Nat.zero_le _, rfl, hqo, hmo, by rw [Nat.sub_zero, List.range_eq_range']⟩) (St.Le.of ⟨(by first | rfl | (show some _ = some _; simp)), (by first | rfl | (show some _ = some _; simp)), (by first | rfl | (show some _ = some _; simp)), (by first | rfl | (show some _ = some _; simp)), (by first | rfl | (show some _ = some _; simp)), (by first | rfl | (show some _ = some _; simp)), (by first | rfl | (show some _ = some _; simp)), (by first | rfl | (show some _ = some _; simp)), (by first | rfl | (show some _ = some _; simp)), (by first | rfl | (show some _ = some _; simp)), (by first | rfl | (show some _ = some _; simp)), trivial⟩ rfl (by first | rfl | (simp))) ?_
      rintro j q2 done es2 kq2 ⟨hi2, hqe, hj, hdl, hqk, hmk, hrw⟩
      have hql2 := hqk.len
      refine SCode.seqR ?_
      refine SOps.bin rfl rfl rfl ?_
      refine SOps.nil ?_
      refine SCode.seq ?_
      refine SCode.cond rfl (fun hc3 => ?_) (fun hc3 => ?_)
      · try simp only [decide_eq_true_eq, decide_eq_false_iff_not, Bool.not_eq_true', Bool.not_eq_false', beq_iff_eq, bne_iff_ne, ne_eq, beq_eq_false_iff_ne, bne_eq_false_iff_eq, Int.not_lt, Int.not_le, Nat.not_lt, Nat.not_le, Int.ofNat_lt, Int.ofNat_le, Bool.not_eq_eq_eq_not, Bool.not_true, Bool.not_false] at hc3
        refine SCode.skip ?_
        show SCode _ _ _ _
        refine SCode.seq ?_
        refine SCode.block ?_
        refine SCode.seqR ?_
        refine SOps.move rfl ?_
        refine SOps.assign rfl ?_
        refine SOps.nil ?_
        refine SCode.seqR ?_
        have hrr : List.range' j (a.length - j) = j :: List.range' (j + 1) (a.length - (j + 1)) := by rw [show a.length - j = (a.length - (j + 1)) + 1 by omega, List.range'_succ]
        have hja : j < a.length := by omega
        have hq8 : q2[i] < 256 := hqk.small _ (List.getElem_mem hi2)
        refine SOps.move rfl ?_
        refine SOps.move rfl ?_
        refine SOps.move rfl ?_
        refine SOps.indexS (i) rfl rfl sliceB_63_60_1 (by first | omega | (simp only [lenB]; omega)) (by first | omega | (simp only [lenB]; omega)) ?_
        refine SOps.loadK 2 (i) rfl flatB_60 rfl (by first | omega | (simp only [lenB]; omega)) (by first | omega | (simp; omega)) rfl ?_
        refine SOps.move rfl ?_
        refine SOps.callFn (ds := [_, _]) rfl (pNext a p (q2[i]) j (by omega) hq8 hja) rfl ?_
        rintro _ _ ⟨rfl, rfl⟩
        refine SOps.assign rfl ?_
        refine SOps.nil ?_
        refine SCode.seqR ?_
        refine SOps.move rfl ?_
        refine SOps.move rfl ?_
        refine SOps.lookupOM 3 (idxN q2 (stepA a p (q2[i]) j)) (fun i => DV.v (.int .i64 ((i : Nat) : Int))) rfl rfl rfl mapB_62 (hmk.keys) zeroIs_3 (hmk.look _) (fun y4 hy4 => ?_) (fun hy4 => ?_)
        · refine SOps.move rfl ?_
          refine SOps.extract rfl rfl ?_
          refine SOps.extract rfl rfl ?_
          refine SOps.assign rfl ?_
          refine SOps.assign rfl ?_
          refine SOps.nil ?_
          refine SCode.seq ?_
          refine SCode.seqR ?_
          refine SOps.move rfl ?_
          refine SOps.un rfl rfl ?_
          refine SOps.nil ?_
          refine SCode.cond rfl (fun h => by cases h) (fun _ => ?_)
          refine SCode.skip ?_
          show SCode _ _ _ _
          refine SCode.region ?_
          refine SOps.move rfl ?_
          refine SOps.move rfl ?_
          refine SOps.move rfl ?_
          refine SOps.indexS (j) rfl rfl sliceB_39_3_1 (by first | omega | (simp only [lenB]; omega)) (by first | omega | (simp only [lenB]; omega)) ?_
          refine SOps.storeK 0 (j) rfl rfl oneB_3 rfl (by first | omega | (simp only [lenB]; omega)) (by first | omega | (simp; omega)) rfl (fun _ => rfl) ?_
          refine SOps.nil ?_
          show SCode _ _ _ _
          refine SCode.region ?_
          refine SOps.addI rfl rfl (by first | omega | (simp only [lenB]; omega)) (by first | omega | (simp only [lenB]; omega)) ?_
          refine SOps.move rfl ?_
          refine SOps.nil ?_
          first
            | exact ⟨j + 1, q2, done ++ [y4], es2, kq2, ⟨hi2, hqe, by omega, by simp [hdl], hqk, hmk, by rw [← hrw, hrr, rowF_some (by rw [← hqe]; exact hy4)]⟩, by omega, St.Le.of ⟨rfl, rfl, rfl, rfl, rfl, rfl, rfl, rfl, rfl, rfl, rfl, trivial⟩ rfl (by rw [← rowR_set hdl hja]; rfl)⟩
            | exact ⟨j + 1, q2 ++ [stepA a p (q2[i]) j], done ++ [q2.length], updL es2 (.int .u8 ((stepA a p (q2[i]) j : Nat) : Int)) (.v (.int .i64 ((q2.length : Nat) : Int))), b5, ⟨by simp; omega, by rw [List.getElem_append_left hi2]; exact hqe, by omega, by simp [hdl], hqk.add hy4 (stepN_lt _ (by omega)), hmk.add hy4, by rw [← hrw, hrr, rowF_none (by rw [← hqe]; exact hy4), hqe]⟩, by omega, St.Le.of ⟨rfl, rfl, rfl, rfl, rfl, (by show some _ = some _; simp), rfl, rfl, rfl, rfl, rfl, trivial⟩ rfl (by rw [← rowR_set hdl hja, List.map_append]; rfl)⟩
        · refine SOps.move rfl ?_
          refine SOps.extract rfl rfl ?_
          refine SOps.extract rfl rfl ?_
          refine SOps.assign rfl ?_
          refine SOps.assign rfl ?_
          refine SOps.nil ?_
          refine SCode.seq ?_
          refine SCode.seqR ?_
          refine SOps.move rfl ?_
          refine SOps.un rfl rfl ?_
          refine SOps.nil ?_
          refine SCode.cond rfl (fun _ => ?_) (fun h => by cases h)
          refine SCode.seqR ?_
          refine SOps.move rfl ?_
          refine SOps.lenSl rfl sliceB_63_60_1 ?_
          refine SOps.assign rfl ?_
          refine SOps.nil ?_
          refine SCode.seqR ?_
          refine SOps.move rfl ?_
          refine SOps.move rfl ?_
          refine SOps.move rfl ?_
          refine SOps.mapUpdate 3 rfl rfl rfl rfl mapB_62 rfl (hmk.keys) ?_
          refine SOps.nil ?_
          refine SCode.region ?_
          refine SOps.move rfl ?_
          refine SOps.move rfl ?_
          refine SOps.litF rfl sliceB_63_60_1 zeroIs_60 rfl ?_
          refine SOps.appendOwn 2 sliceB_63_60_1 elemB_60_1_1 rfl rfl rfl (by simp) SrcD.isl (by simp) (by first | (simp [lenB] <;> (first | omega | (simp only [lenB]; omega))) | (simp only [lenB]; (first | omega | (simp only [lenB]; omega)))) (by first | (simp <;> (first | omega | (simp only [lenB]; omega))) | (first | omega | (simp only [lenB]; omega))) (fun b5 hb_5 => ?_)
          refine SOps.assign rfl ?_
          refine SOps.nil ?_
          show SCode _ _ _ _
          refine SCode.region ?_
          refine SOps.move rfl ?_
          refine SOps.move rfl ?_
          refine SOps.move rfl ?_
          refine SOps.indexS (j) rfl rfl sliceB_39_3_1 (by first | omega | (simp only [lenB]; omega)) (by first | omega | (simp only [lenB]; omega)) ?_
          refine SOps.storeK 0 (j) rfl rfl oneB_3 rfl (by first | omega | (simp only [lenB]; omega)) (by first | omega | (simp; omega)) rfl (fun _ => rfl) ?_
          refine SOps.nil ?_
          show SCode _ _ _ _
          refine SCode.region ?_
          refine SOps.addI rfl rfl (by first | omega | (simp only [lenB]; omega)) (by first | omega | (simp only [lenB]; omega)) ?_
          refine SOps.move rfl ?_
          refine SOps.nil ?_
          first
            | exact ⟨j + 1, q2, done ++ [y4], es2, kq2, ⟨hi2, hqe, by omega, by simp [hdl], hqk, hmk, by rw [← hrw, hrr, rowF_some (by rw [← hqe]; exact hy4)]⟩, by omega, St.Le.of ⟨rfl, rfl, rfl, rfl, rfl, rfl, rfl, rfl, rfl, rfl, rfl, trivial⟩ rfl (by rw [← rowR_set hdl hja]; rfl)⟩
            | exact ⟨j + 1, q2 ++ [stepA a p (q2[i]) j], done ++ [q2.length], updL es2 (.int .u8 ((stepA a p (q2[i]) j : Nat) : Int)) (.v (.int .i64 ((q2.length : Nat) : Int))), b5, ⟨by simp; omega, by rw [List.getElem_append_left hi2]; exact hqe, by omega, by simp [hdl], hqk.add hy4 (stepN_lt _ (by omega)), hmk.add hy4, by rw [← hrw, hrr, rowF_none (by rw [← hqe]; exact hy4), hqe]⟩, by omega, St.Le.of ⟨rfl, rfl, rfl, rfl, rfl, (by show some _ = some _; simp), rfl, rfl, rfl, rfl, rfl, trivial⟩ rfl (by rw [← rowR_set hdl hja, List.map_append]; rfl)⟩
      · try simp only [decide_eq_true_eq, decide_eq_false_iff_not, Bool.not_eq_true', Bool.not_eq_false', beq_iff_eq, bne_iff_ne, ne_eq, beq_eq_false_iff_ne, bne_eq_false_iff_eq, Int.not_lt, Int.not_le, Nat.not_lt, Nat.not_le, Int.ofNat_lt, Int.ofNat_le, Bool.not_eq_eq_eq_not, Bool.not_true, Bool.not_false] at hc3
        refine SCode.exit ?_
        show SCode _ _ _ _
        refine SCode.seq ?_
        obtain rfl : j = a.length := by omega
        have hqi8 : q2[i] < 256 := hqk.small _ (List.getElem_mem hi2)
        have hsh8 : q2[i] >>> p.length < 256 := Nat.lt_of_le_of_lt (by rw [Nat.shiftRight_eq_div_pow]; exact Nat.div_le_self ..) hqi8
        refine SCode.weaken (st' := (⟨96, [(0, DLs a), (1, DIts p), (4, .ref b0 0), (6, .fn 57 [.ipin [DIts p], .ipin [DTbl (tbl a p)]]), (8, .mp b1), (9, .sl kq2 1 0 q2.length), (10, .ref b3 0), (11, .v (.int .i64 (i : Int))), (12, .sl b4 1 0 a.length)], [(b4, .row 3 1 ((done ++ List.replicate (a.length - a.length) 0).map encN))] ++ ([(b3, .row 28 3 [[.v (.int .i64 0), accD 1 kf (fins.map encB), accD 1 kn (nxt.map encRN)]]), (kq2, .row 60 1 (q2.map encQ)), (b1, .map es2), (b0, .row 28 3 [[.v (.int .i64 0), .v (.slice none 0 0), .v (.slice none 0 0)]])] ++ (accH 4 1 kf (fins.map encB) ++ (accH 39 1 kn (nxt.map encRN) ++ [])))⟩ : St)) (St.Le.of ⟨rfl, rfl, rfl, rfl, rfl, rfl, rfl, rfl, rfl, trivial⟩) ?_
        refine SCode.drawMix 16 [12, 13, 14] mixed_ [fun b => some (75, .ref b3 (0 + 1)), fun b => some (76, accD 1 kf (fins.map encB)), fun b => some (77, .sl kq2 1 0 q2.length), fun b => some (78, .v (.int .i64 (i : Int))), fun b => some (79, .ref kq2 ((0 + i) * 1)), fun b => some (80, .v (.int .u8 ((q2[i] : Nat) : Int))), fun b => some (81, DIts p), fun b => some (82, .v (.int .i64 ((p.length : Nat) : Int))), fun b => some (83, .v (.int .u8 ((q2[i] >>> p.length : Nat) : Int))), fun b => some (84, .v (.int .u8 ((q2[i] >>> p.length &&& 1 : Nat) : Int))), fun b => some (85, .v (.bool ((q2[i]).testBit p.length))), fun b => some (86, .isl false 1 [[.v (.bool ((q2[i]).testBit p.length))]]), fun b => some (87, accD 1 b (fins.map encB ++ [[.v (.bool ((q2[i]).testBit p.length))]])), fun b => some (88, .ref b3 (0 + 1)), fun b => none] [some 75, some 76, some 77, some 78, some 79, some 80, some 81, some 82, some 83, some 84, some 85, some 86, some 87, some 88, none] [[.inr 10], [.inl 0], [.inr 9], [.inr 11], [.inl 2, .inl 3], [.inl 4], [.inr 1], [.inl 6], [.inl 5, .inl 7], [.inl 8], [.inl 9], [.inl 10], [.inl 1, .inl 11], [.inr 10], [.inl 13, .inl 12]] [fun b => [(10, .ref b3 0)], fun b => [(75, .ref b3 (0 + 1))], fun b => [(9, .sl kq2 1 0 q2.length)], fun b => [(11, .v (.int .i64 (i : Int)))], fun b => [(77, .sl kq2 1 0 q2.length), (78, .v (.int .i64 (i : Int)))], fun b => [(79, .ref kq2 ((0 + i) * 1))], fun b => [(1, DIts p)], fun b => [(81, DIts p)], fun b => [(80, .v (.int .u8 ((q2[i] : Nat) : Int))), (82, .v (.int .i64 ((p.length : Nat) : Int)))], fun b => [(83, .v (.int .u8 ((q2[i] >>> p.length : Nat) : Int)))], fun b => [(84, .v (.int .u8 ((q2[i] >>> p.length &&& 1 : Nat) : Int)))], fun b => [(85, .v (.bool ((q2[i]).testBit p.length)))], fun b => [(76, accD 1 kf (fins.map encB)), (86, .isl false 1 [[.v (.bool ((q2[i]).testBit p.length))]])], fun b => [(10, .ref b3 0)], fun b => [(88, .ref b3 (0 + 1)), (87, accD 1 b (fins.map encB ++ [[.v (.bool ((q2[i]).testBit p.length))]]))]] (fun b c => match c with | 0 => [(b4, .row 3 1 ((done ++ List.replicate (a.length - a.length) 0).map encN))] ++ ([(b3, .row 28 3 [[.v (.int .i64 0), accD 1 kf (fins.map encB), accD 1 kn (nxt.map encRN)]]), (kq2, .row 60 1 (q2.map encQ)), (b1, .map es2), (b0, .row 28 3 [[.v (.int .i64 0), .v (.slice none 0 0), .v (.slice none 0 0)]])] ++ (accH 4 1 kf (fins.map encB) ++ (accH 39 1 kn (nxt.map encRN) ++ []))) | 1 => [(b4, .row 3 1 ((done ++ List.replicate (a.length - a.length) 0).map encN))] ++ ([(b3, .row 28 3 [[.v (.int .i64 0), accD 1 kf (fins.map encB), accD 1 kn (nxt.map encRN)]]), (kq2, .row 60 1 (q2.map encQ)), (b1, .map es2), (b0, .row 28 3 [[.v (.int .i64 0), .v (.slice none 0 0), .v (.slice none 0 0)]])] ++ (accH 4 1 b (fins.map encB ++ [[.v (.bool ((q2[i]).testBit p.length))]]) ++ (accH 39 1 kn (nxt.map encRN) ++ []))) | 2 => [(b4, .row 3 1 ((done ++ List.replicate (a.length - a.length) 0).map encN))] ++ ([(b3, .row 28 3 [[.v (.int .i64 0), accD 1 kf (fins.map encB), accD 1 kn (nxt.map encRN)]]), (kq2, .row 60 1 (q2.map encQ)), (b1, .map es2), (b0, .row 28 3 [[.v (.int .i64 0), .v (.slice none 0 0), .v (.slice none 0 0)]])] ++ (accH 4 1 b (fins.map encB ++ [[.v (.bool ((q2[i]).testBit p.length))]]) ++ (accH 39 1 kn (nxt.map encRN) ++ []))) | _ => [(b4, .row 3 1 ((done ++ List.replicate (a.length - a.length) 0).map encN))] ++ ([(b3, .row 28 3 [[.v (.int .i64 0), accD 1 b (fins.map encB ++ [[.v (.bool ((q2[i]).testBit p.length))]]), accD 1 kn (nxt.map encRN)]]), (kq2, .row 60 1 (q2.map encQ)), (b1, .map es2), (b0, .row 28 3 [[.v (.int .i64 0), .v (.slice none 0 0), .v (.slice none 0 0)]])] ++ (accH 4 1 b (fins.map encB ++ [[.v (.bool ((q2[i]).testBit p.length))]]) ++ (accH 39 1 kn (nxt.map encRN) ++ [])))) [(false, false, [0]), (false, false, [0]), (false, false, [0]), (false, false, [0]), (false, false, [0]), (false, false, [0]), (false, false, [0]), (false, false, [0]), (false, false, [0]), (false, false, [0]), (false, false, [0]), (false, false, [0]), (true, true, [0]), (true, false, [1]), (true, false, [2])] (by kernel_rfl) (fun _ => rfl) rfl (fun _ => rfl) (fun _ => rfl) (cohOne 12 rfl (fun j r hj => by match j, hj with | 0, hj => exact .inl (by simp at hj; subst hj; intros; rfl) | 1, hj => exact .inl (by simp at hj; subst hj; intros; rfl) | 2, hj => exact .inl (by simp at hj; subst hj; intros; rfl) | 3, hj => exact .inl (by simp at hj; subst hj; intros; rfl) | 4, hj => exact .inl (by simp at hj; subst hj; intros; rfl) | 5, hj => exact .inl (by simp at hj; subst hj; intros; rfl) | 6, hj => exact .inl (by simp at hj; subst hj; intros; rfl) | 7, hj => exact .inl (by simp at hj; subst hj; intros; rfl) | 8, hj => exact .inl (by simp at hj; subst hj; intros; rfl) | 9, hj => exact .inl (by simp at hj; subst hj; intros; rfl) | 10, hj => exact .inl (by simp at hj; subst hj; intros; rfl) | 11, hj => exact .inl (by simp at hj; subst hj; intros; rfl) | 12, hj => exact .inr (.inl rfl) | 13, hj => exact .inl (by simp at hj; subst hj; intros; rfl) | 14, hj => exact .inl (by simp at hj; subst hj; intros; rfl) | q + 15, hj => simp at hj)) ?_ ?_
        · refine MixOk.cons ?_ ?_
          · refine StgOk.cons (fun b rest => ?_) ?_
            · refine SOps.fieldRef rfl fieldB_28_1_1 ?_
              exact SOps.nil ⟨b, fun _ => rfl, by first | rfl | simp_all⟩
            exact StgOk.nil
          refine MixOk.cons ?_ ?_
          · refine StgOk.cons (fun b rest => ?_) ?_
            · refine SOps.loadRef 1 0 1 rfl flatB_25 rfl rfl rfl rfl ?_
              exact SOps.nil ⟨b, fun _ => rfl, by first | rfl | simp_all⟩
            exact StgOk.nil
          refine MixOk.cons ?_ ?_
          · refine StgOk.cons (fun b rest => ?_) ?_
            · refine SOps.move rfl ?_
              exact SOps.nil ⟨b, fun _ => rfl, by first | rfl | simp_all⟩
            exact StgOk.nil
          refine MixOk.cons ?_ ?_
          · refine StgOk.cons (fun b rest => ?_) ?_
            · refine SOps.move rfl ?_
              exact SOps.nil ⟨b, fun _ => rfl, by first | rfl | simp_all⟩
            exact StgOk.nil
          refine MixOk.cons ?_ ?_
          · refine StgOk.cons (fun b rest => ?_) ?_
            · refine SOps.indexS (i) rfl rfl sliceB_63_60_1 (by first | omega | (simp only [lenB]; omega)) (by first | omega | (simp only [lenB]; omega)) ?_
              exact SOps.nil ⟨b, fun _ => rfl, by first | rfl | simp_all⟩
            exact StgOk.nil
          refine MixOk.cons ?_ ?_
          · refine StgOk.cons (fun b rest => ?_) ?_
            · refine SOps.loadK 2 (i) rfl flatB_60 rfl (by first | omega | (simp only [lenB]; omega)) (by first | omega | (simp; omega)) rfl ?_
              exact SOps.nil ⟨b, fun _ => rfl, by first | rfl | simp_all⟩
            exact StgOk.nil
          refine MixOk.cons ?_ ?_
          · refine StgOk.cons (fun b rest => ?_) ?_
            · refine SOps.move rfl ?_
              exact SOps.nil ⟨b, fun _ => rfl, by first | rfl | simp_all⟩
            exact StgOk.nil
          refine MixOk.cons ?_ ?_
          · refine StgOk.cons (fun b rest => ?_) ?_
            · refine SOps.lenM rfl sliceB_23_56_4 ?_
              exact SOps.nil ⟨b, fun _ => rfl, by first | rfl | simp_all⟩
            exact StgOk.nil
          refine MixOk.cons ?_ ?_
          · refine StgOk.cons (fun b rest => ?_) ?_
            · refine SOps.shrN (k := p.length) rfl rfl (by first | omega | (simp only [lenB]; omega)) (by first | omega | (simp only [lenB]; omega)) (by first | omega | (simp only [lenB]; omega)) ?_
              exact SOps.nil ⟨b, fun _ => rfl, by first | rfl | simp_all⟩
            exact StgOk.nil
          refine MixOk.cons ?_ ?_
          · refine StgOk.cons (fun b rest => ?_) ?_
            · refine SOps.andN (y := 1) rfl rfl (by first | omega | (simp only [lenB]; omega)) (by first | omega | (simp only [lenB]; omega)) ?_
              exact SOps.nil ⟨b, fun _ => rfl, by first | rfl | simp_all⟩
            exact StgOk.nil
          refine MixOk.cons ?_ ?_
          · refine StgOk.cons (fun b rest => ?_) ?_
            · refine SOps.bin rfl rfl rfl ?_
              exact SOps.nil ⟨b, fun _ => rfl, (show _ = _ from congrArg (fun b => St.put _ 85 (.v (.bool b))) (by rw [Bool.eq_iff_iff, beq_iff_eq]; exact bit1i))⟩
            exact StgOk.nil
          refine MixOk.cons ?_ ?_
          · refine StgOk.cons (fun b rest => ?_) ?_
            · refine SOps.litF rfl sliceB_25_4_1 zeroIs_4 rfl ?_
              exact SOps.nil ⟨b, fun _ => rfl, by first | rfl | simp_all⟩
            exact StgOk.nil
          refine MixOk.cons ?_ ?_
          · refine StgOk.cons (fun b rest => ?_) ?_
            · refine SOps.appendAcc [_, _, _, _, _] _ sliceB_25_4_1 elemB_4_1_1 rfl rfl rfl SrcD.isl (by simp) (by first | (simp [lenB] <;> (first | omega | (simp only [lenB]; omega))) | (simp only [lenB]; (first | omega | (simp only [lenB]; omega)))) (by first | (simp <;> (first | omega | (simp only [lenB]; omega))) | (first | omega | (simp only [lenB]; omega))) (fun b6 => ?_)
              exact SOps.nil ⟨b6, (fun h => by cases h), rfl⟩
            exact StgOk.nil
          refine MixOk.cons ?_ ?_
          · refine StgOk.cons (fun b rest => ?_) ?_
            · refine SOps.fieldRef rfl fieldB_28_1_1 ?_
              exact SOps.nil ⟨b, fun _ => rfl, by first | rfl | simp_all⟩
            exact StgOk.nil
          refine MixOk.cons ?_ ?_
          · refine StgOk.cons (fun b rest => ?_) ?_
            · refine SOps.store 1 0 1 rfl rfl oneB_25 rfl rfl rfl (by decide) (by first | rfl | exact accD_one _ _ _) ?_
              exact SOps.nil ⟨b, fun _ => rfl, by first | rfl | simp_all⟩
            exact StgOk.nil
          exact MixOk.nil
        · intro kf2
          show SCode _ _ _ _
          refine SCode.region ?_
          refine SOps.freezeS (t := 12) 0 rfl rfl rfl (by simp; omega) ?_
          refine SOps.fieldRef rfl fieldB_28_2_2 ?_
          refine SOps.loadRef 0 0 2 rfl flatB_26 rfl rfl rfl rfl ?_
          refine SOps.move rfl ?_
          refine SOps.litF rfl sliceB_26_39_1 zeroIs_39 rfl ?_
          refine SOps.appendAcc ([_, _, _, _] ++ accH 4 1 kf2 _) [] sliceB_26_39_1 elemB_39_1_24 rfl rfl (by exact (List.append_assoc [_, _, _, _] _ _).symm) SrcD.isl (by simp) (by first | (simp [lenB] <;> (first | omega | (simp only [lenB]; omega))) | (simp only [lenB]; (first | omega | (simp only [lenB]; omega)))) (by first | (simp <;> (first | omega | (simp only [lenB]; omega))) | (first | omega | (simp only [lenB]; omega))) (fun b7 => ?_)
          refine SOps.fieldRef rfl fieldB_28_2_2 ?_
          refine SOps.store 0 0 2 rfl rfl oneB_26 rfl rfl rfl (by decide) (by first | rfl | exact accD_one _ _ _) ?_
          refine SOps.nil ?_
          show SCode _ _ _ _
          refine SCode.region ?_
          refine SOps.move rfl ?_
          refine SOps.addI rfl rfl (by first | omega | (simp only [lenB]; omega)) (by first | omega | (simp only [lenB]; omega)) ?_
          refine SOps.assign rfl ?_
          refine SOps.nil ?_
          have hrw3 : rowF (stepA a p (qs[i])) (List.range a.length) qs [] = (q2, done) := by rw [← hrw, Nat.sub_self]; rfl
          have hmF : (fins ++ [((q2[i]).testBit p.length)]).map encB = fins.map encB ++ [[.v (.bool ((q2[i]).testBit p.length))]] := by rw [List.map_append]; rfl
          have hmN : (nxt ++ [done]).map encRN = nxt.map encRN ++ [[.isl false 1 ((done ++ List.replicate (a.length - a.length) 0).map encN)]] := by rw [List.map_append, Nat.sub_self, List.replicate_zero, List.append_nil]; rfl
          exact ⟨i + 1, q2, es2, kq2, fins ++ [((q2[i]).testBit p.length)], kf2, nxt ++ [done], b7, ⟨by omega, by omega, hqk, hmk, by simp [hfl], by simp [hnl], by rw [← hacc, show 257 - i = (257 - (i + 1)) + 1 by omega, accF_some hi7, hrw3, hqe]⟩, by omega, St.Le.of ⟨rfl, rfl, rfl, rfl, rfl, rfl, rfl, rfl, trivial⟩ rfl (by rw [hmF, hmN]; exact (List.append_assoc [_, _, _, _] _ _))⟩
    · try simp only [decide_eq_true_eq, decide_eq_false_iff_not, Bool.not_eq_true', Bool.not_eq_false', beq_iff_eq, bne_iff_ne, ne_eq, beq_eq_false_iff_ne, bne_eq_false_iff_eq, Int.not_lt, Int.not_le, Nat.not_lt, Nat.not_le, Int.ofNat_lt, Int.ofNat_le, Bool.not_eq_eq_eq_not, Bool.not_true, Bool.not_false] at hc2
      refine SCode.exit ?_
      show SCode _ _ _ _
      refine SCode.seqR ?_
      obtain ⟨x1, f1, rfl⟩ := List.exists_cons_of_length_pos (l := fins) (by omega)
      obtain ⟨x2, f2, rfl⟩ := List.exists_cons_of_length_pos (l := nxt) (by omega)
      refine SOps.freezeIn 4 0 0 1 rfl rfl rfl rfl rfl ?_
      refine SOps.freezeIn 4 0 0 2 rfl rfl rfl rfl rfl ?_
      refine SOps.loadRefA 0 0 0 rfl aggB_28_3 rfl rfl rfl (Nat.le_of_ble_eq_true rfl) ?_
      refine SOps.storeAM 3 rfl rfl aggB_28_3 rfl ?_
      refine SOps.assign rfl ?_
      refine SOps.nil ?_
      refine SCode.ret ?_
      have hacc2 : accR a p = ⟨0, x1 :: f1, (x2 :: f2).map (fun l => l.map (fun (n : Nat) => (n : Int)))⟩ := by unfold accR accQ; rw [← hacc, accF_none (by omega)]
      exact ⟨_, Res.two (.agg (i := 3) (k := 0) (j := 0) rfl aggB_28_3 rfl rfl rfl (Nat.le_of_ble_eq_true rfl)) (.tmp rfl), (by rw [if_pos hc1, hacc2]; show _ = DV.tup [.agg [_, _, DTab ((x2 :: f2).map _)], _]; rw [DTab_cast]; rfl)⟩
end Go.GH
namespace Go.GH
open Go
variable {α β : Type}

def rowD (eq : α → α → Bool) (w : List Nat) : List α → Nat → List (α × List Nat) → List (α × List Nat)
  | [], _, qs => qs
  | t :: ts, c, qs => if qs.any (fun q => eq q.1 t) then rowD eq w ts (c + 1) qs else rowD eq w ts (c + 1) (qs ++ [(t, w ++ [c])])
def difE (eq : α → α → Bool) (nx : α → List α) (bad : α → Bool) : Nat → Nat → List (α × List Nat) → Option (List Nat)
  | 0, _, _ => none
  | f + 1, i, qs => match qs[i]? with
    | none => none
    | some q => if bad q.1 then some q.2 else difE eq nx bad f (i + 1) (rowD eq q.2 (nx q.1) 0 qs)
theorem difE_some {eq : α → α → Bool} {nx : α → List α} {bad : α → Bool} {f i : Nat} {qs : List (α × List Nat)} {q : α × List Nat} (h : qs[i]? = some q) :
    difE eq nx bad (f + 1) i qs = if bad q.1 then some q.2 else difE eq nx bad f (i + 1) (rowD eq q.2 (nx q.1) 0 qs) := by simp only [difE, h]
theorem difE_none {eq : α → α → Bool} {nx : α → List α} {bad : α → Bool} {i : Nat} {qs : List (α × List Nat)} (h : qs.length ≤ i) (f : Nat) : difE eq nx bad f i qs = none := by
  cases f with
  | zero => rfl
  | succ f => simp only [difE, List.getElem?_eq_none h]

/-! #### two searches that run alike -/
section
variable {r : α → β → Prop} {eq : α → α → Bool} {eq' : β → β → Bool}
abbrev relW (r : α → β → Prop) : α × List Nat → β × List Nat → Prop := fun x y => r x.1 y.1 ∧ x.2 = y.2
theorem any_sim (hr : ∀ a b a' b', r a b → r a' b' → eq a a' = eq' b b') {t : α} {t' : β} (ht : r t t') : ∀ {qs : List (α × List Nat)} {qs' : List (β × List Nat)}, Rel2 (relW r) qs qs' → qs.any (fun q => eq q.1 t) = qs'.any (fun q => eq' q.1 t')
  | _, _, .nil => rfl
  | _, _, .cons h g => by rw [List.any_cons, List.any_cons, hr _ _ _ _ h.1 ht, any_sim hr ht g]
theorem rowD_sim (hr : ∀ a b a' b', r a b → r a' b' → eq a a' = eq' b b') (w : List Nat) : ∀ {ts : List α} {ts' : List β}, Rel2 r ts ts' → ∀ (c : Nat) {qs : List (α × List Nat)} {qs' : List (β × List Nat)}, Rel2 (relW r) qs qs' → Rel2 (relW r) (rowD eq w ts c qs) (rowD eq' w ts' c qs')
  | _, _, .nil, _, _, _, hq => hq
  | _, _, .cons h g, c, qs, qs', hq => by
    unfold rowD
    rw [any_sim hr h hq]
    split
    · exact rowD_sim hr w g (c + 1) hq
    · exact rowD_sim hr w g (c + 1) (hq.snoc ⟨h, rfl⟩)
theorem difE_sim {nx : α → List α} {nx' : β → List β} {bad : α → Bool} {bad' : β → Bool} (hr : ∀ a b a' b', r a b → r a' b' → eq a a' = eq' b b') (hn : ∀ a b, r a b → Rel2 r (nx a) (nx' b)) (hf : ∀ a b, r a b → bad a = bad' b) :
    ∀ (f i : Nat) {qs : List (α × List Nat)} {qs' : List (β × List Nat)}, Rel2 (relW r) qs qs' → difE eq nx bad f i qs = difE eq' nx' bad' f i qs'
  | 0, _, _, _, _ => rfl
  | f + 1, i, qs, qs', h => by
    rcases h.get i with ⟨h1, h2⟩ | ⟨a, b, h1, h2, h3⟩
    · simp only [difE, h1, h2]
    · rw [difE_some h1, difE_some h2, hf _ _ h3.1, h3.2]
      split
      · rfl
      · exact difE_sim hr hn hf f (i + 1) (rowD_sim hr b.2 (hn _ _ h3.1) 0 h)
end

/-! #### the program's own search -/
structure Ent where
  l : Nat
  r : Nat
  fr : Int
  lt : Nat
def encP (e : Ent) : List DV := [.v (.int .u8 (e.l : Int)), .v (.int .u8 (e.r : Int)), .v (.int .i64 e.fr), .v (.int .i64 (e.lt : Int))]
abbrev Key := (Nat × Nat) × List Nat
def eqP (a b : Nat × Nat) : Bool := a == b
def nxP (a : List Letter) (p q : List Item) (k : Nat × Nat) : List (Nat × Nat) := (List.range a.length).map (fun c => (stepA a p k.1 c, stepA a q k.2 c))
def badP (p q : List Item) (k : Nat × Nat) : Bool := k.1.testBit p.length != k.2.testBit q.length
def startP (p q : List Item) : Nat × Nat := (closedN p 1, closedN q 1)
def difP (a : List Letter) (p q : List Item) : Option (List Nat) := difE eqP (nxP a p q) (badP p q) 65537 0 [(startP p q, [])]
def difR (a : List Letter) (p q : List Item) : Option (List Nat) := if validPat a p && validPat a q then difP a p q else none
def spellA (a : List Letter) (w : List Nat) : List Int := w.map (fun c => (atL a c).rune)
def tupW (a : List Letter) : Option (List Nat) → DV
  | none => .tup [.v (.string .empty), .v (.bool false)]
  | some w => .tup [.v (.string (encs (spellA a w))), .v (.bool true)]
theorem any_mem {qs : List Key} {t : Nat × Nat} : qs.any (fun q => eqP q.1 t) = decide (t ∈ qs.map (·.1)) := by
  rw [Bool.eq_iff_iff, List.any_eq_true, decide_eq_true_eq, List.mem_map]
  simp only [eqP, beq_iff_eq]
theorem rowD_in {w : List Nat} {t : Nat × Nat} {ts : List (Nat × Nat)} {c : Nat} {qs : List Key} (h : t ∈ qs.map (·.1)) : rowD eqP w (t :: ts) c qs = rowD eqP w ts (c + 1) qs := by
  rw [rowD, any_mem, if_pos (by rw [decide_eq_true h])]
theorem rowD_new {w : List Nat} {t : Nat × Nat} {ts : List (Nat × Nat)} {c : Nat} {qs : List Key} (h : t ∉ qs.map (·.1)) : rowD eqP w (t :: ts) c qs = rowD eqP w ts (c + 1) (qs ++ [(t, w ++ [c])]) := by
  rw [rowD, any_mem, if_neg (by rw [decide_eq_false h]; simp)]
theorem nxP_drop {a : List Letter} {p q : List Item} {k : Nat × Nat} {j : Nat} (hj : j < a.length) : (nxP a p q k).drop j = (stepA a p k.1 j, stepA a q k.2 j) :: (nxP a p q k).drop (j + 1) := by
  rw [List.drop_eq_getElem_cons (by simp [nxP, hj])]
  simp [nxP]
theorem nxP_end {a : List Letter} {p q : List Item} {k : Nat × Nat} {j : Nat} (hj : a.length ≤ j) : (nxP a p q k).drop j = [] := List.drop_eq_nil_of_le (by simp [nxP, hj])
def EntOf (m j : Nat) (qs : List Key) (e : Ent) (w : List Nat) : Prop := (e.fr = -1 ∧ w = []) ∨ ∃ (j' : Nat) (k' : Nat × Nat) (v : List Nat), e.fr = (j' : Int) ∧ j' < j ∧ e.lt < m ∧ qs[j']? = some (k', v) ∧ w = v ++ [e.lt]
structure DifOK (m : Nat) (es : List Ent) (qs : List Key) : Prop where
  len : es.length = qs.length
  ent : ∀ (j : Nat) e x, es[j]? = some e → qs[j]? = some x → (e.l, e.r) = x.1 ∧ EntOf m j qs e x.2
  nodup : (qs.map (·.1)).Nodup
  small : ∀ k ∈ qs.map (·.1), SmP k
theorem DifOK.one (m : Nat) {l r : Nat} (hl : l < 256) (hr : r < 256) : DifOK m [⟨l, r, -1, 0⟩] [((l, r), [])] where
  len := rfl
  ent := fun j e x h1 h2 => by
    cases j with
    | zero =>
      simp only [List.getElem?_cons_zero, Option.some.injEq] at h1 h2
      subst h1; subst h2
      exact ⟨rfl, .inl ⟨rfl, rfl⟩⟩
    | succ j => simp at h1
  nodup := by simp
  small := fun k hk => by simp only [List.map_cons, List.map_nil, List.mem_singleton] at hk; subst hk; exact ⟨hl, hr⟩
theorem EntOf.more {m j : Nat} {qs : List Key} {e : Ent} {w : List Nat} (h : EntOf m j qs e w) (ns : List Key) : EntOf m j (qs ++ ns) e w := by
  rcases h with h | ⟨j', k', v, h1, h2, h3, h4, h5⟩
  · exact .inl h
  · exact .inr ⟨j', k', v, h1, h2, h3, by rw [List.getElem?_append_left (List.getElem?_eq_some_iff.1 h4).1]; exact h4, h5⟩
theorem DifOK.add {m : Nat} {es : List Ent} {qs : List Key} (h : DifOK m es qs) {i c : Nat} {k t : Nat × Nat} {w : List Nat} (hi : qs[i]? = some (k, w)) (hc : c < m) (ht : t ∉ qs.map (·.1)) (hs : SmP t) :
    DifOK m (es ++ [⟨t.1, t.2, (i : Int), c⟩]) (qs ++ [(t, w ++ [c])]) where
  len := by simp [h.len]
  ent := fun j e x h1 h2 => by
    by_cases hj : j < es.length
    · rw [List.getElem?_append_left hj] at h1
      rw [List.getElem?_append_left (by have := h.len; omega)] at h2
      obtain ⟨g1, g2⟩ := h.ent j e x h1 h2
      exact ⟨g1, g2.more _⟩
    · have hj2 : j = es.length := by
        have := (List.getElem?_eq_some_iff.1 h1).1
        simp at this; omega
      subst hj2
      rw [List.getElem?_concat_length] at h1
      rw [h.len, List.getElem?_concat_length] at h2
      obtain rfl := Option.some.inj h1
      obtain rfl := Option.some.inj h2
      have hil := (List.getElem?_eq_some_iff.1 hi).1
      exact ⟨rfl, .inr ⟨i, k, w, rfl, by have := h.len; omega, hc, by rw [List.getElem?_append_left hil]; exact hi, rfl⟩⟩
  nodup := by
    rw [List.map_append, List.nodup_append]
    exact ⟨h.nodup, by simp, fun a ha b hb e => by simp only [List.map_cons, List.map_nil, List.mem_singleton] at hb; subst hb; subst e; exact ht ha⟩
  small := fun u hu => by
    rw [List.map_append, List.mem_append] at hu
    rcases hu with hu | hu
    · exact h.small u hu
    · simp only [List.map_cons, List.map_nil, List.mem_singleton] at hu; subst hu; exact hs
theorem pairs_len {l : List (Nat × Nat)} (h1 : l.Nodup) (h2 : ∀ p ∈ l, SmP p) : l.length ≤ 65536 := by
  have hi : ∀ a ∈ l, ∀ b ∈ l, a.1 * 256 + a.2 = b.1 * 256 + b.2 → a = b := fun a ha b hb e => by
    have := h2 a ha
    have := h2 b hb
    unfold SmP at *
    exact Prod.ext (by omega) (by omega)
  have : (l.map (fun p => p.1 * 256 + p.2)).Nodup := by
    unfold List.Nodup at *
    rw [List.pairwise_map]
    exact List.Pairwise.imp_of_mem (fun {a b} ha hb hab e => hab (hi a ha b hb e)) h1
  have := nodup_le 65536 _ this (fun q hq => by
    obtain ⟨p, hp, rfl⟩ := List.mem_map.1 hq
    have := h2 p hp
    unfold SmP at this
    omega)
  simpa using this
theorem DifOK.le {m : Nat} {es : List Ent} {qs : List Key} (h : DifOK m es qs) : es.length ≤ 65536 := by
  have := pairs_len h.nodup h.small
  rw [List.length_map] at this
  rw [h.len]; exact this
theorem bitN (s k : Nat) : ((s >>> k &&& 1 : Nat) : Int) = if s.testBit k then 1 else 0 := by
  cases h : s.testBit k with
  | true => rw [bit1i.2 h]; rfl
  | false => rw [bit0i.2 h]; rfl
theorem bitNe (a b k j : Nat) : ((((a >>> k &&& 1 : Nat) : Int) != ((b >>> j &&& 1 : Nat) : Int))) = (a.testBit k != b.testBit j) := by
  rw [bitN, bitN]
  cases a.testBit k <;> cases b.testBit j <;> rfl
end Go.GH
namespace Go.GH
open Go Go.Proofs
variable {E : Env}
theorem elemB_5_1_1 : elemB Tryd.prog 5 1 1 = true := by kernel_rfl
theorem intB_5_u8 : intB Tryd.prog 5 .u8 = true := by kernel_rfl
theorem mapB_101 : mapB Tryd.prog 101 9 3 (.string) := ⟨by kernel_rfl, by kernel_rfl⟩
theorem mapB_77 : mapB Tryd.prog 77 3 3 (.int .i64) := ⟨by kernel_rfl, by kernel_rfl⟩
theorem sliceB_103_5_1 : sliceB Tryd.prog 103 5 1 = true := by kernel_rfl
theorem someB_3 : (Tryd.prog.underlying 3).isSome = true := by kernel_rfl
theorem zeroIs_5 : zeroIs Tryd.prog 5 (.int .u8 0) := by unfold zeroIs; kernel_rfl
theorem aClasses (x : Acc) (hx : accOK x = true) (hw65 : widthA x ≤ 65) : GCall Tryd.prog E 43 [.agg (encAcc x)] [] (fun d H => d = DNats (clsR x) ∧ H = []) := by
  refine GCall.body (C := ⟨Tryd.prog, E, true⟩) Tryd.func43 rfl (fun _ => rfl) (by kernel_rfl) rfl ?_
  refine SCode.seqR ?_
  refine SOps.boxAM rfl rfl ?_
  refine SOps.assign rfl ?_
  refine SOps.nil ?_
  refine SCode.seqR ?_
  have hho := headOK_iff.1 (by have h := hx; simp only [accOK, Bool.and_eq_true] at h; exact h.1)
  have hil := initC_len hx
  refine SOps.fieldPin rfl fieldB_28_2_2 ?_
  refine SOps.loadPin rfl flatB_26 ?_
  refine SOps.lenM rfl sliceB_26_39_1 ?_
  refine SOps.makeK (f := encN) (x.nxt.length) (0) sliceB_39_3_1 elemB_3_1_8 zeroIs_3 rfl rfl (by first | omega | (simp only [lenB]; omega)) (by first | omega | (simp only [lenB]; omega)) rfl (by first | omega | (simp only [lenB]; omega)) (by simp only [lenB]; omega) (fun b0 hb_0 => ?_)
  refine SOps.assign rfl ?_
  refine SOps.nil ?_
  refine SCode.seq ?_
  refine SCode.seqR ?_
  refine SOps.fieldPin rfl fieldB_28_1_1 ?_
  refine SOps.loadPin rfl flatB_25 ?_
  refine SOps.lenM rfl sliceB_25_4_1 ?_
  refine SOps.move rfl ?_
  refine SOps.nil ?_
  refine SCode.block ?_
  refine SCode.loop1 (fun (i : Nat) => (⟨106, [(1, .ipin (encAcc x)), (3, .sl b0 1 0 x.nxt.length), (21, DBools x.fin), (22, .v (.int .i64 ((x.fin.length : Nat) : Int))), (23, .v (.int .i64 (i : Int)))], [(b0, .row 3 1 ((rowZ (initC x) i).map encN))]⟩ : St)) (fun (i : Nat) => i ≤ x.fin.length) (fun (i : Nat) => x.fin.length - i) (0) (by exact Nat.zero_le _) (St.Le.of ⟨(by first | rfl | (show some _ = some _; simp)), (by first | rfl | (show some _ = some _; simp)), (by first | rfl | (show some _ = some _; simp)), (by first | rfl | (show some _ = some _; simp)), (by first | rfl | (show some _ = some _; simp)), trivial⟩ rfl (by first | rfl | ((rw [rowZ_zero, hil]; rfl)))) ?_
  rintro i hi
  refine SCode.seqR ?_
  refine SOps.bin rfl rfl rfl ?_
  refine SOps.nil ?_
  refine SCode.seq ?_
  refine SCode.cond rfl (fun hc1 => ?_) (fun hc1 => ?_)
  · try simp only [decide_eq_true_eq, decide_eq_false_iff_not, Bool.not_eq_true', Bool.not_eq_false', beq_iff_eq, bne_iff_ne, ne_eq, beq_eq_false_iff_ne, bne_eq_false_iff_eq, Int.not_lt, Int.not_le, Nat.not_lt, Nat.not_le, Int.ofNat_lt, Int.ofNat_le, Bool.not_eq_eq_eq_not, Bool.not_true, Bool.not_false] at hc1
    refine SCode.skip ?_
    show SCode _ _ _ _
    refine SCode.seq ?_
    refine SCode.block ?_
    refine SCode.seqR ?_
    refine SOps.move rfl ?_
    refine SOps.indexM (i) rfl rfl sliceB_25_4_1 (by first | omega | (simp only [lenB]; omega)) (by first | omega | (simp only [lenB]; omega)) ?_
    refine SOps.loadPin rfl flatB_4 ?_
    refine SOps.assign rfl ?_
    refine SOps.assign rfl ?_
    refine SOps.nil ?_
    refine SCode.seqR ?_
    refine SOps.move rfl ?_
    refine SOps.nil ?_
    refine SCode.cond rfl (fun hc2 => ?_) (fun hc2 => ?_)
    · try simp only [decide_eq_true_eq, decide_eq_false_iff_not, Bool.not_eq_true', Bool.not_eq_false', beq_iff_eq, bne_iff_ne, ne_eq, beq_eq_false_iff_ne, bne_eq_false_iff_eq, Int.not_lt, Int.not_le, Nat.not_lt, Nat.not_le, Int.ofNat_lt, Int.ofNat_le, Bool.not_eq_eq_eq_not, Bool.not_true, Bool.not_false] at hc2
      refine SCode.region ?_
      have hif : i < x.fin.length := by omega
      refine SOps.move rfl ?_
      refine SOps.move rfl ?_
      refine SOps.indexS (i) rfl rfl sliceB_39_3_1 (by first | omega | (simp only [lenB]; omega)) (by first | omega | (simp only [lenB]; omega)) ?_
      refine SOps.storeK 0 (i) rfl rfl oneB_3 rfl (by first | omega | (simp only [lenB]; omega)) (by first | omega | (rw [rowZ_len (by omega)]; omega) | (simp; omega)) rfl (fun _ => rfl) ?_
      refine SOps.nil ?_
      show SCode _ _ _ _
      refine SCode.region ?_
      refine SOps.addI rfl rfl (by first | omega | (simp only [lenB]; omega)) (by first | omega | (simp only [lenB]; omega)) ?_
      refine SOps.move rfl ?_
      refine SOps.nil ?_
      first
        | exact ⟨i + 1, by omega, by omega, St.Le.of ⟨rfl, rfl, rfl, rfl, rfl, trivial⟩ rfl (by rw [← rowZ_set (show i < (initC x).length by omega), initC_get _ (show i < x.fin.length by omega), hc2]; rfl)⟩
        | exact ⟨i + 1, by omega, by omega, St.Le.of ⟨rfl, rfl, rfl, rfl, rfl, trivial⟩ rfl (by rw [rowZ_skip (show i < (initC x).length by omega) (by rw [initC_get _ (show i < x.fin.length by omega), hc2]; rfl)]; rfl)⟩
    · try simp only [decide_eq_true_eq, decide_eq_false_iff_not, Bool.not_eq_true', Bool.not_eq_false', beq_iff_eq, bne_iff_ne, ne_eq, beq_eq_false_iff_ne, bne_eq_false_iff_eq, Int.not_lt, Int.not_le, Nat.not_lt, Nat.not_le, Int.ofNat_lt, Int.ofNat_le, Bool.not_eq_eq_eq_not, Bool.not_true, Bool.not_false] at hc2
      refine SCode.skip ?_
      show SCode _ _ _ _
      refine SCode.region ?_
      refine SOps.addI rfl rfl (by first | omega | (simp only [lenB]; omega)) (by first | omega | (simp only [lenB]; omega)) ?_
      refine SOps.move rfl ?_
      refine SOps.nil ?_
      first
        | exact ⟨i + 1, by omega, by omega, St.Le.of ⟨rfl, rfl, rfl, rfl, rfl, trivial⟩ rfl (by rw [← rowZ_set (show i < (initC x).length by omega), initC_get _ (show i < x.fin.length by omega), hc2]; rfl)⟩
        | exact ⟨i + 1, by omega, by omega, St.Le.of ⟨rfl, rfl, rfl, rfl, rfl, trivial⟩ rfl (by rw [rowZ_skip (show i < (initC x).length by omega) (by rw [initC_get _ (show i < x.fin.length by omega), hc2]; rfl)]; rfl)⟩
  · try simp only [decide_eq_true_eq, decide_eq_false_iff_not, Bool.not_eq_true', Bool.not_eq_false', beq_iff_eq, bne_iff_ne, ne_eq, beq_eq_false_iff_ne, bne_eq_false_iff_eq, Int.not_lt, Int.not_le, Nat.not_lt, Nat.not_le, Int.ofNat_lt, Int.ofNat_le, Bool.not_eq_eq_eq_not, Bool.not_true, Bool.not_false] at hc1
    refine SCode.exit ?_
    show SCode _ _ _ _
    refine SCode.seqR ?_
    refine SOps.assign rfl ?_
    refine SOps.nil ?_
    refine SCode.block ?_
    refine SCode.loop4 (fun (cl : List Nat) (n : Nat) (f : Nat) (kb : Nat) => (⟨106, [(1, .ipin (encAcc x)), (3, .sl kb 1 0 x.nxt.length), (6, .v (.int .i64 ((n : Nat) : Int)))], [(kb, .row 3 1 ((cl).map encN))]⟩ : St)) (fun (cl : List Nat) (n : Nat) (f : Nat) (kb : Nat) => cl.length = x.nxt.length ∧ SmN cl ∧ Cov cl n ∧ x.nxt.length < f + n ∧ clsF x f n cl = clsR x) (fun (cl : List Nat) (n : Nat) (f : Nat) (kb : Nat) => f) (initC x) (0) (x.nxt.length + 1) (b0) (by exact ⟨hil, fun v hv => by simp only [initC, List.mem_map] at hv; obtain ⟨b, _, rfl⟩ := hv; cases b <;> simp, fun v hv => by omega, by omega, rfl⟩) (St.Le.of ⟨(by first | rfl | (show some _ = some _; simp)), (by first | rfl | (show some _ = some _; simp)), (by first | rfl | (show some _ = some _; simp)), trivial⟩ rfl (by first | rfl | ((rw [show i = (initC x).length by omega, rowZ_full]; rfl)))) ?_
    rintro cl n f kb ⟨hcl, hcs, hcv, hfn, hcf⟩
    obtain ⟨f, rfl⟩ : ∃ f1, f = f1 + 1 := ⟨f - 1, by have := clsF_pos hcl hcv hfn; omega⟩
    refine SCode.block ?_
    refine SCode.seqR ?_
    refine SOps.makeMap0 (fun b1 hb_1 => ?_)
    refine SOps.assign rfl ?_
    refine SOps.nil ?_
    refine SCode.seqR ?_
    refine SOps.move rfl ?_
    refine SOps.lenSl rfl sliceB_39_3_1 ?_
    refine SOps.makeK (f := encN) (x.nxt.length) (0) sliceB_39_3_1 elemB_3_1_8 zeroIs_3 rfl rfl (by first | omega | (simp only [lenB]; omega)) (by first | omega | (simp only [lenB]; omega)) rfl (by first | omega | (simp only [lenB]; omega)) (by simp only [lenB]; omega) (fun b2 hb_2 => ?_)
    refine SOps.assign rfl ?_
    refine SOps.nil ?_
    refine SCode.seq ?_
    refine SCode.seqR ?_
    refine SOps.fieldPin rfl fieldB_28_2_2 ?_
    refine SOps.loadPin rfl flatB_26 ?_
    refine SOps.lenM rfl sliceB_26_39_1 ?_
    refine SOps.move rfl ?_
    refine SOps.nil ?_
    refine SCode.block ?_
    refine SCode.loop4 (fun (i : Nat) (ks : List (List Nat)) (es : List (Value × DV)) (out : List Nat) => (⟨106, [(1, .ipin (encAcc x)), (3, .sl kb 1 0 x.nxt.length), (6, .v (.int .i64 ((n : Nat) : Int))), (7, .mp b1), (8, .sl b2 1 0 x.nxt.length), (38, DTab x.nxt), (39, .v (.int .i64 ((x.nxt.length : Nat) : Int))), (40, .v (.int .i64 (i : Int)))], [(b2, .row 3 1 ((out ++ List.replicate (x.nxt.length - i) 0).map encN)), (b1, .map es), (kb, .row 3 1 ((cl).map encN))]⟩ : St)) (fun (i : Nat) (ks : List (List Nat)) (es : List (Value × DV)) (out : List Nat) => i ≤ x.nxt.length ∧ out.length = i ∧ ks.length ≤ i ∧ MapSK es ks ∧ numF ((sigsL x cl).drop i) ks out = roundL x cl) (fun (i : Nat) (ks : List (List Nat)) (es : List (Value × DV)) (out : List Nat) => x.nxt.length - i) (0) ([]) ([]) ([]) (by exact ⟨Nat.zero_le _, rfl, Nat.le_refl _, MapSK.nil, rfl⟩) (St.Le.of ⟨(by first | rfl | (show some _ = some _; simp)), (by first | rfl | (show some _ = some _; simp)), (by first | rfl | (show some _ = some _; simp)), (by first | rfl | (show some _ = some _; simp)), (by first | rfl | (show some _ = some _; simp)), (by first | rfl | (show some _ = some _; simp)), (by first | rfl | (show some _ = some _; simp)), (by first | rfl | (show some _ = some _; simp)), trivial⟩ rfl (by first | rfl | (simp))) ?_
    rintro i ks es out ⟨hi, hol, hkl, hmk, hnf⟩
    refine SCode.seqR ?_
    refine SOps.bin rfl rfl rfl ?_
    refine SOps.nil ?_
    refine SCode.seq ?_
    refine SCode.cond rfl (fun hc3 => ?_) (fun hc3 => ?_)
    · try simp only [decide_eq_true_eq, decide_eq_false_iff_not, Bool.not_eq_true', Bool.not_eq_false', beq_iff_eq, bne_iff_ne, ne_eq, beq_eq_false_iff_ne, bne_eq_false_iff_eq, Int.not_lt, Int.not_le, Nat.not_lt, Nat.not_le, Int.ofNat_lt, Int.ofNat_le, Bool.not_eq_eq_eq_not, Bool.not_true, Bool.not_false] at hc3
      refine SCode.skip ?_
      show SCode _ _ _ _
      refine SCode.seq ?_
      refine SCode.block ?_
      refine SCode.seqR ?_
      have hi9 : i < x.nxt.length := by omega
      have hci : i < cl.length := by omega
      have hrow := accOK_row hx hi9
      refine SOps.move rfl ?_
      refine SOps.indexM (i) rfl rfl sliceB_26_39_1 (by first | omega | (simp only [lenB]; omega)) (by first | omega | (simp only [lenB]; omega)) ?_
      refine SOps.loadPin rfl flatB_39 ?_
      refine SOps.assign rfl ?_
      refine SOps.assign rfl ?_
      refine SOps.nil ?_
      refine SCode.seq ?_
      refine SCode.weaken (st' := (⟨106, [(1, .ipin (encAcc x)), (3, .sl kb 1 0 x.nxt.length), (6, .v (.int .i64 ((n : Nat) : Int))), (7, .mp b1), (8, .sl b2 1 0 x.nxt.length), (9, .v (.int .i64 (i : Int))), (10, DInts (x.nxt[i])), (38, DTab x.nxt), (39, .v (.int .i64 ((x.nxt.length : Nat) : Int))), (40, .v (.int .i64 (i : Int)))], [(b2, .row 3 1 ((out ++ List.replicate (x.nxt.length - i) 0).map encN)), (b1, .map es), (kb, .row 3 1 ((cl).map encN))]⟩ : St)) (St.Le.of ⟨rfl, rfl, rfl, rfl, rfl, rfl, rfl, rfl, rfl, rfl, trivial⟩) ?_
      refine SCode.drawMix 14 [11] mixed_ [fun b => some (45, .sl kb 1 0 x.nxt.length), fun b => some (46, .v (.int .i64 (i : Int))), fun b => some (47, .ref kb ((0 + i) * 1)), fun b => some (48, .v (.int .i64 ((cl[i] : Nat) : Int))), fun b => some (49, .v (.int .u8 (((UInt8.ofNat cl[i]).toNat : Nat) : Int))), fun b => some (50, .sl kb 1 0 x.nxt.length), fun b => some (51, .v (.int .i64 (i : Int))), fun b => some (52, .ref kb ((0 + i) * 1)), fun b => some (53, .v (.int .i64 ((cl[i] : Nat) : Int))), fun b => some (54, .v (.int .i64 ((cl[i] >>> 8 : Nat) : Int))), fun b => some (55, .v (.int .u8 (((UInt8.ofNat (cl[i] >>> 8)).toNat : Nat) : Int))), fun b => some (56, .sl b 1 0 2), fun b => some (11, .sl b 1 0 2)] [some 45, some 46, some 47, some 48, some 49, some 50, some 51, some 52, some 53, some 54, some 55, some 56, some 11] [[.inr 3], [.inr 9], [.inl 0, .inl 1], [.inl 2], [.inl 3], [.inr 3], [.inr 9], [.inl 5, .inl 6], [.inl 7], [.inl 8], [.inl 9], [.inl 4, .inl 10], [.inl 11]] [fun b => [(3, .sl kb 1 0 x.nxt.length)], fun b => [(9, .v (.int .i64 (i : Int)))], fun b => [(45, .sl kb 1 0 x.nxt.length), (46, .v (.int .i64 (i : Int)))], fun b => [(47, .ref kb ((0 + i) * 1))], fun b => [(48, .v (.int .i64 ((cl[i] : Nat) : Int)))], fun b => [(3, .sl kb 1 0 x.nxt.length)], fun b => [(9, .v (.int .i64 (i : Int)))], fun b => [(50, .sl kb 1 0 x.nxt.length), (51, .v (.int .i64 (i : Int)))], fun b => [(52, .ref kb ((0 + i) * 1))], fun b => [(53, .v (.int .i64 ((cl[i] : Nat) : Int)))], fun b => [(54, .v (.int .i64 ((cl[i] >>> 8 : Nat) : Int)))], fun b => [(49, .v (.int .u8 (((UInt8.ofNat cl[i]).toNat : Nat) : Int))), (55, .v (.int .u8 (((UInt8.ofNat (cl[i] >>> 8)).toNat : Nat) : Int)))], fun b => [(56, .sl b 1 0 2)]] (fun b c => match c with | 0 => [(b2, .row 3 1 ((out ++ List.replicate (x.nxt.length - i) 0).map encN)), (b1, .map es), (kb, .row 3 1 ((cl).map encN))] | _ => [(b, .row 5 1 ((keyB [cl[i]]).map encY))] ++ [(b2, .row 3 1 ((out ++ List.replicate (x.nxt.length - i) 0).map encN)), (b1, .map es), (kb, .row 3 1 ((cl).map encN))]) [(false, false, [0]), (false, false, [0]), (false, false, [0]), (false, false, [0]), (false, false, [0]), (false, false, [0]), (false, false, [0]), (false, false, [0]), (false, false, [0]), (false, false, [0]), (false, false, [0]), (true, true, [0]), (false, false, [1])] (by kernel_rfl) (fun _ => rfl) rfl (fun _ => rfl) (fun _ => rfl) (cohOne 11 rfl (fun j r hj => by match j, hj with | 0, hj => exact .inl (by simp at hj; subst hj; intros; rfl) | 1, hj => exact .inl (by simp at hj; subst hj; intros; rfl) | 2, hj => exact .inl (by simp at hj; subst hj; intros; rfl) | 3, hj => exact .inl (by simp at hj; subst hj; intros; rfl) | 4, hj => exact .inl (by simp at hj; subst hj; intros; rfl) | 5, hj => exact .inl (by simp at hj; subst hj; intros; rfl) | 6, hj => exact .inl (by simp at hj; subst hj; intros; rfl) | 7, hj => exact .inl (by simp at hj; subst hj; intros; rfl) | 8, hj => exact .inl (by simp at hj; subst hj; intros; rfl) | 9, hj => exact .inl (by simp at hj; subst hj; intros; rfl) | 10, hj => exact .inl (by simp at hj; subst hj; intros; rfl) | 11, hj => exact .inr (.inl rfl) | 12, hj => exact .inr (.inr ⟨_, rfl, rfl⟩) | q + 13, hj => simp at hj)) ?_ ?_
      · refine MixOk.cons ?_ ?_
        · refine StgOk.cons (fun b rest => ?_) ?_
          · refine SOps.move rfl ?_
            exact SOps.nil ⟨b, fun _ => rfl, by first | rfl | simp_all⟩
          exact StgOk.nil
        refine MixOk.cons ?_ ?_
        · refine StgOk.cons (fun b rest => ?_) ?_
          · refine SOps.move rfl ?_
            exact SOps.nil ⟨b, fun _ => rfl, by first | rfl | simp_all⟩
          exact StgOk.nil
        refine MixOk.cons ?_ ?_
        · refine StgOk.cons (fun b rest => ?_) ?_
          · refine SOps.indexS (i) rfl rfl sliceB_39_3_1 (by first | omega | (simp only [lenB]; omega)) (by first | omega | (simp only [lenB]; omega)) ?_
            exact SOps.nil ⟨b, fun _ => rfl, by first | rfl | simp_all⟩
          exact StgOk.nil
        refine MixOk.cons ?_ ?_
        · refine StgOk.cons (fun b rest => ?_) ?_
          · refine SOps.loadK 2 (i) rfl flatB_3 rfl (by first | omega | (simp only [lenB]; omega)) (by first | omega | (rw [rowZ_len (by omega)]; omega) | (simp; omega)) rfl ?_
            exact SOps.nil ⟨b, fun _ => rfl, by first | rfl | simp_all⟩
          exact StgOk.nil
        refine MixOk.cons ?_ ?_
        · refine StgOk.cons (fun b rest => ?_) ?_
          · refine SOps.lowByte rfl someB_3 intB_5_u8 ?_
            exact SOps.nil ⟨b, fun _ => rfl, by first | rfl | simp_all⟩
          exact StgOk.nil
        refine MixOk.cons ?_ ?_
        · refine StgOk.cons (fun b rest => ?_) ?_
          · refine SOps.move rfl ?_
            exact SOps.nil ⟨b, fun _ => rfl, by first | rfl | simp_all⟩
          exact StgOk.nil
        refine MixOk.cons ?_ ?_
        · refine StgOk.cons (fun b rest => ?_) ?_
          · refine SOps.move rfl ?_
            exact SOps.nil ⟨b, fun _ => rfl, by first | rfl | simp_all⟩
          exact StgOk.nil
        refine MixOk.cons ?_ ?_
        · refine StgOk.cons (fun b rest => ?_) ?_
          · refine SOps.indexS (i) rfl rfl sliceB_39_3_1 (by first | omega | (simp only [lenB]; omega)) (by first | omega | (simp only [lenB]; omega)) ?_
            exact SOps.nil ⟨b, fun _ => rfl, by first | rfl | simp_all⟩
          exact StgOk.nil
        refine MixOk.cons ?_ ?_
        · refine StgOk.cons (fun b rest => ?_) ?_
          · refine SOps.loadK 2 (i) rfl flatB_3 rfl (by first | omega | (simp only [lenB]; omega)) (by first | omega | (rw [rowZ_len (by omega)]; omega) | (simp; omega)) rfl ?_
            exact SOps.nil ⟨b, fun _ => rfl, by first | rfl | simp_all⟩
          exact StgOk.nil
        refine MixOk.cons ?_ ?_
        · refine StgOk.cons (fun b rest => ?_) ?_
          · refine SOps.shr8 rfl rfl (by have := hcs _ (List.getElem_mem hci); omega) ?_
            exact SOps.nil ⟨b, fun _ => rfl, by first | rfl | simp_all⟩
          exact StgOk.nil
        refine MixOk.cons ?_ ?_
        · refine StgOk.cons (fun b rest => ?_) ?_
          · refine SOps.lowByte rfl someB_3 intB_5_u8 ?_
            exact SOps.nil ⟨b, fun _ => rfl, by first | rfl | simp_all⟩
          exact StgOk.nil
        refine MixOk.cons ?_ ?_
        · refine StgOk.cons (fun b rest => ?_) ?_
          · refine SOps.litO sliceB_103_5_1 zeroIs_5 rfl (fun b3 hb_3 => ?_)
            exact SOps.nil ⟨b3, (fun h => by cases h), rfl⟩
          exact StgOk.nil
        refine MixOk.cons ?_ ?_
        · refine StgOk.cons (fun b rest => ?_) ?_
          · refine SOps.assign rfl ?_
            exact SOps.nil ⟨b, fun _ => rfl, by first | rfl | simp_all⟩
          exact StgOk.nil
        exact MixOk.nil
      · intro bM
        show SCode _ _ _ _
        refine SCode.seq ?_
        refine SCode.seqR ?_
        refine SOps.move rfl ?_
        refine SOps.lenM rfl sliceB_39_3_1 ?_
        refine SOps.move rfl ?_
        refine SOps.nil ?_
        refine SCode.block ?_
        refine SCode.loop3 (fun (j : Nat) (l : List Nat) (kk : Nat) => (⟨106, [(1, .ipin (encAcc x)), (3, .sl kb 1 0 x.nxt.length), (6, .v (.int .i64 ((n : Nat) : Int))), (7, .mp b1), (8, .sl b2 1 0 x.nxt.length), (9, .v (.int .i64 (i : Int))), (11, .sl kk 1 0 (2 * (j + 1))), (38, DTab x.nxt), (39, .v (.int .i64 ((x.nxt.length : Nat) : Int))), (40, .v (.int .i64 (i : Int))), (57, DInts (x.nxt[i])), (58, .v (.int .i64 (((x.nxt[i]).length : Nat) : Int))), (59, .v (.int .i64 (j : Int)))], [(kk, .row 5 1 ((keyB l).map encY))] ++ [(b2, .row 3 1 ((out ++ List.replicate (x.nxt.length - i) 0).map encN)), (b1, .map es), (kb, .row 3 1 ((cl).map encN))]⟩ : St)) (fun (j : Nat) (l : List Nat) (kk : Nat) => j ≤ (x.nxt[i]).length ∧ l.length = j + 1 ∧ l = (sigL x cl i).take (j + 1)) (fun (j : Nat) (l : List Nat) (kk : Nat) => (x.nxt[i]).length - j) (0) ([cl[i]]) (bM) (by exact ⟨Nat.zero_le _, rfl, sigL_one hci⟩) (St.Le.of ⟨(by first | rfl | (show some _ = some _; simp)), (by first | rfl | (show some _ = some _; simp)), (by first | rfl | (show some _ = some _; simp)), (by first | rfl | (show some _ = some _; simp)), (by first | rfl | (show some _ = some _; simp)), (by first | rfl | (show some _ = some _; simp)), (by first | rfl | (show some _ = some _; simp)), (by first | rfl | (show some _ = some _; simp)), (by first | rfl | (show some _ = some _; simp)), (by first | rfl | (show some _ = some _; simp)), (by first | rfl | (show some _ = some _; simp)), (by first | rfl | (show some _ = some _; simp)), (by first | rfl | (show some _ = some _; simp)), trivial⟩ rfl (by first | rfl | (simp))) ?_
        rintro j l kk ⟨hj, hll, hlt⟩
        refine SCode.seqR ?_
        refine SOps.bin rfl rfl rfl ?_
        refine SOps.nil ?_
        refine SCode.seq ?_
        refine SCode.cond rfl (fun hc4 => ?_) (fun hc4 => ?_)
        · try simp only [decide_eq_true_eq, decide_eq_false_iff_not, Bool.not_eq_true', Bool.not_eq_false', beq_iff_eq, bne_iff_ne, ne_eq, beq_eq_false_iff_ne, bne_eq_false_iff_eq, Int.not_lt, Int.not_le, Nat.not_lt, Nat.not_le, Int.ofNat_lt, Int.ofNat_le, Bool.not_eq_eq_eq_not, Bool.not_true, Bool.not_false] at hc4
          refine SCode.skip ?_
          show SCode _ _ _ _
          refine SCode.seq ?_
          refine SCode.block ?_
          refine SCode.seqR ?_
          refine SOps.indexM (j) rfl rfl sliceB_39_3_1 (by first | omega | (simp only [lenB]; omega)) (by first | omega | (simp only [lenB]; omega)) ?_
          refine SOps.loadPin rfl flatB_3 ?_
          refine SOps.assign rfl ?_
          refine SOps.nil ?_
          have hjl : j < (x.nxt[i]).length := by omega
          obtain ⟨tn, htn, htl⟩ : ∃ tn : Nat, (x.nxt[i])[j] = (tn : Int) ∧ tn < cl.length := by have := hrow.2 _ (List.getElem_mem hjl); exact ⟨((x.nxt[i])[j]).toNat, by omega, by omega⟩
          have hci := htl
          refine SCode.weaken (st' := (⟨106, [(1, .ipin (encAcc x)), (3, .sl kb 1 0 x.nxt.length), (6, .v (.int .i64 ((n : Nat) : Int))), (7, .mp b1), (8, .sl b2 1 0 x.nxt.length), (9, .v (.int .i64 (i : Int))), (11, .sl kk 1 0 (2 * (j + 1))), (13, .v (.int .i64 ((x.nxt[i])[j]))), (38, DTab x.nxt), (39, .v (.int .i64 ((x.nxt.length : Nat) : Int))), (40, .v (.int .i64 (i : Int))), (57, DInts (x.nxt[i])), (58, .v (.int .i64 (((x.nxt[i]).length : Nat) : Int))), (59, .v (.int .i64 (j : Int)))], [(kk, .row 5 1 ((keyB l).map encY))] ++ [(b2, .row 3 1 ((out ++ List.replicate (x.nxt.length - i) 0).map encN)), (b1, .map es), (kb, .row 3 1 ((cl).map encN))]⟩ : St)) (St.Le.of ⟨rfl, rfl, rfl, rfl, rfl, rfl, rfl, rfl, rfl, rfl, rfl, rfl, rfl, rfl, trivial⟩) ?_
          refine SCode.drawMix 16 [13] mixed_ [fun b => some (63, .sl kk 1 0 (2 * (j + 1))), fun b => some (64, .sl kb 1 0 x.nxt.length), fun b => some (65, .v (.int .i64 ((x.nxt[i])[j]))), fun b => some (66, .ref kb ((0 + tn) * 1)), fun b => some (67, .v (.int .i64 ((cl[tn] : Nat) : Int))), fun b => some (68, .v (.int .u8 (((UInt8.ofNat cl[tn]).toNat : Nat) : Int))), fun b => some (69, .sl kb 1 0 x.nxt.length), fun b => some (70, .v (.int .i64 ((x.nxt[i])[j]))), fun b => some (71, .ref kb ((0 + tn) * 1)), fun b => some (72, .v (.int .i64 ((cl[tn] : Nat) : Int))), fun b => some (73, .v (.int .i64 ((cl[tn] >>> 8 : Nat) : Int))), fun b => some (74, .v (.int .u8 (((UInt8.ofNat (cl[tn] >>> 8)).toNat : Nat) : Int))), fun b => some (75, .isl false 1 [[.v (.int .u8 (((UInt8.ofNat cl[tn]).toNat : Nat) : Int))], [.v (.int .u8 (((UInt8.ofNat (cl[tn] >>> 8)).toNat : Nat) : Int))]]), fun b => some (76, .sl b 1 0 (2 * (j + 1) + 2)), fun b => some (11, .sl b 1 0 (2 * (j + 1) + 2))] [some 63, some 64, some 65, some 66, some 67, some 68, some 69, some 70, some 71, some 72, some 73, some 74, some 75, some 76, some 11] [[.inr 11], [.inr 3], [.inr 13], [.inl 1, .inl 2], [.inl 3], [.inl 4], [.inr 3], [.inr 13], [.inl 6, .inl 7], [.inl 8], [.inl 9], [.inl 10], [.inl 5, .inl 11], [.inl 0, .inl 12], [.inl 13]] [fun b => [(11, .sl kk 1 0 (2 * (j + 1)))], fun b => [(3, .sl kb 1 0 x.nxt.length)], fun b => [(13, .v (.int .i64 ((x.nxt[i])[j])))], fun b => [(64, .sl kb 1 0 x.nxt.length), (65, .v (.int .i64 ((x.nxt[i])[j])))], fun b => [(66, .ref kb ((0 + tn) * 1))], fun b => [(67, .v (.int .i64 ((cl[tn] : Nat) : Int)))], fun b => [(3, .sl kb 1 0 x.nxt.length)], fun b => [(13, .v (.int .i64 ((x.nxt[i])[j])))], fun b => [(69, .sl kb 1 0 x.nxt.length), (70, .v (.int .i64 ((x.nxt[i])[j])))], fun b => [(71, .ref kb ((0 + tn) * 1))], fun b => [(72, .v (.int .i64 ((cl[tn] : Nat) : Int)))], fun b => [(73, .v (.int .i64 ((cl[tn] >>> 8 : Nat) : Int)))], fun b => [(68, .v (.int .u8 (((UInt8.ofNat cl[tn]).toNat : Nat) : Int))), (74, .v (.int .u8 (((UInt8.ofNat (cl[tn] >>> 8)).toNat : Nat) : Int)))], fun b => [(63, .sl kk 1 0 (2 * (j + 1))), (75, .isl false 1 [[.v (.int .u8 (((UInt8.ofNat cl[tn]).toNat : Nat) : Int))], [.v (.int .u8 (((UInt8.ofNat (cl[tn] >>> 8)).toNat : Nat) : Int))]])], fun b => [(76, .sl b 1 0 (2 * (j + 1) + 2))]] (fun b c => match c with | 0 => [(kk, .row 5 1 ((keyB l).map encY))] ++ [(b2, .row 3 1 ((out ++ List.replicate (x.nxt.length - i) 0).map encN)), (b1, .map es), (kb, .row 3 1 ((cl).map encN))] | _ => [(b, .row 5 1 ((keyB l).map encY ++ [[.v (.int .u8 (((UInt8.ofNat cl[tn]).toNat : Nat) : Int))], [.v (.int .u8 (((UInt8.ofNat (cl[tn] >>> 8)).toNat : Nat) : Int))]]))] ++ [(b2, .row 3 1 ((out ++ List.replicate (x.nxt.length - i) 0).map encN)), (b1, .map es), (kb, .row 3 1 ((cl).map encN))]) [(false, false, [0]), (false, false, [0]), (false, false, [0]), (false, false, [0]), (false, false, [0]), (false, false, [0]), (false, false, [0]), (false, false, [0]), (false, false, [0]), (false, false, [0]), (false, false, [0]), (false, false, [0]), (false, false, [0]), (true, true, [0]), (false, false, [1])] (by kernel_rfl) (fun _ => rfl) rfl (fun _ => rfl) (fun _ => rfl) (cohOne 13 rfl (fun j r hj => by match j, hj with | 0, hj => exact .inl (by simp at hj; subst hj; intros; rfl) | 1, hj => exact .inl (by simp at hj; subst hj; intros; rfl) | 2, hj => exact .inl (by simp at hj; subst hj; intros; rfl) | 3, hj => exact .inl (by simp at hj; subst hj; intros; rfl) | 4, hj => exact .inl (by simp at hj; subst hj; intros; rfl) | 5, hj => exact .inl (by simp at hj; subst hj; intros; rfl) | 6, hj => exact .inl (by simp at hj; subst hj; intros; rfl) | 7, hj => exact .inl (by simp at hj; subst hj; intros; rfl) | 8, hj => exact .inl (by simp at hj; subst hj; intros; rfl) | 9, hj => exact .inl (by simp at hj; subst hj; intros; rfl) | 10, hj => exact .inl (by simp at hj; subst hj; intros; rfl) | 11, hj => exact .inl (by simp at hj; subst hj; intros; rfl) | 12, hj => exact .inl (by simp at hj; subst hj; intros; rfl) | 13, hj => exact .inr (.inl rfl) | 14, hj => exact .inr (.inr ⟨_, rfl, rfl⟩) | q + 15, hj => simp at hj)) ?_ ?_
          · refine MixOk.cons ?_ ?_
            · refine StgOk.cons (fun b rest => ?_) ?_
              · refine SOps.move rfl ?_
                exact SOps.nil ⟨b, fun _ => rfl, by first | rfl | simp_all⟩
              exact StgOk.nil
            refine MixOk.cons ?_ ?_
            · refine StgOk.cons (fun b rest => ?_) ?_
              · refine SOps.move rfl ?_
                exact SOps.nil ⟨b, fun _ => rfl, by first | rfl | simp_all⟩
              exact StgOk.nil
            refine MixOk.cons ?_ ?_
            · refine StgOk.cons (fun b rest => ?_) ?_
              · refine SOps.move rfl ?_
                exact SOps.nil ⟨b, fun _ => rfl, by first | rfl | simp_all⟩
              exact StgOk.nil
            refine MixOk.cons ?_ ?_
            · refine StgOk.cons (fun b rest => ?_) ?_
              · refine SOps.indexS (tn) rfl rfl sliceB_39_3_1 (by first | omega | (simp only [lenB]; omega)) (by first | omega | (simp only [lenB]; omega)) ?_
                exact SOps.nil ⟨b, fun _ => rfl, by first | rfl | simp_all⟩
              exact StgOk.nil
            refine MixOk.cons ?_ ?_
            · refine StgOk.cons (fun b rest => ?_) ?_
              · refine SOps.loadK 3 (tn) rfl flatB_3 rfl (by first | omega | (simp only [lenB]; omega)) (by first | omega | (rw [rowZ_len (by omega)]; omega) | (simp; omega)) rfl ?_
                exact SOps.nil ⟨b, fun _ => rfl, by first | rfl | simp_all⟩
              exact StgOk.nil
            refine MixOk.cons ?_ ?_
            · refine StgOk.cons (fun b rest => ?_) ?_
              · refine SOps.lowByte rfl someB_3 intB_5_u8 ?_
                exact SOps.nil ⟨b, fun _ => rfl, by first | rfl | simp_all⟩
              exact StgOk.nil
            refine MixOk.cons ?_ ?_
            · refine StgOk.cons (fun b rest => ?_) ?_
              · refine SOps.move rfl ?_
                exact SOps.nil ⟨b, fun _ => rfl, by first | rfl | simp_all⟩
              exact StgOk.nil
            refine MixOk.cons ?_ ?_
            · refine StgOk.cons (fun b rest => ?_) ?_
              · refine SOps.move rfl ?_
                exact SOps.nil ⟨b, fun _ => rfl, by first | rfl | simp_all⟩
              exact StgOk.nil
            refine MixOk.cons ?_ ?_
            · refine StgOk.cons (fun b rest => ?_) ?_
              · refine SOps.indexS (tn) rfl rfl sliceB_39_3_1 (by first | omega | (simp only [lenB]; omega)) (by first | omega | (simp only [lenB]; omega)) ?_
                exact SOps.nil ⟨b, fun _ => rfl, by first | rfl | simp_all⟩
              exact StgOk.nil
            refine MixOk.cons ?_ ?_
            · refine StgOk.cons (fun b rest => ?_) ?_
              · refine SOps.loadK 3 (tn) rfl flatB_3 rfl (by first | omega | (simp only [lenB]; omega)) (by first | omega | (rw [rowZ_len (by omega)]; omega) | (simp; omega)) rfl ?_
                exact SOps.nil ⟨b, fun _ => rfl, by first | rfl | simp_all⟩
              exact StgOk.nil
            refine MixOk.cons ?_ ?_
            · refine StgOk.cons (fun b rest => ?_) ?_
              · refine SOps.shr8 rfl rfl (by have := hcs _ (List.getElem_mem hci); omega) ?_
                exact SOps.nil ⟨b, fun _ => rfl, by first | rfl | simp_all⟩
              exact StgOk.nil
            refine MixOk.cons ?_ ?_
            · refine StgOk.cons (fun b rest => ?_) ?_
              · refine SOps.lowByte rfl someB_3 intB_5_u8 ?_
                exact SOps.nil ⟨b, fun _ => rfl, by first | rfl | simp_all⟩
              exact StgOk.nil
            refine MixOk.cons ?_ ?_
            · refine StgOk.cons (fun b rest => ?_) ?_
              · refine SOps.litF rfl sliceB_103_5_1 zeroIs_5 rfl ?_
                exact SOps.nil ⟨b, fun _ => rfl, by first | rfl | simp_all⟩
              exact StgOk.nil
            refine MixOk.cons ?_ ?_
            · refine StgOk.cons (fun b rest => ?_) ?_
              · refine SOps.appendOwn 0 sliceB_103_5_1 elemB_5_1_1 rfl rfl rfl (by rw [List.length_map, keyB_len, hll]) SrcD.isl (by simp) (by first | (simp [lenB] <;> (first | omega | (simp only [lenB]; omega))) | (simp only [lenB]; (first | omega | (simp only [lenB]; omega)))) (by first | (simp <;> (first | omega | (simp only [lenB]; omega))) | (first | omega | (simp only [lenB]; omega))) (fun b4 hb_4 => ?_)
                exact SOps.nil ⟨b4, (fun h => by cases h), rfl⟩
              exact StgOk.nil
            refine MixOk.cons ?_ ?_
            · refine StgOk.cons (fun b rest => ?_) ?_
              · refine SOps.assign rfl ?_
                exact SOps.nil ⟨b, fun _ => rfl, by first | rfl | simp_all⟩
              exact StgOk.nil
            exact MixOk.nil
          · intro bM2
            show SCode _ _ _ _
            refine SCode.region ?_
            refine SOps.addI rfl rfl (by first | omega | (simp only [lenB]; omega)) (by first | omega | (simp only [lenB]; omega)) ?_
            refine SOps.move rfl ?_
            refine SOps.nil ?_
            exact ⟨j + 1, l ++ [cl[tn]], bM2, ⟨by omega, by simp [hll], by rw [sigL_take hi9 hjl htn htl, ← hlt]⟩, by omega, St.Le.of ⟨rfl, rfl, rfl, rfl, rfl, rfl, rfl, rfl, rfl, rfl, rfl, rfl, rfl, trivial⟩ rfl (by rw [keyB_snoc, List.map_append]; rfl)⟩
        · try simp only [decide_eq_true_eq, decide_eq_false_iff_not, Bool.not_eq_true', Bool.not_eq_false', beq_iff_eq, bne_iff_ne, ne_eq, beq_eq_false_iff_ne, bne_eq_false_iff_eq, Int.not_lt, Int.not_le, Nat.not_lt, Nat.not_le, Int.ofNat_lt, Int.ofNat_le, Bool.not_eq_eq_eq_not, Bool.not_true, Bool.not_false] at hc4
          refine SCode.exit ?_
          show SCode _ _ _ _
          refine SCode.seqR ?_
          refine SOps.freezeS (t := 11) 0 rfl rfl rfl (by rw [List.length_map, keyB_len, hll]) ?_
          have hlfull : l = sigL x cl i := by rw [hlt, List.take_of_length_le (by rw [sigL_len hi9]; omega)]
          have hsm : SmN l := by rw [hlfull]; exact sigL_small hcs i
          refine SOps.move rfl ?_
          refine SOps.move rfl ?_
          refine SOps.convBytesStr rfl sliceB_103_5_1 intB_5_u8 strB_9 ?_
          refine SOps.lookupOM 1 (idxL ks l) (fun i => DV.v (.int .i64 ((i : Nat) : Int))) rfl rfl rfl mapB_101 (hmk.keys) zeroIs_3 (hmk.look _ hsm) (fun y5 hy5 => ?_) (fun hy5 => ?_)
          · refine SOps.move rfl ?_
            refine SOps.extract rfl rfl ?_
            refine SOps.extract rfl rfl ?_
            refine SOps.assign rfl ?_
            refine SOps.assign rfl ?_
            refine SOps.nil ?_
            refine SCode.seq ?_
            refine SCode.seqR ?_
            refine SOps.move rfl ?_
            refine SOps.un rfl rfl ?_
            refine SOps.nil ?_
            refine SCode.cond rfl (fun h => by cases h) (fun _ => ?_)
            refine SCode.skip ?_
            show SCode _ _ _ _
            refine SCode.region ?_
            refine SOps.move rfl ?_
            refine SOps.move rfl ?_
            refine SOps.move rfl ?_
            refine SOps.indexS (i) rfl rfl sliceB_39_3_1 (by first | omega | (simp only [lenB]; omega)) (by first | omega | (simp only [lenB]; omega)) ?_
            refine SOps.storeK 0 (i) rfl rfl oneB_3 rfl (by first | omega | (simp only [lenB]; omega)) (by first | omega | (rw [rowZ_len (by omega)]; omega) | (simp; omega)) rfl (fun _ => rfl) ?_
            refine SOps.nil ?_
            show SCode _ _ _ _
            refine SCode.region ?_
            refine SOps.addI rfl rfl (by first | omega | (simp only [lenB]; omega)) (by first | omega | (simp only [lenB]; omega)) ?_
            refine SOps.move rfl ?_
            refine SOps.nil ?_
            first
              | exact ⟨i + 1, ks, es, out ++ [y5], ⟨by omega, by simp [hol], by omega, hmk, by rw [← hnf, sigsL_drop hi9, numF_some (by rw [← hlfull]; exact hy5)]⟩, by omega, St.Le.of ⟨rfl, rfl, rfl, rfl, rfl, rfl, rfl, rfl, trivial⟩ rfl (by rw [← rowR_set hol hi9]; rfl)⟩
              | exact ⟨i + 1, ks ++ [l], updL es (keyV l) (.v (.int .i64 ((ks.length : Nat) : Int))), out ++ [ks.length], ⟨by omega, by simp [hol], by simp; omega, hmk.add hsm hy5, by rw [← hnf, sigsL_drop hi9, numF_none (by rw [← hlfull]; exact hy5), hlfull]⟩, by omega, St.Le.of ⟨rfl, rfl, rfl, rfl, rfl, rfl, rfl, rfl, trivial⟩ rfl (by rw [← rowR_set hol hi9]; rfl)⟩
          · refine SOps.move rfl ?_
            refine SOps.extract rfl rfl ?_
            refine SOps.extract rfl rfl ?_
            refine SOps.assign rfl ?_
            refine SOps.assign rfl ?_
            refine SOps.nil ?_
            refine SCode.seq ?_
            refine SCode.seqR ?_
            refine SOps.move rfl ?_
            refine SOps.un rfl rfl ?_
            refine SOps.nil ?_
            refine SCode.cond rfl (fun _ => ?_) (fun h => by cases h)
            refine SCode.seqR ?_
            refine SOps.move rfl ?_
            refine SOps.lenMapO 1 rfl rfl mapB_101 (by have := hmk.le hkl; simp only [lenB]; omega) ?_
            refine SOps.reSlot (t := 88) rfl (show _ = DV.v (.int .i64 ((ks.length : Nat) : Int)) by rw [hmk.len]) ?_
            refine SOps.assign rfl ?_
            refine SOps.nil ?_
            refine SCode.region ?_
            refine SOps.move rfl ?_
            refine SOps.move rfl ?_
            refine SOps.convBytesStr rfl sliceB_103_5_1 intB_5_u8 strB_9 ?_
            refine SOps.move rfl ?_
            refine SOps.mapUpdate 1 rfl rfl rfl rfl mapB_101 rfl (hmk.keys) ?_
            refine SOps.nil ?_
            show SCode _ _ _ _
            refine SCode.region ?_
            refine SOps.move rfl ?_
            refine SOps.move rfl ?_
            refine SOps.move rfl ?_
            refine SOps.indexS (i) rfl rfl sliceB_39_3_1 (by first | omega | (simp only [lenB]; omega)) (by first | omega | (simp only [lenB]; omega)) ?_
            refine SOps.storeK 0 (i) rfl rfl oneB_3 rfl (by first | omega | (simp only [lenB]; omega)) (by first | omega | (rw [rowZ_len (by omega)]; omega) | (simp; omega)) rfl (fun _ => rfl) ?_
            refine SOps.nil ?_
            show SCode _ _ _ _
            refine SCode.region ?_
            refine SOps.addI rfl rfl (by first | omega | (simp only [lenB]; omega)) (by first | omega | (simp only [lenB]; omega)) ?_
            refine SOps.move rfl ?_
            refine SOps.nil ?_
            first
              | exact ⟨i + 1, ks, es, out ++ [y5], ⟨by omega, by simp [hol], by omega, hmk, by rw [← hnf, sigsL_drop hi9, numF_some (by rw [← hlfull]; exact hy5)]⟩, by omega, St.Le.of ⟨rfl, rfl, rfl, rfl, rfl, rfl, rfl, rfl, trivial⟩ rfl (by rw [← rowR_set hol hi9]; rfl)⟩
              | exact ⟨i + 1, ks ++ [l], updL es (keyV l) (.v (.int .i64 ((ks.length : Nat) : Int))), out ++ [ks.length], ⟨by omega, by simp [hol], by simp; omega, hmk.add hsm hy5, by rw [← hnf, sigsL_drop hi9, numF_none (by rw [← hlfull]; exact hy5), hlfull]⟩, by omega, St.Le.of ⟨rfl, rfl, rfl, rfl, rfl, rfl, rfl, rfl, trivial⟩ rfl (by rw [← rowR_set hol hi9]; rfl)⟩
    · try simp only [decide_eq_true_eq, decide_eq_false_iff_not, Bool.not_eq_true', Bool.not_eq_false', beq_iff_eq, bne_iff_ne, ne_eq, beq_eq_false_iff_ne, bne_eq_false_iff_eq, Int.not_lt, Int.not_le, Nat.not_lt, Nat.not_le, Int.ofNat_lt, Int.ofNat_le, Bool.not_eq_eq_eq_not, Bool.not_true, Bool.not_false] at hc3
      refine SCode.exit ?_
      show SCode _ _ _ _
      refine SCode.seqR ?_
      have hrd : roundL x cl = (ks, out) := by rw [← hnf, numF_end (by omega)]
      have hrs := round_small (x := x) cl
      rw [hrd] at hrs
      dsimp only at hrs
      have hgr := round_grow hcl hcv
      rw [hrd] at hgr
      dsimp only at hgr
      have hrcov : Cov out ks.length := by have := (round_ok x cl).cov; rw [hrd] at this; exact this
      refine SOps.move rfl ?_
      refine SOps.assign rfl ?_
      refine SOps.nil ?_
      refine SCode.seq ?_
      refine SCode.seqR ?_
      refine SOps.move rfl ?_
      refine SOps.lenMapO 1 rfl rfl mapB_101 (by have := hmk.le hkl; simp only [lenB]; omega) ?_
      refine SOps.reSlot (t := 100) rfl (show _ = DV.v (.int .i64 ((ks.length : Nat) : Int)) by rw [hmk.len]) ?_
      refine SOps.move rfl ?_
      refine SOps.bin rfl rfl rfl ?_
      refine SOps.nil ?_
      refine SCode.cond rfl (fun hc6 => ?_) (fun hc6 => ?_)
      · try simp only [decide_eq_true_eq, decide_eq_false_iff_not, Bool.not_eq_true', Bool.not_eq_false', beq_iff_eq, bne_iff_ne, ne_eq, beq_eq_false_iff_ne, bne_eq_false_iff_eq, Int.not_lt, Int.not_le, Nat.not_lt, Nat.not_le, Int.ofNat_lt, Int.ofNat_le, Bool.not_eq_eq_eq_not, Bool.not_true, Bool.not_false] at hc6
        refine SCode.seqR ?_
        refine SOps.freezeS (t := 3) 0 rfl rfl rfl (by simp; omega) ?_
        refine SOps.move rfl ?_
        refine SOps.assign rfl ?_
        refine SOps.nil ?_
        refine SCode.drop ?_
        refine SCode.ret ?_
        exact ⟨_, Res.one (.tmp rfl), by rw [← hcf, clsF_stop hrd (by omega), show x.nxt.length - i = 0 by omega, List.replicate_zero, List.append_nil], rfl⟩
      · try simp only [decide_eq_true_eq, decide_eq_false_iff_not, Bool.not_eq_true', Bool.not_eq_false', beq_iff_eq, bne_iff_ne, ne_eq, beq_eq_false_iff_ne, bne_eq_false_iff_eq, Int.not_lt, Int.not_le, Nat.not_lt, Nat.not_le, Int.ofNat_lt, Int.ofNat_le, Bool.not_eq_eq_eq_not, Bool.not_true, Bool.not_false] at hc6
        refine SCode.skip ?_
        show SCode _ _ _ _
        refine SCode.region ?_
        refine SOps.move rfl ?_
        refine SOps.lenMapO 1 rfl rfl mapB_101 (by have := hmk.le hkl; simp only [lenB]; omega) ?_
        refine SOps.reSlot (t := 105) rfl (show _ = DV.v (.int .i64 ((ks.length : Nat) : Int)) by rw [hmk.len]) ?_
        refine SOps.assign rfl ?_
        refine SOps.nil ?_
        exact ⟨out, ks.length, f, b2, ⟨by omega, fun v hv => by have := hrs.2 v hv; omega, hrcov, by omega, by rw [← hcf, clsF_go hrd (fun h => hc6 (by rw [h]))]⟩, by omega, St.Le.ofSub ⟨rfl, rfl, rfl, trivial⟩ (by rw [show x.nxt.length - i = 0 by omega, List.replicate_zero, List.append_nil]; exact List.Sublist.cons_cons _ (List.nil_sublist _))⟩
theorem aMinimal (x : Acc)  : GCall Tryd.prog E 19 [.agg (encAcc x)] [] (fun d H => d = (if accOK x = true ∧ widthA x ≤ 65 then .agg (encAcc (minA x)) else .agg [.v (.int .i64 0), .v (.slice none 0 0), .v (.slice none 0 0)])) := by
  refine GCall.body (C := ⟨Tryd.prog, E, true⟩) Tryd.func19 rfl (fun _ => rfl) (by kernel_rfl) rfl ?_
  refine SCode.seqR ?_
  refine SOps.boxAM rfl rfl ?_
  refine SOps.alloc (sz := 3) zeroIs_28 (fun b0 hb_0 => ?_)
  refine SOps.nil ?_
  refine SCode.seqR ?_
  refine SOps.loadPinA rfl aggB_28_3 (Nat.le_of_ble_eq_true rfl) ?_
  by_cases hax : accOK x = true
  · refine SOps.callP (aValid _) rfl ?_
    rintro _ rfl
    rw [if_pos hax]
    refine SOps.move rfl ?_
    refine SOps.extract rfl rfl ?_
    refine SOps.extract rfl rfl ?_
    refine SOps.assign rfl ?_
    refine SOps.assign rfl ?_
    refine SOps.nil ?_
    refine SCode.seq ?_
    refine SCode.seqR ?_
    refine SOps.move rfl ?_
    refine SOps.un rfl rfl ?_
    refine SOps.nil ?_
    refine SCode.cond rfl (fun hc1 => ?_) (fun hc1 => ?_)
    · try simp only [decide_eq_true_eq, decide_eq_false_iff_not, Bool.not_eq_true', Bool.not_eq_false', beq_iff_eq, bne_iff_ne, ne_eq, beq_eq_false_iff_ne, bne_eq_false_iff_eq, Int.not_lt, Int.not_le, Nat.not_lt, Nat.not_le, Int.ofNat_lt, Int.ofNat_le, Bool.not_eq_eq_eq_not, Bool.not_true, Bool.not_false] at hc1
      refine SCode.seqR ?_
      refine SOps.buildM placesB_28 zeroIs_28 rfl rfl ?_
      refine SOps.storeAM 0 rfl rfl aggB_28_3 rfl ?_
      refine SOps.nil ?_
      refine SCode.ret ?_
      exact ⟨_, Res.one (.agg (i := 0) (k := 0) (j := 0) rfl aggB_28_3 rfl rfl rfl (Nat.le_of_ble_eq_true rfl)), (by rw [if_neg (by intro h; first | exact hax h.1 | omega)]; rfl)⟩
    · try simp only [decide_eq_true_eq, decide_eq_false_iff_not, Bool.not_eq_true', Bool.not_eq_false', beq_iff_eq, bne_iff_ne, ne_eq, beq_eq_false_iff_ne, bne_eq_false_iff_eq, Int.not_lt, Int.not_le, Nat.not_lt, Nat.not_le, Int.ofNat_lt, Int.ofNat_le, Bool.not_eq_eq_eq_not, Bool.not_true, Bool.not_false] at hc1
      refine SCode.skip ?_
      show SCode _ _ _ _
      refine SCode.seqR ?_
      have h65 : widthA x ≤ 65 := by omega
      have hho := headOK_iff.1 (by have h := hax; simp only [accOK, Bool.and_eq_true] at h; exact h.1)
      have hst := start_lt hax
      have hcl := clsR_len hax
      refine SOps.loadPinA rfl aggB_28_3 (Nat.le_of_ble_eq_true rfl) ?_
      refine SOps.callP (aClasses _ hax h65) rfl ?_
      rintro _ rfl
      refine SOps.assign rfl ?_
      refine SOps.nil ?_
      refine SCode.seqR ?_
      refine SOps.makeMap0 (fun b1 hb_1 => ?_)
      refine SOps.move rfl ?_
      refine SOps.fieldPin rfl fieldB_28_0_0 ?_
      refine SOps.loadPin rfl flatB_3 ?_
      refine SOps.reSlot (t := 28) rfl (show _ = DV.v (.int .i64 ((x.start.toNat : Nat) : Int)) from congrArg (fun n => DV.v (.int .i64 n)) hst.2.symm) ?_
      refine SOps.indexM (x.start.toNat) rfl rfl sliceB_39_3_1 (by first | omega | (simp only [lenB]; omega)) (by first | omega | (simp only [lenB]; omega)) ?_
      refine SOps.loadPin rfl flatB_3 ?_
      refine SOps.reSlot (t := 30) rfl (show _ = DV.v (.int .i64 ((((clsR x).getD x.start.toNat 0) : Nat) : Int)) from congrArg (fun n : Nat => DV.v (.int .i64 (n : Int))) (getD_at (by omega)).symm) ?_
      refine SOps.insert 0 rfl rfl rfl rfl mapB_77 rfl (fun p hp => by cases hp) ?_
      refine SOps.move rfl ?_
      refine SOps.assign rfl ?_
      refine SOps.nil ?_
      refine SCode.seqR ?_
      refine SOps.fieldPin rfl fieldB_28_0_0 ?_
      refine SOps.loadPin rfl flatB_3 ?_
      refine SOps.reSlot (t := 33) rfl (show _ = DV.v (.int .i64 ((x.start.toNat : Nat) : Int)) from congrArg (fun n => DV.v (.int .i64 n)) hst.2.symm) ?_
      refine SOps.litO sliceB_39_3_1 zeroIs_3 rfl (fun b2 hb_2 => ?_)
      refine SOps.assign rfl ?_
      refine SOps.nil ?_
      refine SCode.seqR ?_
      refine SOps.alloc (sz := 3) zeroIs_28 (fun b3 hb_3 => ?_)
      refine SOps.nil ?_
      refine SCode.seq ?_
      refine SCode.seqR ?_
      refine SOps.assign rfl ?_
      refine SOps.nil ?_
      refine SCode.block ?_
      refine SCode.loop8 (fun (i : Nat) (qs : List Nat) (es : List (Value × DV)) (kq : Nat) (fins : List Bool) (kf : Nat) (nxt : List (List Nat)) (kn : Nat) => (⟨105, [(1, .ipin (encAcc x)), (2, .ref b0 0), (3, .v (.int .i64 (((widthA x) : Nat) : Int))), (5, DNats (clsR x)), (6, .mp b1), (7, .sl kq 1 0 qs.length), (8, .ref b3 0), (9, .v (.int .i64 (i : Int)))], [(b3, .row 28 3 [[.v (.int .i64 0), accD 1 kf (fins.map encB), accD 1 kn (nxt.map encRN)]]), (kq, .row 3 1 (qs.map encN)), (b1, .map es), (b0, .row 28 3 [[.v (.int .i64 0), .v (.slice none 0 0), .v (.slice none 0 0)]])] ++ (accH 4 1 kf (fins.map encB) ++ (accH 39 1 kn (nxt.map encRN) ++ []))⟩ : St)) (fun (i : Nat) (qs : List Nat) (es : List (Value × DV)) (kq : Nat) (fins : List Bool) (kf : Nat) (nxt : List (List Nat)) (kn : Nat) => i ≤ qs.length ∧ 0 < qs.length ∧ QsE x qs ∧ MapOI es (qs.map (fun q => (clsR x).getD q 0)) ∧ fins.length = i ∧ nxt.length = i ∧ minE (eqC (clsR x)) (nxL x) (finN x) (513 - i) i qs fins nxt = minRun x) (fun (i : Nat) (qs : List Nat) (es : List (Value × DV)) (kq : Nat) (fins : List Bool) (kf : Nat) (nxt : List (List Nat)) (kn : Nat) => 512 - i) (0) ([x.start.toNat]) (updL [] (.int .i64 (((clsR x).getD x.start.toNat 0 : Nat) : Int)) (.v (.int .i64 0))) (b2) ([]) (0) ([]) (0) (by exact ⟨Nat.zero_le _, Nat.one_pos, QsE.one hax, MapOI.nil.add rfl, rfl, rfl, rfl⟩) (St.Le.of ⟨(by first | rfl | (show some _ = some _; simp)), (by first | rfl | (show some _ = some _; simp)), (by first | rfl | (show some _ = some _; simp)), (by first | rfl | (show some _ = some _; simp)), (by first | rfl | (show some _ = some _; simp)), (by first | rfl | (show some _ = some _; simp)), (by first | rfl | (show some _ = some _; simp)), (by first | rfl | (show some _ = some _; simp)), trivial⟩ rfl (by first | rfl | (simp))) ?_
      rintro i qs es kq fins kf nxt kn ⟨hi, hqp, hqo, hmo, hfl, hnl, hacc⟩
      have hql := hqo.len hax
      refine SCode.seq ?_
      refine SCode.seqR ?_
      refine SOps.move rfl ?_
      refine SOps.move rfl ?_
      refine SOps.lenSl rfl sliceB_39_3_1 ?_
      refine SOps.bin rfl rfl rfl ?_
      refine SOps.nil ?_
      refine SCode.cond rfl (fun hc2 => ?_) (fun hc2 => ?_)
      · try simp only [decide_eq_true_eq, decide_eq_false_iff_not, Bool.not_eq_true', Bool.not_eq_false', beq_iff_eq, bne_iff_ne, ne_eq, beq_eq_false_iff_ne, bne_eq_false_iff_eq, Int.not_lt, Int.not_le, Nat.not_lt, Nat.not_le, Int.ofNat_lt, Int.ofNat_le, Bool.not_eq_eq_eq_not, Bool.not_true, Bool.not_false] at hc2
        refine SCode.skip ?_
        show SCode _ _ _ _
        refine SCode.seq ?_
        refine SCode.block ?_
        refine SCode.seqR ?_
        refine SOps.move rfl ?_
        refine SOps.makeK (f := encN) ((widthA x)) (0) sliceB_39_3_1 elemB_3_1_8 zeroIs_3 rfl rfl (by first | omega | (simp only [lenB]; omega)) (by first | omega | (simp only [lenB]; omega)) rfl (by first | omega | (simp only [lenB]; omega)) (by simp only [lenB]; omega) (fun b4 hb_4 => ?_)
        refine SOps.assign rfl ?_
        refine SOps.nil ?_
        refine SCode.seq ?_
        refine SCode.seq ?_
        have hi7 : i < qs.length := by omega
        have hqi := hqo.good _ (List.getElem_mem hi7)
        have hrow := accOK_row hax hqi
        have hfull : (nxL x (qs[i])).drop (widthA x) = [] := List.drop_eq_nil_of_le (by rw [nxL_len hax hqi]; exact Nat.le_refl _)
        refine SCode.drawPure mixed_ [(43, .ipin ((encAcc x).drop 2)), (44, DTab x.nxt), (45, .sl kq 1 0 qs.length), (46, .v (.int .i64 (i : Int))), (47, .ref kq ((0 + i) * 1)), (48, .v (.int .i64 ((qs[i] : Nat) : Int))), (49, .ipin (encRI (x.nxt[qs[i]]))), (50, DInts (x.nxt[qs[i]])), (51, .v (.int .i64 (((x.nxt[qs[i]]).length : Nat) : Int))), (52, .v (.int .i64 0))] [43, 44, 45, 46, 47, 48, 49, 50, 51, 52] [[.inr 1], [.inl 0], [.inr 7], [.inr 9], [.inl 2, .inl 3], [.inl 4], [.inl 1, .inl 5], [.inl 6], [.inl 7], []] [[(1, .ipin (encAcc x))], [(43, .ipin ((encAcc x).drop 2))], [(7, .sl kq 1 0 qs.length)], [(9, .v (.int .i64 (i : Int)))], [(45, .sl kq 1 0 qs.length), (46, .v (.int .i64 (i : Int)))], [(47, .ref kq ((0 + i) * 1))], [(44, DTab x.nxt), (48, .v (.int .i64 ((qs[i] : Nat) : Int)))], [(49, .ipin (encRI (x.nxt[qs[i]])))], [(50, DInts (x.nxt[qs[i]]))], []] rfl (by kernel_rfl) (by kernel_rfl) rfl ?_ ?_
        · refine OpsOk.cons (fun rest => ?_) ?_
          · refine SOps.fieldPin rfl fieldB_28_2_2 ?_
            exact SOps.nil (by first | rfl | simp_all)
          refine OpsOk.cons (fun rest => ?_) ?_
          · refine SOps.loadPin rfl flatB_26 ?_
            exact SOps.nil (by first | rfl | simp_all)
          refine OpsOk.cons (fun rest => ?_) ?_
          · refine SOps.move rfl ?_
            exact SOps.nil (by first | rfl | simp_all)
          refine OpsOk.cons (fun rest => ?_) ?_
          · refine SOps.move rfl ?_
            exact SOps.nil (by first | rfl | simp_all)
          refine OpsOk.cons (fun rest => ?_) ?_
          · refine SOps.indexS (i) rfl rfl sliceB_39_3_1 (by first | omega | (simp only [lenB]; omega)) (by first | omega | (simp only [lenB]; omega)) ?_
            exact SOps.nil (by first | rfl | simp_all)
          refine OpsOk.cons (fun rest => ?_) ?_
          · refine SOps.loadK 2 (i) rfl flatB_3 rfl (by first | omega | (simp only [lenB]; omega)) (by first | omega | (simp; omega)) rfl ?_
            exact SOps.nil (by first | rfl | simp_all)
          refine OpsOk.cons (fun rest => ?_) ?_
          · refine SOps.indexM (qs[i]) rfl rfl sliceB_26_39_1 (by first | omega | (simp only [lenB]; omega)) (by first | omega | (simp only [lenB]; omega)) ?_
            exact SOps.nil (by first | rfl | simp_all)
          refine OpsOk.cons (fun rest => ?_) ?_
          · refine SOps.loadPin rfl flatB_39 ?_
            exact SOps.nil (by first | rfl | simp_all)
          refine OpsOk.cons (fun rest => ?_) ?_
          · refine SOps.lenM rfl sliceB_39_3_1 ?_
            exact SOps.nil (by first | rfl | simp_all)
          refine OpsOk.cons (fun rest => ?_) ?_
          · refine SOps.move rfl ?_
            exact SOps.nil (by first | rfl | simp_all)
          exact OpsOk.nil
        · show SCode _ _ _ _
          refine SCode.block ?_
          refine SCode.loop5 (fun (j : Nat) (q2 : List Nat) (done : List Nat) (es2 : List (Value × DV)) (kq2 : Nat) => (⟨105, [(1, .ipin (encAcc x)), (2, .ref b0 0), (3, .v (.int .i64 (((widthA x) : Nat) : Int))), (5, DNats (clsR x)), (6, .mp b1), (7, .sl kq2 1 0 q2.length), (8, .ref b3 0), (9, .v (.int .i64 (i : Int))), (10, .sl b4 1 0 (widthA x)), (50, DInts (x.nxt[qs[i]])), (51, .v (.int .i64 (((x.nxt[qs[i]]).length : Nat) : Int))), (52, .v (.int .i64 (j : Int)))], [(b4, .row 3 1 ((done ++ List.replicate (widthA x - j) 0).map encN))] ++ ([(b3, .row 28 3 [[.v (.int .i64 0), accD 1 kf (fins.map encB), accD 1 kn (nxt.map encRN)]]), (kq2, .row 3 1 (q2.map encN)), (b1, .map es2), (b0, .row 28 3 [[.v (.int .i64 0), .v (.slice none 0 0), .v (.slice none 0 0)]])] ++ (accH 4 1 kf (fins.map encB) ++ (accH 39 1 kn (nxt.map encRN) ++ [])))⟩ : St)) (fun (j : Nat) (q2 : List Nat) (done : List Nat) (es2 : List (Value × DV)) (kq2 : Nat) => ∃ (hi2 : i < q2.length), q2[i] = qs[i] ∧ j ≤ widthA x ∧ done.length = j ∧ QsE x q2 ∧ MapOI es2 (q2.map (fun q => (clsR x).getD q 0)) ∧ rowE (eqC (clsR x)) ((nxL x (qs[i])).drop j) q2 done = rowE (eqC (clsR x)) (nxL x (qs[i])) qs []) (fun (j : Nat) (q2 : List Nat) (done : List Nat) (es2 : List (Value × DV)) (kq2 : Nat) => widthA x - j) (0) (qs) ([]) (es) (kq) (by exact ⟨hi7, rfl, Nat.zero_le _, rfl, hqo, hmo, rfl⟩) (St.Le.of ⟨(by first | rfl | (show some _ = some _; simp)), (by first | rfl | (show some _ = some _; simp)), (by first | rfl | (show some _ = some _; simp)), (by first | rfl | (show some _ = some _; simp)), (by first | rfl | (show some _ = some _; simp)), (by first | rfl | (show some _ = some _; simp)), (by first | rfl | (show some _ = some _; simp)), (by first | rfl | (show some _ = some _; simp)), (by first | rfl | (show some _ = some _; simp)), (by first | rfl | (show some _ = some _; simp)), (by first | rfl | (show some _ = some _; simp)), (by first | rfl | (show some _ = some _; simp)), trivial⟩ rfl (by first | rfl | (simp))) ?_
          rintro j q2 done es2 kq2 ⟨hi2, hqe, hj, hdl, hqk, hmk, hrw⟩
          have hql2 := hqk.len hax
          refine SCode.seqR ?_
          refine SOps.bin rfl rfl rfl ?_
          refine SOps.nil ?_
          refine SCode.seq ?_
          refine SCode.cond rfl (fun hc3 => ?_) (fun hc3 => ?_)
          · try simp only [decide_eq_true_eq, decide_eq_false_iff_not, Bool.not_eq_true', Bool.not_eq_false', beq_iff_eq, bne_iff_ne, ne_eq, beq_eq_false_iff_ne, bne_eq_false_iff_eq, Int.not_lt, Int.not_le, Nat.not_lt, Nat.not_le, Int.ofNat_lt, Int.ofNat_le, Bool.not_eq_eq_eq_not, Bool.not_true, Bool.not_false] at hc3
            refine SCode.skip ?_
            show SCode _ _ _ _
            refine SCode.seq ?_
            refine SCode.block ?_
            refine SCode.seqR ?_
            refine SOps.move rfl ?_
            refine SOps.indexM (j) rfl rfl sliceB_39_3_1 (by first | omega | (simp only [lenB]; omega)) (by first | omega | (simp only [lenB]; omega)) ?_
            refine SOps.loadPin rfl flatB_3 ?_
            refine SOps.assign rfl ?_
            refine SOps.assign rfl ?_
            refine SOps.nil ?_
            refine SCode.seqR ?_
            have hjl : j < (x.nxt[qs[i]]).length := by omega
            have hja : j < widthA x := by omega
            obtain ⟨tn, htn, htl⟩ : ∃ tn : Nat, (x.nxt[qs[i]])[j] = (tn : Int) ∧ tn < x.nxt.length := by have := hrow.2 _ (List.getElem_mem hjl); exact ⟨((x.nxt[qs[i]])[j]).toNat, by omega, by omega⟩
            have hctl : tn < (clsR x).length := by omega
            have hdr := nxL_drop hqi hjl htn
            refine SOps.reSlot (t := 12) rfl (show _ = DV.v (.int .i64 (tn : Int)) from congrArg (fun n => DV.v (.int .i64 n)) htn) ?_
            refine SOps.move rfl ?_
            refine SOps.move rfl ?_
            refine SOps.move rfl ?_
            refine SOps.indexM (tn) rfl rfl sliceB_39_3_1 (by first | omega | (simp only [lenB]; omega)) (by first | omega | (simp only [lenB]; omega)) ?_
            refine SOps.loadPin rfl flatB_3 ?_
            refine SOps.reSlot (t := 62) rfl (show _ = DV.v (.int .i64 ((((clsR x).getD tn 0) : Nat) : Int)) from congrArg (fun n : Nat => DV.v (.int .i64 (n : Int))) (getD_at hctl).symm) ?_
            refine SOps.lookupOM 3 (idxN (q2.map (fun q => (clsR x).getD q 0)) ((clsR x).getD tn 0)) (fun i => DV.v (.int .i64 ((i : Nat) : Int))) rfl rfl rfl mapB_77 (hmk.keys) zeroIs_3 (hmk.look _) (fun y4 hy4 => ?_) (fun hy4 => ?_)
            · refine SOps.move rfl ?_
              refine SOps.extract rfl rfl ?_
              refine SOps.extract rfl rfl ?_
              refine SOps.assign rfl ?_
              refine SOps.assign rfl ?_
              refine SOps.nil ?_
              refine SCode.seq ?_
              refine SCode.seqR ?_
              refine SOps.move rfl ?_
              refine SOps.un rfl rfl ?_
              refine SOps.nil ?_
              refine SCode.cond rfl (fun h => by cases h) (fun _ => ?_)
              refine SCode.skip ?_
              show SCode _ _ _ _
              refine SCode.region ?_
              refine SOps.move rfl ?_
              refine SOps.move rfl ?_
              refine SOps.move rfl ?_
              refine SOps.indexS (j) rfl rfl sliceB_39_3_1 (by first | omega | (simp only [lenB]; omega)) (by first | omega | (simp only [lenB]; omega)) ?_
              refine SOps.storeK 0 (j) rfl rfl oneB_3 rfl (by first | omega | (simp only [lenB]; omega)) (by first | omega | (simp; omega)) rfl (fun _ => rfl) ?_
              refine SOps.nil ?_
              show SCode _ _ _ _
              refine SCode.region ?_
              refine SOps.addI rfl rfl (by first | omega | (simp only [lenB]; omega)) (by first | omega | (simp only [lenB]; omega)) ?_
              refine SOps.move rfl ?_
              refine SOps.nil ?_
              first
                | exact ⟨j + 1, q2, done ++ [y4], es2, kq2, ⟨hi2, hqe, by omega, by simp [hdl], hqk, hmk, by rw [← hrw, hdr, rowE_some (by rw [idxE_cls]; exact hy4)]⟩, by omega, St.Le.of ⟨rfl, rfl, rfl, rfl, rfl, rfl, rfl, rfl, rfl, rfl, rfl, rfl, trivial⟩ rfl (by rw [← rowR_set hdl hja]; rfl)⟩
                | exact ⟨j + 1, q2 ++ [tn], done ++ [q2.length], updL es2 (.int .i64 (((clsR x).getD tn 0 : Nat) : Int)) (.v (.int .i64 ((q2.length : Nat) : Int))), b5, ⟨by simp; omega, by rw [List.getElem_append_left hi2]; exact hqe, by omega, by simp [hdl], hqk.add (by rw [idxE_cls]; exact hy4) htl, by rw [List.map_append]; have := hmk.add hy4; rw [List.length_map] at this; exact this, by rw [← hrw, hdr, rowE_none (by rw [idxE_cls]; exact hy4)]⟩, by omega, St.Le.of ⟨rfl, rfl, rfl, rfl, rfl, (by show some _ = some _; simp), rfl, rfl, rfl, rfl, rfl, rfl, trivial⟩ rfl (by rw [← rowR_set hdl hja, List.map_append]; rfl)⟩
            · refine SOps.move rfl ?_
              refine SOps.extract rfl rfl ?_
              refine SOps.extract rfl rfl ?_
              refine SOps.assign rfl ?_
              refine SOps.assign rfl ?_
              refine SOps.nil ?_
              refine SCode.seq ?_
              refine SCode.seqR ?_
              refine SOps.move rfl ?_
              refine SOps.un rfl rfl ?_
              refine SOps.nil ?_
              refine SCode.cond rfl (fun _ => ?_) (fun h => by cases h)
              refine SCode.seqR ?_
              refine SOps.move rfl ?_
              refine SOps.lenSl rfl sliceB_39_3_1 ?_
              refine SOps.assign rfl ?_
              refine SOps.nil ?_
              refine SCode.seqR ?_
              refine SOps.move rfl ?_
              refine SOps.move rfl ?_
              refine SOps.move rfl ?_
              refine SOps.indexM (tn) rfl rfl sliceB_39_3_1 (by first | omega | (simp only [lenB]; omega)) (by first | omega | (simp only [lenB]; omega)) ?_
              refine SOps.loadPin rfl flatB_3 ?_
              refine SOps.reSlot (t := 74) rfl (show _ = DV.v (.int .i64 ((((clsR x).getD tn 0) : Nat) : Int)) from congrArg (fun n : Nat => DV.v (.int .i64 (n : Int))) (getD_at hctl).symm) ?_
              refine SOps.move rfl ?_
              refine SOps.mapUpdate 3 rfl rfl rfl rfl mapB_77 rfl (hmk.keys) ?_
              refine SOps.nil ?_
              refine SCode.region ?_
              refine SOps.move rfl ?_
              refine SOps.move rfl ?_
              refine SOps.litF rfl sliceB_39_3_1 zeroIs_3 rfl ?_
              refine SOps.appendOwn 2 sliceB_39_3_1 elemB_3_1_8 rfl rfl rfl (by simp) SrcD.isl (by simp) (by first | (simp [lenB] <;> (first | omega | (simp only [lenB]; omega))) | (simp only [lenB]; (first | omega | (simp only [lenB]; omega)))) (by first | (simp <;> (first | omega | (simp only [lenB]; omega))) | (first | omega | (simp only [lenB]; omega))) (fun b5 hb_5 => ?_)
              refine SOps.assign rfl ?_
              refine SOps.nil ?_
              show SCode _ _ _ _
              refine SCode.region ?_
              refine SOps.move rfl ?_
              refine SOps.move rfl ?_
              refine SOps.move rfl ?_
              refine SOps.indexS (j) rfl rfl sliceB_39_3_1 (by first | omega | (simp only [lenB]; omega)) (by first | omega | (simp only [lenB]; omega)) ?_
              refine SOps.storeK 0 (j) rfl rfl oneB_3 rfl (by first | omega | (simp only [lenB]; omega)) (by first | omega | (simp; omega)) rfl (fun _ => rfl) ?_
              refine SOps.nil ?_
              show SCode _ _ _ _
              refine SCode.region ?_
              refine SOps.addI rfl rfl (by first | omega | (simp only [lenB]; omega)) (by first | omega | (simp only [lenB]; omega)) ?_
              refine SOps.move rfl ?_
              refine SOps.nil ?_
              first
                | exact ⟨j + 1, q2, done ++ [y4], es2, kq2, ⟨hi2, hqe, by omega, by simp [hdl], hqk, hmk, by rw [← hrw, hdr, rowE_some (by rw [idxE_cls]; exact hy4)]⟩, by omega, St.Le.of ⟨rfl, rfl, rfl, rfl, rfl, rfl, rfl, rfl, rfl, rfl, rfl, rfl, trivial⟩ rfl (by rw [← rowR_set hdl hja]; rfl)⟩
                | exact ⟨j + 1, q2 ++ [tn], done ++ [q2.length], updL es2 (.int .i64 (((clsR x).getD tn 0 : Nat) : Int)) (.v (.int .i64 ((q2.length : Nat) : Int))), b5, ⟨by simp; omega, by rw [List.getElem_append_left hi2]; exact hqe, by omega, by simp [hdl], hqk.add (by rw [idxE_cls]; exact hy4) htl, by rw [List.map_append]; have := hmk.add hy4; rw [List.length_map] at this; exact this, by rw [← hrw, hdr, rowE_none (by rw [idxE_cls]; exact hy4)]⟩, by omega, St.Le.of ⟨rfl, rfl, rfl, rfl, rfl, (by show some _ = some _; simp), rfl, rfl, rfl, rfl, rfl, rfl, trivial⟩ rfl (by rw [← rowR_set hdl hja, List.map_append]; rfl)⟩
          · try simp only [decide_eq_true_eq, decide_eq_false_iff_not, Bool.not_eq_true', Bool.not_eq_false', beq_iff_eq, bne_iff_ne, ne_eq, beq_eq_false_iff_ne, bne_eq_false_iff_eq, Int.not_lt, Int.not_le, Nat.not_lt, Nat.not_le, Int.ofNat_lt, Int.ofNat_le, Bool.not_eq_eq_eq_not, Bool.not_true, Bool.not_false] at hc3
            refine SCode.exit ?_
            show SCode _ _ _ _
            refine SCode.seq ?_
            obtain rfl : j = widthA x := by omega
            have hqf : q2[i] < x.fin.length := by have := hqk.good _ (List.getElem_mem hi2); omega
            refine SCode.weaken (st' := (⟨105, [(1, .ipin (encAcc x)), (2, .ref b0 0), (3, .v (.int .i64 (((widthA x) : Nat) : Int))), (5, DNats (clsR x)), (6, .mp b1), (7, .sl kq2 1 0 q2.length), (8, .ref b3 0), (9, .v (.int .i64 (i : Int))), (10, .sl b4 1 0 (widthA x))], [(b4, .row 3 1 ((done ++ List.replicate (widthA x - widthA x) 0).map encN))] ++ ([(b3, .row 28 3 [[.v (.int .i64 0), accD 1 kf (fins.map encB), accD 1 kn (nxt.map encRN)]]), (kq2, .row 3 1 (q2.map encN)), (b1, .map es2), (b0, .row 28 3 [[.v (.int .i64 0), .v (.slice none 0 0), .v (.slice none 0 0)]])] ++ (accH 4 1 kf (fins.map encB) ++ (accH 39 1 kn (nxt.map encRN) ++ [])))⟩ : St)) (St.Le.of ⟨rfl, rfl, rfl, rfl, rfl, rfl, rfl, rfl, rfl, trivial⟩) ?_
            refine SCode.drawMix 15 [11, 12, 13] mixed_ [fun b => some (85, .ref b3 (0 + 1)), fun b => some (86, accD 1 kf (fins.map encB)), fun b => some (87, .ipin ((encAcc x).drop 1)), fun b => some (88, DBools x.fin), fun b => some (89, .sl kq2 1 0 q2.length), fun b => some (90, .v (.int .i64 (i : Int))), fun b => some (91, .ref kq2 ((0 + i) * 1)), fun b => some (92, .v (.int .i64 ((q2[i] : Nat) : Int))), fun b => some (93, .ipin (encB (x.fin[q2[i]]))), fun b => some (94, .v (.bool (x.fin[q2[i]]))), fun b => some (95, .isl false 1 [[.v (.bool (x.fin[q2[i]]))]]), fun b => some (96, accD 1 b (fins.map encB ++ [[.v (.bool (x.fin[q2[i]]))]])), fun b => some (97, .ref b3 (0 + 1)), fun b => none] [some 85, some 86, some 87, some 88, some 89, some 90, some 91, some 92, some 93, some 94, some 95, some 96, some 97, none] [[.inr 8], [.inl 0], [.inr 1], [.inl 2], [.inr 7], [.inr 9], [.inl 4, .inl 5], [.inl 6], [.inl 3, .inl 7], [.inl 8], [.inl 9], [.inl 1, .inl 10], [.inr 8], [.inl 12, .inl 11]] [fun b => [(8, .ref b3 0)], fun b => [(85, .ref b3 (0 + 1))], fun b => [(1, .ipin (encAcc x))], fun b => [(87, .ipin ((encAcc x).drop 1))], fun b => [(7, .sl kq2 1 0 q2.length)], fun b => [(9, .v (.int .i64 (i : Int)))], fun b => [(89, .sl kq2 1 0 q2.length), (90, .v (.int .i64 (i : Int)))], fun b => [(91, .ref kq2 ((0 + i) * 1))], fun b => [(88, DBools x.fin), (92, .v (.int .i64 ((q2[i] : Nat) : Int)))], fun b => [(93, .ipin (encB (x.fin[q2[i]])))], fun b => [(94, .v (.bool (x.fin[q2[i]])))], fun b => [(86, accD 1 kf (fins.map encB)), (95, .isl false 1 [[.v (.bool (x.fin[q2[i]]))]])], fun b => [(8, .ref b3 0)], fun b => [(97, .ref b3 (0 + 1)), (96, accD 1 b (fins.map encB ++ [[.v (.bool (x.fin[q2[i]]))]]))]] (fun b c => match c with | 0 => [(b4, .row 3 1 ((done ++ List.replicate (widthA x - widthA x) 0).map encN))] ++ ([(b3, .row 28 3 [[.v (.int .i64 0), accD 1 kf (fins.map encB), accD 1 kn (nxt.map encRN)]]), (kq2, .row 3 1 (q2.map encN)), (b1, .map es2), (b0, .row 28 3 [[.v (.int .i64 0), .v (.slice none 0 0), .v (.slice none 0 0)]])] ++ (accH 4 1 kf (fins.map encB) ++ (accH 39 1 kn (nxt.map encRN) ++ []))) | 1 => [(b4, .row 3 1 ((done ++ List.replicate (widthA x - widthA x) 0).map encN))] ++ ([(b3, .row 28 3 [[.v (.int .i64 0), accD 1 kf (fins.map encB), accD 1 kn (nxt.map encRN)]]), (kq2, .row 3 1 (q2.map encN)), (b1, .map es2), (b0, .row 28 3 [[.v (.int .i64 0), .v (.slice none 0 0), .v (.slice none 0 0)]])] ++ (accH 4 1 b (fins.map encB ++ [[.v (.bool (x.fin[q2[i]]))]]) ++ (accH 39 1 kn (nxt.map encRN) ++ []))) | 2 => [(b4, .row 3 1 ((done ++ List.replicate (widthA x - widthA x) 0).map encN))] ++ ([(b3, .row 28 3 [[.v (.int .i64 0), accD 1 kf (fins.map encB), accD 1 kn (nxt.map encRN)]]), (kq2, .row 3 1 (q2.map encN)), (b1, .map es2), (b0, .row 28 3 [[.v (.int .i64 0), .v (.slice none 0 0), .v (.slice none 0 0)]])] ++ (accH 4 1 b (fins.map encB ++ [[.v (.bool (x.fin[q2[i]]))]]) ++ (accH 39 1 kn (nxt.map encRN) ++ []))) | _ => [(b4, .row 3 1 ((done ++ List.replicate (widthA x - widthA x) 0).map encN))] ++ ([(b3, .row 28 3 [[.v (.int .i64 0), accD 1 b (fins.map encB ++ [[.v (.bool (x.fin[q2[i]]))]]), accD 1 kn (nxt.map encRN)]]), (kq2, .row 3 1 (q2.map encN)), (b1, .map es2), (b0, .row 28 3 [[.v (.int .i64 0), .v (.slice none 0 0), .v (.slice none 0 0)]])] ++ (accH 4 1 b (fins.map encB ++ [[.v (.bool (x.fin[q2[i]]))]]) ++ (accH 39 1 kn (nxt.map encRN) ++ [])))) [(false, false, [0]), (false, false, [0]), (false, false, [0]), (false, false, [0]), (false, false, [0]), (false, false, [0]), (false, false, [0]), (false, false, [0]), (false, false, [0]), (false, false, [0]), (false, false, [0]), (true, true, [0]), (true, false, [1]), (true, false, [2])] (by kernel_rfl) (fun _ => rfl) rfl (fun _ => rfl) (fun _ => rfl) (cohOne 11 rfl (fun j r hj => by match j, hj with | 0, hj => exact .inl (by simp at hj; subst hj; intros; rfl) | 1, hj => exact .inl (by simp at hj; subst hj; intros; rfl) | 2, hj => exact .inl (by simp at hj; subst hj; intros; rfl) | 3, hj => exact .inl (by simp at hj; subst hj; intros; rfl) | 4, hj => exact .inl (by simp at hj; subst hj; intros; rfl) | 5, hj => exact .inl (by simp at hj; subst hj; intros; rfl) | 6, hj => exact .inl (by simp at hj; subst hj; intros; rfl) | 7, hj => exact .inl (by simp at hj; subst hj; intros; rfl) | 8, hj => exact .inl (by simp at hj; subst hj; intros; rfl) | 9, hj => exact .inl (by simp at hj; subst hj; intros; rfl) | 10, hj => exact .inl (by simp at hj; subst hj; intros; rfl) | 11, hj => exact .inr (.inl rfl) | 12, hj => exact .inl (by simp at hj; subst hj; intros; rfl) | 13, hj => exact .inl (by simp at hj; subst hj; intros; rfl) | q + 14, hj => simp at hj)) ?_ ?_
            · refine MixOk.cons ?_ ?_
              · refine StgOk.cons (fun b rest => ?_) ?_
                · refine SOps.fieldRef rfl fieldB_28_1_1 ?_
                  exact SOps.nil ⟨b, fun _ => rfl, by first | rfl | simp_all⟩
                exact StgOk.nil
              refine MixOk.cons ?_ ?_
              · refine StgOk.cons (fun b rest => ?_) ?_
                · refine SOps.loadRef 1 0 1 rfl flatB_25 rfl rfl rfl rfl ?_
                  exact SOps.nil ⟨b, fun _ => rfl, by first | rfl | simp_all⟩
                exact StgOk.nil
              refine MixOk.cons ?_ ?_
              · refine StgOk.cons (fun b rest => ?_) ?_
                · refine SOps.fieldPin rfl fieldB_28_1_1 ?_
                  exact SOps.nil ⟨b, fun _ => rfl, by first | rfl | simp_all⟩
                exact StgOk.nil
              refine MixOk.cons ?_ ?_
              · refine StgOk.cons (fun b rest => ?_) ?_
                · refine SOps.loadPin rfl flatB_25 ?_
                  exact SOps.nil ⟨b, fun _ => rfl, by first | rfl | simp_all⟩
                exact StgOk.nil
              refine MixOk.cons ?_ ?_
              · refine StgOk.cons (fun b rest => ?_) ?_
                · refine SOps.move rfl ?_
                  exact SOps.nil ⟨b, fun _ => rfl, by first | rfl | simp_all⟩
                exact StgOk.nil
              refine MixOk.cons ?_ ?_
              · refine StgOk.cons (fun b rest => ?_) ?_
                · refine SOps.move rfl ?_
                  exact SOps.nil ⟨b, fun _ => rfl, by first | rfl | simp_all⟩
                exact StgOk.nil
              refine MixOk.cons ?_ ?_
              · refine StgOk.cons (fun b rest => ?_) ?_
                · refine SOps.indexS (i) rfl rfl sliceB_39_3_1 (by first | omega | (simp only [lenB]; omega)) (by first | omega | (simp only [lenB]; omega)) ?_
                  exact SOps.nil ⟨b, fun _ => rfl, by first | rfl | simp_all⟩
                exact StgOk.nil
              refine MixOk.cons ?_ ?_
              · refine StgOk.cons (fun b rest => ?_) ?_
                · refine SOps.loadK 2 (i) rfl flatB_3 rfl (by first | omega | (simp only [lenB]; omega)) (by first | omega | (simp; omega)) rfl ?_
                  exact SOps.nil ⟨b, fun _ => rfl, by first | rfl | simp_all⟩
                exact StgOk.nil
              refine MixOk.cons ?_ ?_
              · refine StgOk.cons (fun b rest => ?_) ?_
                · refine SOps.indexM (q2[i]) rfl rfl sliceB_25_4_1 (by first | omega | (simp only [lenB]; omega)) (by first | omega | (simp only [lenB]; omega)) ?_
                  exact SOps.nil ⟨b, fun _ => rfl, by first | rfl | simp_all⟩
                exact StgOk.nil
              refine MixOk.cons ?_ ?_
              · refine StgOk.cons (fun b rest => ?_) ?_
                · refine SOps.loadPin rfl flatB_4 ?_
                  exact SOps.nil ⟨b, fun _ => rfl, by first | rfl | simp_all⟩
                exact StgOk.nil
              refine MixOk.cons ?_ ?_
              · refine StgOk.cons (fun b rest => ?_) ?_
                · refine SOps.litF rfl sliceB_25_4_1 zeroIs_4 rfl ?_
                  exact SOps.nil ⟨b, fun _ => rfl, by first | rfl | simp_all⟩
                exact StgOk.nil
              refine MixOk.cons ?_ ?_
              · refine StgOk.cons (fun b rest => ?_) ?_
                · refine SOps.appendAcc [_, _, _, _, _] _ sliceB_25_4_1 elemB_4_1_1 rfl rfl rfl SrcD.isl (by simp) (by first | (simp [lenB] <;> (first | omega | (simp only [lenB]; omega))) | (simp only [lenB]; (first | omega | (simp only [lenB]; omega)))) (by first | (simp <;> (first | omega | (simp only [lenB]; omega))) | (first | omega | (simp only [lenB]; omega))) (fun b6 => ?_)
                  exact SOps.nil ⟨b6, (fun h => by cases h), rfl⟩
                exact StgOk.nil
              refine MixOk.cons ?_ ?_
              · refine StgOk.cons (fun b rest => ?_) ?_
                · refine SOps.fieldRef rfl fieldB_28_1_1 ?_
                  exact SOps.nil ⟨b, fun _ => rfl, by first | rfl | simp_all⟩
                exact StgOk.nil
              refine MixOk.cons ?_ ?_
              · refine StgOk.cons (fun b rest => ?_) ?_
                · refine SOps.store 1 0 1 rfl rfl oneB_25 rfl rfl rfl (by decide) (by first | rfl | exact accD_one _ _ _) ?_
                  exact SOps.nil ⟨b, fun _ => rfl, by first | rfl | simp_all⟩
                exact StgOk.nil
              exact MixOk.nil
            · intro kf2
              show SCode _ _ _ _
              refine SCode.region ?_
              refine SOps.freezeS (t := 10) 0 rfl rfl rfl (by simp; omega) ?_
              refine SOps.fieldRef rfl fieldB_28_2_2 ?_
              refine SOps.loadRef 0 0 2 rfl flatB_26 rfl rfl rfl rfl ?_
              refine SOps.move rfl ?_
              refine SOps.litF rfl sliceB_26_39_1 zeroIs_39 rfl ?_
              refine SOps.appendAcc ([_, _, _, _] ++ accH 4 1 kf2 _) [] sliceB_26_39_1 elemB_39_1_24 rfl rfl (by exact (List.append_assoc [_, _, _, _] _ _).symm) SrcD.isl (by simp) (by first | (simp [lenB] <;> (first | omega | (simp only [lenB]; omega))) | (simp only [lenB]; (first | omega | (simp only [lenB]; omega)))) (by first | (simp <;> (first | omega | (simp only [lenB]; omega))) | (first | omega | (simp only [lenB]; omega))) (fun b7 => ?_)
              refine SOps.fieldRef rfl fieldB_28_2_2 ?_
              refine SOps.store 0 0 2 rfl rfl oneB_26 rfl rfl rfl (by decide) (by first | rfl | exact accD_one _ _ _) ?_
              refine SOps.nil ?_
              show SCode _ _ _ _
              refine SCode.region ?_
              refine SOps.move rfl ?_
              refine SOps.addI rfl rfl (by first | omega | (simp only [lenB]; omega)) (by first | omega | (simp only [lenB]; omega)) ?_
              refine SOps.assign rfl ?_
              refine SOps.nil ?_
              have hrw3 : rowE (eqC (clsR x)) (nxL x (qs[i])) qs [] = (q2, done) := by rw [← hrw, hfull]; rfl
              have hmF : (fins ++ [(x.fin[q2[i]])]).map encB = fins.map encB ++ [[.v (.bool (x.fin[q2[i]]))]] := by rw [List.map_append]; rfl
              have hmN : (nxt ++ [done]).map encRN = nxt.map encRN ++ [[.isl false 1 ((done ++ List.replicate (widthA x - widthA x) 0).map encN)]] := by rw [List.map_append, Nat.sub_self, List.replicate_zero, List.append_nil]; rfl
              have hfq : finN x (qs[i]) = (x.fin[q2[i]]) := by rw [← hqe, finN, ← finA_at (s := ((q2[i] : Nat) : Int)) (by rw [Int.toNat_natCast]; exact hqf)]; rfl
              exact ⟨i + 1, q2, es2, kq2, fins ++ [(x.fin[q2[i]])], kf2, nxt ++ [done], b7, ⟨by omega, by omega, hqk, hmk, by simp [hfl], by simp [hnl], by rw [← hacc, show 513 - i = (513 - (i + 1)) + 1 by omega, minE_some hi7, hrw3, hfq]⟩, by omega, St.Le.of ⟨rfl, rfl, rfl, rfl, rfl, rfl, rfl, rfl, trivial⟩ rfl (by rw [hmF, hmN]; exact (List.append_assoc [_, _, _, _] _ _))⟩
      · try simp only [decide_eq_true_eq, decide_eq_false_iff_not, Bool.not_eq_true', Bool.not_eq_false', beq_iff_eq, bne_iff_ne, ne_eq, beq_eq_false_iff_ne, bne_eq_false_iff_eq, Int.not_lt, Int.not_le, Nat.not_lt, Nat.not_le, Int.ofNat_lt, Int.ofNat_le, Bool.not_eq_eq_eq_not, Bool.not_true, Bool.not_false] at hc2
        refine SCode.exit ?_
        show SCode _ _ _ _
        refine SCode.seqR ?_
        obtain ⟨x1, f1, rfl⟩ := List.exists_cons_of_length_pos (l := fins) (by omega)
        obtain ⟨x2, f2, rfl⟩ := List.exists_cons_of_length_pos (l := nxt) (by omega)
        refine SOps.freezeIn 4 0 0 1 rfl rfl rfl rfl rfl ?_
        refine SOps.freezeIn 4 0 0 2 rfl rfl rfl rfl rfl ?_
        refine SOps.loadRefA 0 0 0 rfl aggB_28_3 rfl rfl rfl (Nat.le_of_ble_eq_true rfl) ?_
        refine SOps.storeAM 3 rfl rfl aggB_28_3 rfl ?_
        refine SOps.nil ?_
        refine SCode.ret ?_
        have hacc2 : minA x = ⟨0, x1 :: f1, castT (x2 :: f2)⟩ := by unfold minA; rw [← hacc, minE_none (by omega)]
        exact ⟨_, Res.one (.agg (i := 3) (k := 0) (j := 0) rfl aggB_28_3 rfl rfl rfl (Nat.le_of_ble_eq_true rfl)), (by rw [if_pos ⟨hax, h65⟩, hacc2]; show _ = DV.agg [_, _, DTab (castT (x2 :: f2))]; unfold castT; rw [DTab_cast]; rfl)⟩
  · refine SOps.callP (aValid _) rfl ?_
    rintro _ rfl
    rw [if_neg hax]
    refine SOps.move rfl ?_
    refine SOps.extract rfl rfl ?_
    refine SOps.extract rfl rfl ?_
    refine SOps.assign rfl ?_
    refine SOps.assign rfl ?_
    refine SOps.nil ?_
    refine SCode.seq ?_
    refine SCode.seqR ?_
    refine SOps.move rfl ?_
    refine SOps.un rfl rfl ?_
    refine SOps.nil ?_
    refine SCode.cond rfl (fun _ => ?_) (fun h => by cases h)
    refine SCode.seqR ?_
    refine SOps.buildM placesB_28 zeroIs_28 rfl rfl ?_
    refine SOps.storeAM 0 rfl rfl aggB_28_3 rfl ?_
    refine SOps.nil ?_
    refine SCode.ret ?_
    exact ⟨_, Res.one (.agg (i := 0) (k := 0) (j := 0) rfl aggB_28_3 rfl rfl rfl (Nat.le_of_ble_eq_true rfl)), (by rw [if_neg (by intro h; first | exact hax h.1 | omega)]; rfl)⟩
end Go.GH
namespace Go.GH
open Go Go.Proofs
variable {E : Env}
theorem aggB_85_4 : aggB Tryd.prog 85 4 = true := by kernel_rfl
theorem aggB_87_2 : aggB Tryd.prog 87 2 = true := by kernel_rfl
theorem arrayB_87_2_60_1 : arrayB Tryd.prog 87 2 60 1 = true := by kernel_rfl
theorem elemB_21_1_4 : elemB Tryd.prog 21 1 4 = true := by kernel_rfl
theorem elemB_85_4_24 : elemB Tryd.prog 85 4 24 = true := by kernel_rfl
theorem fieldB_85_0_0 : fieldB Tryd.prog 85 0 0 = true := by kernel_rfl
theorem fieldB_85_1_1 : fieldB Tryd.prog 85 1 1 = true := by kernel_rfl
theorem fieldB_85_2_2 : fieldB Tryd.prog 85 2 2 = true := by kernel_rfl
theorem fieldB_85_3_3 : fieldB Tryd.prog 85 3 3 = true := by kernel_rfl
theorem intB_21_i32 : intB Tryd.prog 21 .i32 = true := by kernel_rfl
theorem oneB_21 : oneB Tryd.prog 21 = true := by kernel_rfl
theorem placesB_85 : placesB Tryd.prog 85 [(0, 1), (1, 1), (2, 1), (3, 1)] = true := by kernel_rfl
theorem sliceB_50_21_1 : sliceB Tryd.prog 50 21 1 = true := by kernel_rfl
theorem sliceB_86_85_4 : sliceB Tryd.prog 86 85 4 = true := by kernel_rfl
theorem zeroIs_21 : zeroIs Tryd.prog 21 (.int .i32 0) := by unfold zeroIs; kernel_rfl
theorem zeroIs_85 : zeroIs Tryd.prog 85 (.agg #[.int .u8 0, .int .u8 0, .int .i64 0, .int .i64 0]) := by unfold zeroIs; kernel_rfl
theorem zeroIs_87 : zeroIs Tryd.prog 87 (.agg #[.int .u8 0, .int .u8 0]) := by unfold zeroIs; kernel_rfl
theorem sRevRC (xs : List Int) (bk : Nat) (hx : xs.length ≤ 1048576) : GCall Tryd.prog E 50 [.sl bk 1 0 xs.length] [(bk, .row 21 1 (xs.map rcell))] (fun d H => d = .v (.tuple #[]) ∧ H = [(bk, .row 21 1 (xs.reverse.map rcell))]) := by
  refine GCall.body (C := ⟨Tryd.prog, E, false⟩) Tryd.func50 rfl (fun h => by cases h) (by kernel_rfl) rfl ?_
  refine SCode.seqR ?_
  refine SOps.move rfl ?_
  refine SOps.lenSl rfl sliceB_50_21_1 ?_
  refine SOps.subI rfl rfl (by first | omega | (simp only [lenB]; omega)) (by first | omega | (simp only [lenB]; omega)) ?_
  refine SOps.assign rfl ?_
  refine SOps.assign rfl ?_
  refine SOps.nil ?_
  refine SCode.block ?_
  refine SCode.loop2 (fun (i : Nat) (ys : List Int) => (⟨28, [(0, .sl bk 1 0 xs.length), (2, .v (.int .i64 (i : Int))), (3, .v (.int .i64 ((xs.length : Int) - 1 - (i : Int))))], [(bk, .row 21 1 (ys.map rcell))]⟩ : St)) (fun (i : Nat) (ys : List Int) => 2 * i ≤ xs.length + 1 ∧ ys.length = xs.length ∧ ∀ (k : Nat) (h : k < xs.length), ys[k]? = some (if k < i ∨ xs.length - 1 - k < i then xs[xs.length - 1 - k]'(by omega) else xs[k])) (fun (i : Nat) (ys : List Int) => xs.length - i) (0) (xs) (by exact ⟨by omega, rfl, fun k h => by rw [if_neg (by omega)]; exact List.getElem?_eq_getElem h⟩) (St.Le.of ⟨(by first | rfl | (show some _ = some _; simp)), (by first | rfl | (show some _ = some _; simp)), (by first | rfl | (show some _ = some _; simp)), trivial⟩ rfl (by first | rfl | (simp))) ?_
  rintro i ys ⟨hi, hyl, hf⟩
  refine SCode.seq ?_
  refine SCode.seqR ?_
  refine SOps.move rfl ?_
  refine SOps.move rfl ?_
  refine SOps.bin rfl rfl rfl ?_
  refine SOps.nil ?_
  refine SCode.cond rfl (fun hc1 => ?_) (fun hc1 => ?_)
  · try simp only [decide_eq_true_eq, decide_eq_false_iff_not, Bool.not_eq_true', Bool.not_eq_false', beq_iff_eq, bne_iff_ne, ne_eq, beq_eq_false_iff_ne, bne_eq_false_iff_eq, Int.not_lt, Int.not_le, Nat.not_lt, Nat.not_le, Int.ofNat_lt, Int.ofNat_le, Bool.not_eq_eq_eq_not, Bool.not_true, Bool.not_false] at hc1
    refine SCode.skip ?_
    show SCode _ _ _ _
    refine SCode.seq ?_
    refine SCode.block ?_
    have hi3 : i < xs.length - 1 - i := by omega
    have hjl : xs.length - 1 - i < ys.length := by omega
    have hil : i < ys.length := by omega
    refine SCode.weaken (st' := (⟨28, [(0, .sl bk 1 0 xs.length), (2, .v (.int .i64 (i : Int))), (3, .v (.int .i64 ((xs.length : Int) - 1 - (i : Int))))], [(bk, .row 21 1 (ys.map rcell))]⟩ : St)) (St.Le.of ⟨rfl, rfl, rfl, trivial⟩) ?_
    refine SCode.drawMix 17 [12, 13, 14, 15] mixed_ [fun b => some (14, .sl bk 1 0 xs.length), fun b => some (15, .v (.int .i64 (i : Int))), fun b => some (16, .sl bk 1 0 xs.length), fun b => some (17, .v (.int .i64 ((xs.length : Int) - 1 - (i : Int)))), fun b => some (18, .sl bk 1 0 xs.length), fun b => some (19, .v (.int .i64 ((xs.length : Int) - 1 - (i : Int)))), fun b => some (20, .ref bk ((0 + (xs.length - 1 - i)) * 1)), fun b => some (21, .v (.int .i32 ((ys[xs.length - 1 - i])))), fun b => some (22, .sl bk 1 0 xs.length), fun b => some (23, .v (.int .i64 (i : Int))), fun b => some (24, .ref bk ((0 + i) * 1)), fun b => some (25, .v (.int .i32 ((ys[i])))), fun b => some (26, .ref bk ((0 + i) * 1)), fun b => none, fun b => some (27, .ref bk ((0 + (xs.length - 1 - i)) * 1)), fun b => none] [some 14, some 15, some 16, some 17, some 18, some 19, some 20, some 21, some 22, some 23, some 24, some 25, some 26, none, some 27, none] [[.inr 0], [.inr 2], [.inr 0], [.inr 3], [.inr 0], [.inr 3], [.inl 4, .inl 5], [.inl 6], [.inr 0], [.inr 2], [.inl 8, .inl 9], [.inl 10], [.inl 0, .inl 1], [.inl 12, .inl 7], [.inl 2, .inl 3], [.inl 14, .inl 11]] [fun b => [(0, .sl bk 1 0 xs.length)], fun b => [(2, .v (.int .i64 (i : Int)))], fun b => [(0, .sl bk 1 0 xs.length)], fun b => [(3, .v (.int .i64 ((xs.length : Int) - 1 - (i : Int))))], fun b => [(0, .sl bk 1 0 xs.length)], fun b => [(3, .v (.int .i64 ((xs.length : Int) - 1 - (i : Int))))], fun b => [(18, .sl bk 1 0 xs.length), (19, .v (.int .i64 ((xs.length : Int) - 1 - (i : Int))))], fun b => [(20, .ref bk ((0 + (xs.length - 1 - i)) * 1))], fun b => [(0, .sl bk 1 0 xs.length)], fun b => [(2, .v (.int .i64 (i : Int)))], fun b => [(22, .sl bk 1 0 xs.length), (23, .v (.int .i64 (i : Int)))], fun b => [(24, .ref bk ((0 + i) * 1))], fun b => [(14, .sl bk 1 0 xs.length), (15, .v (.int .i64 (i : Int)))], fun b => [(26, .ref bk ((0 + i) * 1)), (21, .v (.int .i32 ((ys[xs.length - 1 - i]))))], fun b => [(16, .sl bk 1 0 xs.length), (17, .v (.int .i64 ((xs.length : Int) - 1 - (i : Int))))], fun b => [(27, .ref bk ((0 + (xs.length - 1 - i)) * 1)), (25, .v (.int .i32 ((ys[i]))))]] (fun b c => match c with | 0 => [(bk, .row 21 1 (ys.map rcell))] | 1 => [(bk, .row 21 1 (ys.map rcell))] | 2 => [(bk, .row 21 1 ((ys.set i (ys[xs.length - 1 - i])).map rcell))] | 3 => [(bk, .row 21 1 ((ys.set i (ys[xs.length - 1 - i])).map rcell))] | _ => [(bk, .row 21 1 (((ys.set i (ys[xs.length - 1 - i])).set (xs.length - 1 - i) (ys[i])).map rcell))]) [(false, false, [0]), (false, false, [0]), (false, false, [0, 1, 2]), (false, false, [0, 1, 2]), (false, false, [0]), (false, false, [0]), (false, false, [0]), (false, false, [0]), (false, false, [0]), (false, false, [0]), (false, false, [0]), (false, false, [0]), (true, false, [0]), (true, false, [1]), (true, false, [2]), (true, false, [3])] (by kernel_rfl) (fun _ => rfl) rfl (fun _ => rfl) (fun _ => rfl) (cohNone rfl) ?_ ?_
    · refine MixOk.cons ?_ ?_
      · refine StgOk.cons (fun b rest => ?_) ?_
        · refine SOps.move rfl ?_
          exact SOps.nil ⟨b, fun _ => rfl, by first | rfl | simp_all⟩
        exact StgOk.nil
      refine MixOk.cons ?_ ?_
      · refine StgOk.cons (fun b rest => ?_) ?_
        · refine SOps.move rfl ?_
          exact SOps.nil ⟨b, fun _ => rfl, by first | rfl | simp_all⟩
        exact StgOk.nil
      refine MixOk.cons ?_ ?_
      · refine StgOk.cons (fun b rest => ?_) ?_
        · refine SOps.move rfl ?_
          exact SOps.nil ⟨b, fun _ => rfl, by first | rfl | simp_all⟩
        refine StgOk.cons (fun b rest => ?_) ?_
        · refine SOps.move rfl ?_
          exact SOps.nil ⟨b, fun _ => rfl, by first | rfl | simp_all⟩
        refine StgOk.cons (fun b rest => ?_) ?_
        · refine SOps.move rfl ?_
          exact SOps.nil ⟨b, fun _ => rfl, by first | rfl | simp_all⟩
        exact StgOk.nil
      refine MixOk.cons ?_ ?_
      · refine StgOk.cons (fun b rest => ?_) ?_
        · refine SOps.move rfl ?_
          exact SOps.nil ⟨b, fun _ => rfl, by first | rfl | simp_all⟩
        refine StgOk.cons (fun b rest => ?_) ?_
        · refine SOps.move rfl ?_
          exact SOps.nil ⟨b, fun _ => rfl, by first | rfl | simp_all⟩
        refine StgOk.cons (fun b rest => ?_) ?_
        · refine SOps.move rfl ?_
          exact SOps.nil ⟨b, fun _ => rfl, by first | rfl | simp_all⟩
        exact StgOk.nil
      refine MixOk.cons ?_ ?_
      · refine StgOk.cons (fun b rest => ?_) ?_
        · refine SOps.move rfl ?_
          exact SOps.nil ⟨b, fun _ => rfl, by first | rfl | simp_all⟩
        exact StgOk.nil
      refine MixOk.cons ?_ ?_
      · refine StgOk.cons (fun b rest => ?_) ?_
        · refine SOps.move rfl ?_
          exact SOps.nil ⟨b, fun _ => rfl, by first | rfl | simp_all⟩
        exact StgOk.nil
      refine MixOk.cons ?_ ?_
      · refine StgOk.cons (fun b rest => ?_) ?_
        · refine SOps.indexS ((xs.length - 1 - i)) rfl rfl sliceB_50_21_1 (by first | omega | (simp only [lenB]; omega)) (by first | omega | (simp only [lenB]; omega)) ?_
          exact SOps.nil ⟨b, fun _ => rfl, by first | rfl | simp_all⟩
        exact StgOk.nil
      refine MixOk.cons ?_ ?_
      · refine StgOk.cons (fun b rest => ?_) ?_
        · refine SOps.loadK 0 ((xs.length - 1 - i)) rfl flatB_21 rfl (by first | omega | (simp only [lenB]; omega)) (by first | omega | (simp; omega)) rfl ?_
          exact SOps.nil ⟨b, fun _ => rfl, by first | rfl | simp_all⟩
        exact StgOk.nil
      refine MixOk.cons ?_ ?_
      · refine StgOk.cons (fun b rest => ?_) ?_
        · refine SOps.move rfl ?_
          exact SOps.nil ⟨b, fun _ => rfl, by first | rfl | simp_all⟩
        exact StgOk.nil
      refine MixOk.cons ?_ ?_
      · refine StgOk.cons (fun b rest => ?_) ?_
        · refine SOps.move rfl ?_
          exact SOps.nil ⟨b, fun _ => rfl, by first | rfl | simp_all⟩
        exact StgOk.nil
      refine MixOk.cons ?_ ?_
      · refine StgOk.cons (fun b rest => ?_) ?_
        · refine SOps.indexS (i) rfl rfl sliceB_50_21_1 (by first | omega | (simp only [lenB]; omega)) (by first | omega | (simp only [lenB]; omega)) ?_
          exact SOps.nil ⟨b, fun _ => rfl, by first | rfl | simp_all⟩
        exact StgOk.nil
      refine MixOk.cons ?_ ?_
      · refine StgOk.cons (fun b rest => ?_) ?_
        · refine SOps.loadK 0 (i) rfl flatB_21 rfl (by first | omega | (simp only [lenB]; omega)) (by first | omega | (simp; omega)) rfl ?_
          exact SOps.nil ⟨b, fun _ => rfl, by first | rfl | simp_all⟩
        exact StgOk.nil
      refine MixOk.cons ?_ ?_
      · refine StgOk.cons (fun b rest => ?_) ?_
        · refine SOps.indexS (i) rfl rfl sliceB_50_21_1 (by first | omega | (simp only [lenB]; omega)) (by first | omega | (simp only [lenB]; omega)) ?_
          exact SOps.nil ⟨b, fun _ => rfl, by first | rfl | simp_all⟩
        exact StgOk.nil
      refine MixOk.cons ?_ ?_
      · refine StgOk.cons (fun b rest => ?_) ?_
        · refine SOps.storeK 0 (i) rfl rfl oneB_21 rfl (by first | omega | (simp only [lenB]; omega)) (by first | omega | (simp; omega)) rfl (fun _ => rfl) ?_
          exact SOps.nil ⟨b, fun _ => rfl, by first | rfl | simp_all⟩
        exact StgOk.nil
      refine MixOk.cons ?_ ?_
      · refine StgOk.cons (fun b rest => ?_) ?_
        · refine SOps.indexS ((xs.length - 1 - i)) rfl rfl sliceB_50_21_1 (by first | omega | (simp only [lenB]; omega)) (by first | omega | (simp only [lenB]; omega)) ?_
          exact SOps.nil ⟨b, fun _ => rfl, by first | rfl | simp_all⟩
        exact StgOk.nil
      refine MixOk.cons ?_ ?_
      · refine StgOk.cons (fun b rest => ?_) ?_
        · refine SOps.storeK 0 ((xs.length - 1 - i)) rfl rfl oneB_21 rfl (by first | omega | (simp only [lenB]; omega)) (by first | omega | (simp; omega)) rfl (fun _ => rfl) ?_
          exact SOps.nil ⟨b, fun _ => rfl, by first | rfl | simp_all⟩
        exact StgOk.nil
      exact MixOk.nil
    · intro bM
      show SCode _ _ _ _
      refine SCode.region ?_
      refine SOps.move rfl ?_
      refine SOps.addI rfl rfl (by first | omega | (simp only [lenB]; omega)) (by first | omega | (simp only [lenB]; omega)) ?_
      refine SOps.move rfl ?_
      refine SOps.subI rfl rfl (by first | omega | (simp only [lenB]; omega)) (by first | omega | (simp only [lenB]; omega)) ?_
      refine SOps.assign rfl ?_
      refine SOps.assign rfl ?_
      refine SOps.nil ?_
      exact ⟨i + 1, ((ys.set i (ys[xs.length - 1 - i])).set (xs.length - 1 - i) (ys[i])), ⟨by omega, by simp [hyl], rev_step (by omega) hyl hf⟩, by omega, St.Le.of ⟨rfl, rfl, (by show some _ = some _; congr 3; omega), trivial⟩⟩
  · try simp only [decide_eq_true_eq, decide_eq_false_iff_not, Bool.not_eq_true', Bool.not_eq_false', beq_iff_eq, bne_iff_ne, ne_eq, beq_eq_false_iff_ne, bne_eq_false_iff_eq, Int.not_lt, Int.not_le, Nat.not_lt, Nat.not_le, Int.ofNat_lt, Int.ofNat_le, Bool.not_eq_eq_eq_not, Bool.not_true, Bool.not_false] at hc1
    refine SCode.exit ?_
    obtain rfl := rev_end (by omega) hi hyl hf
    exact ⟨_, Res.none, rfl, rfl⟩
theorem sRevR0   : GCall Tryd.prog E 50 [DRunes []] [] (fun d H => d = .v (.tuple #[]) ∧ H = []) := by
  refine GCall.body (C := ⟨Tryd.prog, E, true⟩) Tryd.func50 rfl (fun _ => rfl) (by kernel_rfl) rfl ?_
  refine SCode.seqR ?_
  refine SOps.move rfl ?_
  refine SOps.lenM rfl sliceB_50_21_1 ?_
  refine SOps.subI rfl rfl (by first | omega | (simp; done) | decide) (by first | omega | (simp; done) | decide) ?_
  refine SOps.assign rfl ?_
  refine SOps.assign rfl ?_
  refine SOps.nil ?_
  refine SCode.block ?_
  refine SCode.loop1 (fun (i : Nat) => (⟨28, [(0, DRunes []), (2, .v (.int .i64 0)), (3, .v (.int .i64 (((([] : List Int).length : Nat) : Int) - 1)))], []⟩ : St)) (fun (i : Nat) => True) (fun (i : Nat) => 0) (0) (by trivial) (St.Le.of ⟨(by first | rfl | (show some _ = some _; simp)), (by first | rfl | (show some _ = some _; simp)), (by first | rfl | (show some _ = some _; simp)), trivial⟩ rfl (by first | rfl | (simp))) ?_
  rintro i -
  refine SCode.seq ?_
  refine SCode.seqR ?_
  refine SOps.move rfl ?_
  refine SOps.move rfl ?_
  refine SOps.bin rfl rfl rfl ?_
  refine SOps.nil ?_
  refine SCode.cond rfl (fun hc1 => ?_) (fun hc1 => ?_)
  · try simp only [decide_eq_true_eq, decide_eq_false_iff_not, Bool.not_eq_true', Bool.not_eq_false', beq_iff_eq, bne_iff_ne, ne_eq, beq_eq_false_iff_ne, bne_eq_false_iff_eq, Int.not_lt, Int.not_le, Nat.not_lt, Nat.not_le, Int.ofNat_lt, Int.ofNat_le, Bool.not_eq_eq_eq_not, Bool.not_true, Bool.not_false] at hc1
    exact absurd hc1 (by decide)
  · try simp only [decide_eq_true_eq, decide_eq_false_iff_not, Bool.not_eq_true', Bool.not_eq_false', beq_iff_eq, bne_iff_ne, ne_eq, beq_eq_false_iff_ne, bne_eq_false_iff_eq, Int.not_lt, Int.not_le, Nat.not_lt, Nat.not_le, Int.ofNat_lt, Int.ofNat_le, Bool.not_eq_eq_eq_not, Bool.not_true, Bool.not_false] at hc1
    refine SCode.exit ?_
    exact ⟨_, Res.none, rfl, rfl⟩
theorem sRevR (xs : List Int) (b : Nat) (hx : xs.length ≤ 1048576) : GCall Tryd.prog E 50 [accI 1 b (xs.map rcell)] (accH 21 1 b (xs.map rcell)) (fun d H => d = .v (.tuple #[]) ∧ H = accH 21 1 b (xs.reverse.map rcell)) := by
  cases xs with
  | nil => exact sRevR0
  | cons x xs =>
    have e : accI 1 b ((x :: xs).map rcell) = .sl b 1 0 (x :: xs).length := by simp [accI]
    rw [e]
    refine GCall.mono (sRevRC (E := E) (x :: xs) b hx) (fun d H h => ⟨h.1, h.2.trans ?_⟩)
    cases hr : (x :: xs).reverse with
    | nil => simp at hr
    | cons y ys => rfl
theorem pairs_ : pairB Tryd.prog 88 87 4 := pairB.of (e := 60) (k := Tryd.prog.types.size - 1) (by kernel_rfl) (by kernel_rfl) (by kernel_rfl) (by kernel_rfl) (by kernel_rfl) (by kernel_rfl) (by kernel_rfl) (by kernel_rfl) (by kernel_rfl)
theorem aDifference (hV : VS E) (a : List Letter) (p q : List Item) (hp : ∀ x ∈ p, x.lets.size ≤ 1048576) (hq : ∀ x ∈ q, x.lets.size ≤ 1048576) : GCall Tryd.prog E 27 [DLs a, DIts p, DIts q] [] (fun d H => d = tupW a (difR a p q) ∧ H = []) := by
  refine GCall.body (C := ⟨Tryd.prog, E, true⟩) Tryd.func27 rfl (fun _ => rfl) (by kernel_rfl) rfl ?_
  refine SCode.seqR ?_
  refine SOps.assign rfl ?_
  refine SOps.assign rfl ?_
  refine SOps.nil ?_
  refine SCode.seq ?_
  refine SCode.seqR ?_
  refine SOps.move rfl ?_
  refine SOps.move rfl ?_
  refine SOps.callP (pValid hV _ _ hp) rfl ?_
  rintro _ rfl
  refine SOps.un rfl rfl ?_
  refine SOps.move rfl ?_
  refine SOps.caseB 23 rfl (fun hb1 => ?_) (fun hb1 => ?_)
  · try simp only [decide_eq_true_eq, decide_eq_false_iff_not, Bool.not_eq_true', Bool.not_eq_false', beq_iff_eq, bne_iff_ne, ne_eq, beq_eq_false_iff_ne, bne_eq_false_iff_eq, Int.not_lt, Int.not_le, Nat.not_lt, Nat.not_le, Int.ofNat_lt, Int.ofNat_le, Bool.not_eq_eq_eq_not, Bool.not_true, Bool.not_false] at hb1
    refine SOps.skip rfl ?_
    refine SOps.skip rfl ?_
    refine SOps.skip rfl ?_
    refine SOps.skip rfl ?_
    refine SOps.pick rfl rfl ?_
    refine SOps.nil ?_
    refine SCode.cond rfl (fun _ => ?_) (fun h => by cases h)
    refine SCode.seqR ?_
    refine SOps.assign rfl ?_
    refine SOps.assign rfl ?_
    refine SOps.nil ?_
    refine SCode.ret ?_
    exact ⟨_, Res.two (.tmp rfl) (.tmp rfl), by rw [difR, if_neg (by simp_all)]; rfl, rfl⟩
  · try simp only [decide_eq_true_eq, decide_eq_false_iff_not, Bool.not_eq_true', Bool.not_eq_false', beq_iff_eq, bne_iff_ne, ne_eq, beq_eq_false_iff_ne, bne_eq_false_iff_eq, Int.not_lt, Int.not_le, Nat.not_lt, Nat.not_le, Int.ofNat_lt, Int.ofNat_le, Bool.not_eq_eq_eq_not, Bool.not_true, Bool.not_false] at hb1
    refine SOps.move rfl ?_
    refine SOps.move rfl ?_
    refine SOps.callP (pValid hV _ _ hq) rfl ?_
    rintro _ rfl
    refine SOps.un rfl rfl ?_
    refine SOps.pick rfl rfl ?_
    refine SOps.nil ?_
    refine SCode.cond rfl (fun hc2 => ?_) (fun hc2 => ?_)
    · try simp only [decide_eq_true_eq, decide_eq_false_iff_not, Bool.not_eq_true', Bool.not_eq_false', beq_iff_eq, bne_iff_ne, ne_eq, beq_eq_false_iff_ne, bne_eq_false_iff_eq, Int.not_lt, Int.not_le, Nat.not_lt, Nat.not_le, Int.ofNat_lt, Int.ofNat_le, Bool.not_eq_eq_eq_not, Bool.not_true, Bool.not_false] at hc2
      refine SCode.seqR ?_
      refine SOps.assign rfl ?_
      refine SOps.assign rfl ?_
      refine SOps.nil ?_
      refine SCode.ret ?_
      exact ⟨_, Res.two (.tmp rfl) (.tmp rfl), by rw [difR, if_neg (by simp_all)]; rfl, rfl⟩
    · try simp only [decide_eq_true_eq, decide_eq_false_iff_not, Bool.not_eq_true', Bool.not_eq_false', beq_iff_eq, bne_iff_ne, ne_eq, beq_eq_false_iff_ne, bne_eq_false_iff_eq, Int.not_lt, Int.not_le, Nat.not_lt, Nat.not_le, Int.ofNat_lt, Int.ofNat_le, Bool.not_eq_eq_eq_not, Bool.not_true, Bool.not_false] at hc2
      refine SCode.skip ?_
      show SCode _ _ _ _
      refine SCode.seqR ?_
      have hvp : validPat a p = true := by simp_all
      have hvq : validPat a q = true := by simp_all
      have hvl := validPat_len hvp
      have hvl2 := validPat_len hvq
      have hcp := closedN_lt (p := p) (s := 1) (by omega) (by decide)
      have hcq := closedN_lt (p := q) (s := 1) (by omega) (by decide)
      refine SOps.move rfl ?_
      refine SOps.move rfl ?_
      refine SOps.callP (pMachine _ _ (by omega) (by omega)) rfl ?_
      rintro _ rfl
      refine SOps.move rfl ?_
      refine SOps.move rfl ?_
      refine SOps.callP (pMachine _ _ (by omega) (by omega)) rfl ?_
      rintro _ rfl
      refine SOps.assign rfl ?_
      refine SOps.assign rfl ?_
      refine SOps.nil ?_
      refine SCode.seqR ?_
      refine SOps.move rfl ?_
      refine SOps.callP (pClosed _ 1 (by omega) (by decide)) rfl ?_
      rintro _ rfl
      refine SOps.move rfl ?_
      refine SOps.callP (pClosed _ 1 (by omega) (by decide)) rfl ?_
      rintro _ rfl
      refine SOps.buildM placesB_85 zeroIs_85 rfl rfl ?_
      refine SOps.litO sliceB_86_85_4 zeroIs_85 rfl (fun b0 hb_0 => ?_)
      refine SOps.assign rfl ?_
      refine SOps.nil ?_
      refine SCode.seq ?_
      refine SCode.drawMix 14 [0, 10] mixed_ [fun b => some (41, .mp b), fun b => some (42, .sl b0 4 0 1), fun b => some (43, .ref b0 ((0 + 0) * 4)), fun b => some (44, .ref b0 ((0 + 0) * 4 + 0)), fun b => some (45, .v (.int .u8 (((closedN p 1) : Nat) : Int))), fun b => some (46, .sl b0 4 0 1), fun b => some (47, .ref b0 ((0 + 0) * 4)), fun b => some (48, .ref b0 ((0 + 0) * 4 + 1)), fun b => some (49, .v (.int .u8 (((closedN q 1) : Nat) : Int))), fun b => some (50, pairD (startP p q)), fun b => none, fun b => some (51, .mp b), fun b => some (11, .mp b)] [some 41, some 42, some 43, some 44, some 45, some 46, some 47, some 48, some 49, some 50, none, some 51, some 11] [[], [.inr 10], [.inl 1], [.inl 2], [.inl 3], [.inr 10], [.inl 5], [.inl 6], [.inl 7], [.inl 4, .inl 8], [.inl 0, .inl 9], [.inl 0], [.inl 11]] [fun b => [], fun b => [(10, .sl b0 4 0 1)], fun b => [(42, .sl b0 4 0 1)], fun b => [(43, .ref b0 ((0 + 0) * 4))], fun b => [(44, .ref b0 ((0 + 0) * 4 + 0))], fun b => [(10, .sl b0 4 0 1)], fun b => [(46, .sl b0 4 0 1)], fun b => [(47, .ref b0 ((0 + 0) * 4))], fun b => [(48, .ref b0 ((0 + 0) * 4 + 1))], fun b => [(45, .v (.int .u8 (((closedN p 1) : Nat) : Int))), (49, .v (.int .u8 (((closedN q 1) : Nat) : Int)))], fun b => [(41, .mp b), (50, pairD (startP p q))], fun b => [(41, .mp b)], fun b => [(51, .mp b)]] (fun b c => match c with | 0 => [(b0, .row 85 4 ([(⟨closedN p 1, closedN q 1, -1, 0⟩ : Ent)].map encP))] | 1 => [(b, .map (setE [])), (b0, .row 85 4 ([(⟨closedN p 1, closedN q 1, -1, 0⟩ : Ent)].map encP))] | _ => [(b, .map (setE [startP p q])), (b0, .row 85 4 ([(⟨closedN p 1, closedN q 1, -1, 0⟩ : Ent)].map encP))]) [(true, true, [0]), (false, false, [0, 1]), (false, false, [0, 1]), (false, false, [0, 1]), (false, false, [0, 1]), (false, false, [0, 1]), (false, false, [0, 1]), (false, false, [0, 1]), (false, false, [0, 1]), (false, false, [0, 1]), (true, false, [1]), (false, false, [2]), (false, false, [2])] (by kernel_rfl) (fun _ => rfl) rfl (fun _ => rfl) (fun _ => rfl) (cohOne 0 rfl (fun j r hj => by match j, hj with | 0, hj => exact .inr (.inl rfl) | 1, hj => exact .inl (by simp at hj; subst hj; intros; rfl) | 2, hj => exact .inl (by simp at hj; subst hj; intros; rfl) | 3, hj => exact .inl (by simp at hj; subst hj; intros; rfl) | 4, hj => exact .inl (by simp at hj; subst hj; intros; rfl) | 5, hj => exact .inl (by simp at hj; subst hj; intros; rfl) | 6, hj => exact .inl (by simp at hj; subst hj; intros; rfl) | 7, hj => exact .inl (by simp at hj; subst hj; intros; rfl) | 8, hj => exact .inl (by simp at hj; subst hj; intros; rfl) | 9, hj => exact .inl (by simp at hj; subst hj; intros; rfl) | 10, hj => exact .inl (by simp at hj; subst hj; intros; rfl) | 11, hj => exact .inr (.inr ⟨_, rfl, rfl⟩) | 12, hj => exact .inr (.inr ⟨_, rfl, rfl⟩) | q + 13, hj => simp at hj)) ?_ ?_
      · refine MixOk.cons ?_ ?_
        · refine StgOk.cons (fun b rest => ?_) ?_
          · refine SOps.makeMap0 (fun b1 hb_1 => ?_)
            exact SOps.nil ⟨b1, (fun h => by cases h), rfl⟩
          exact StgOk.nil
        refine MixOk.cons ?_ ?_
        · refine StgOk.cons (fun b rest => ?_) ?_
          · refine SOps.move rfl ?_
            exact SOps.nil ⟨b, fun _ => rfl, by first | rfl | simp_all⟩
          refine StgOk.cons (fun b rest => ?_) ?_
          · refine SOps.move rfl ?_
            exact SOps.nil ⟨b, fun _ => rfl, by first | rfl | simp_all⟩
          exact StgOk.nil
        refine MixOk.cons ?_ ?_
        · refine StgOk.cons (fun b rest => ?_) ?_
          · refine SOps.indexS (0) rfl rfl sliceB_86_85_4 (by first | omega | (simp only [lenB]; omega)) (by first | omega | (simp only [lenB]; omega)) ?_
            exact SOps.nil ⟨b, fun _ => rfl, by first | rfl | simp_all⟩
          refine StgOk.cons (fun b rest => ?_) ?_
          · refine SOps.indexS (0) rfl rfl sliceB_86_85_4 (by first | omega | (simp only [lenB]; omega)) (by first | omega | (simp only [lenB]; omega)) ?_
            exact SOps.nil ⟨b, fun _ => rfl, by first | rfl | simp_all⟩
          exact StgOk.nil
        refine MixOk.cons ?_ ?_
        · refine StgOk.cons (fun b rest => ?_) ?_
          · refine SOps.fieldRef rfl fieldB_85_0_0 ?_
            exact SOps.nil ⟨b, fun _ => rfl, by first | rfl | simp_all⟩
          refine StgOk.cons (fun b rest => ?_) ?_
          · refine SOps.fieldRef rfl fieldB_85_0_0 ?_
            exact SOps.nil ⟨b, fun _ => rfl, by first | rfl | simp_all⟩
          exact StgOk.nil
        refine MixOk.cons ?_ ?_
        · refine StgOk.cons (fun b rest => ?_) ?_
          · refine SOps.loadF 0 (0) 0 rfl flatB_60 rfl (by first | rfl | omega) (by first | omega | (simp; done) | (simp; omega)) rfl ?_
            exact SOps.nil ⟨b, fun _ => rfl, by first | rfl | simp_all⟩
          refine StgOk.cons (fun b rest => ?_) ?_
          · refine SOps.loadF 1 (0) 0 rfl flatB_60 rfl (by first | rfl | omega) (by first | omega | (simp; done) | (simp; omega)) rfl ?_
            exact SOps.nil ⟨b, fun _ => rfl, by first | rfl | simp_all⟩
          exact StgOk.nil
        refine MixOk.cons ?_ ?_
        · refine StgOk.cons (fun b rest => ?_) ?_
          · refine SOps.move rfl ?_
            exact SOps.nil ⟨b, fun _ => rfl, by first | rfl | simp_all⟩
          refine StgOk.cons (fun b rest => ?_) ?_
          · refine SOps.move rfl ?_
            exact SOps.nil ⟨b, fun _ => rfl, by first | rfl | simp_all⟩
          exact StgOk.nil
        refine MixOk.cons ?_ ?_
        · refine StgOk.cons (fun b rest => ?_) ?_
          · refine SOps.indexS (0) rfl rfl sliceB_86_85_4 (by first | omega | (simp only [lenB]; omega)) (by first | omega | (simp only [lenB]; omega)) ?_
            exact SOps.nil ⟨b, fun _ => rfl, by first | rfl | simp_all⟩
          refine StgOk.cons (fun b rest => ?_) ?_
          · refine SOps.indexS (0) rfl rfl sliceB_86_85_4 (by first | omega | (simp only [lenB]; omega)) (by first | omega | (simp only [lenB]; omega)) ?_
            exact SOps.nil ⟨b, fun _ => rfl, by first | rfl | simp_all⟩
          exact StgOk.nil
        refine MixOk.cons ?_ ?_
        · refine StgOk.cons (fun b rest => ?_) ?_
          · refine SOps.fieldRef rfl fieldB_85_1_1 ?_
            exact SOps.nil ⟨b, fun _ => rfl, by first | rfl | simp_all⟩
          refine StgOk.cons (fun b rest => ?_) ?_
          · refine SOps.fieldRef rfl fieldB_85_1_1 ?_
            exact SOps.nil ⟨b, fun _ => rfl, by first | rfl | simp_all⟩
          exact StgOk.nil
        refine MixOk.cons ?_ ?_
        · refine StgOk.cons (fun b rest => ?_) ?_
          · refine SOps.loadF 0 (0) 1 rfl flatB_60 rfl (by first | rfl | omega) (by first | omega | (simp; done) | (simp; omega)) rfl ?_
            exact SOps.nil ⟨b, fun _ => rfl, by first | rfl | simp_all⟩
          refine StgOk.cons (fun b rest => ?_) ?_
          · refine SOps.loadF 1 (0) 1 rfl flatB_60 rfl (by first | rfl | omega) (by first | omega | (simp; done) | (simp; omega)) rfl ?_
            exact SOps.nil ⟨b, fun _ => rfl, by first | rfl | simp_all⟩
          exact StgOk.nil
        refine MixOk.cons ?_ ?_
        · refine StgOk.cons (fun b rest => ?_) ?_
          · refine SOps.buildArrM arrayB_87_2_60_1 zeroIs_87 rfl rfl ?_
            exact SOps.nil ⟨b, fun _ => rfl, by first | rfl | simp_all⟩
          refine StgOk.cons (fun b rest => ?_) ?_
          · refine SOps.buildArrM arrayB_87_2_60_1 zeroIs_87 rfl rfl ?_
            exact SOps.nil ⟨b, fun _ => rfl, by first | rfl | simp_all⟩
          exact StgOk.nil
        refine MixOk.cons ?_ ?_
        · refine StgOk.cons (fun b rest => ?_) ?_
          · refine SOps.insertPair 0 (ks := []) rfl rfl rfl rfl pairs_ (fun q hq => by cases hq) ⟨hcp, hcq⟩ (by simp) ?_
            exact SOps.nil ⟨b, fun _ => rfl, by first | rfl | simp_all⟩
          exact StgOk.nil
        refine MixOk.cons ?_ ?_
        · refine StgOk.cons (fun b rest => ?_) ?_
          · refine SOps.move rfl ?_
            exact SOps.nil ⟨b, fun _ => rfl, by first | rfl | simp_all⟩
          exact StgOk.nil
        refine MixOk.cons ?_ ?_
        · refine StgOk.cons (fun b rest => ?_) ?_
          · refine SOps.assign rfl ?_
            exact SOps.nil ⟨b, fun _ => rfl, by first | rfl | simp_all⟩
          exact StgOk.nil
        exact MixOk.nil
      · intro bm
        show SCode _ _ _ _
        refine SCode.seq ?_
        refine SCode.seqR ?_
        refine SOps.assign rfl ?_
        refine SOps.nil ?_
        refine SCode.block ?_
        refine SCode.loop4 (fun (i : Nat) (es : List Ent) (qs : List Key) (kq : Nat) => (⟨137, [(0, DLs a), (1, DIts p), (2, DIts q), (8, .fn 57 [.ipin [DIts p], .ipin [DTbl (tbl a p)]]), (9, .fn 57 [.ipin [DIts q], .ipin [DTbl (tbl a q)]]), (10, .sl kq 4 0 es.length), (11, .mp bm), (12, .v (.int .i64 (i : Int)))], [(bm, .map (setE (qs.map (·.1)))), (kq, .row 85 4 (es.map encP))]⟩ : St)) (fun (i : Nat) (es : List Ent) (qs : List Key) (kq : Nat) => i ≤ es.length ∧ 0 < es.length ∧ DifOK a.length es qs ∧ difE eqP (nxP a p q) (badP p q) (65537 - i) i qs = difP a p q) (fun (i : Nat) (es : List Ent) (qs : List Key) (kq : Nat) => 65536 - i) (0) ([⟨closedN p 1, closedN q 1, -1, 0⟩]) ([(startP p q, [])]) (b0) (by exact ⟨Nat.zero_le _, Nat.one_pos, DifOK.one _ hcp hcq, rfl⟩) (St.Le.of ⟨(by first | rfl | (show some _ = some _; simp)), (by first | rfl | (show some _ = some _; simp)), (by first | rfl | (show some _ = some _; simp)), (by first | rfl | (show some _ = some _; simp)), (by first | rfl | (show some _ = some _; simp)), (by first | rfl | (show some _ = some _; simp)), (by first | rfl | (show some _ = some _; simp)), (by first | rfl | (show some _ = some _; simp)), trivial⟩ rfl (by first | rfl | (simp))) ?_
        rintro i es qs kq ⟨hi, hp0, hd, hdf⟩
        have hle := hd.le
        refine SCode.seq ?_
        refine SCode.seqR ?_
        refine SOps.move rfl ?_
        refine SOps.move rfl ?_
        refine SOps.lenSl rfl sliceB_86_85_4 ?_
        refine SOps.bin rfl rfl rfl ?_
        refine SOps.nil ?_
        refine SCode.cond rfl (fun hc3 => ?_) (fun hc3 => ?_)
        · try simp only [decide_eq_true_eq, decide_eq_false_iff_not, Bool.not_eq_true', Bool.not_eq_false', beq_iff_eq, bne_iff_ne, ne_eq, beq_eq_false_iff_ne, bne_eq_false_iff_eq, Int.not_lt, Int.not_le, Nat.not_lt, Nat.not_le, Int.ofNat_lt, Int.ofNat_le, Bool.not_eq_eq_eq_not, Bool.not_true, Bool.not_false] at hc3
          refine SCode.skip ?_
          show SCode _ _ _ _
          refine SCode.seq ?_
          refine SCode.block ?_
          refine SCode.seqR ?_
          refine SOps.move rfl ?_
          refine SOps.move rfl ?_
          refine SOps.indexS (i) rfl rfl sliceB_86_85_4 (by first | omega | (simp only [lenB]; omega)) (by first | omega | (simp only [lenB]; omega)) ?_
          refine SOps.loadAK 1 (i) rfl aggB_85_4 rfl (by first | omega | (simp only [lenB]; omega)) (by first | omega | (simp; done) | (simp; omega)) rfl ?_
          refine SOps.alloc (sz := 4) zeroIs_85 (fun b2 hb_2 => ?_)
          refine SOps.storeAM 0 rfl rfl aggB_85_4 rfl ?_
          refine SOps.freezeRef (t := 13) 0 0 rfl rfl rfl rfl rfl ?_
          refine SOps.nil ?_
          refine SCode.seq ?_
          refine SCode.seq ?_
          have hi9 : i < es.length := by omega
          obtain ⟨⟨key0, w⟩, hqi⟩ : ∃ x, qs[i]? = some x := ⟨_, List.getElem?_eq_getElem (by have := hd.len; omega)⟩
          obtain ⟨hk0, _⟩ := hd.ent i _ _ (List.getElem?_eq_getElem hi9) hqi
          dsimp only at hk0
          obtain ⟨hel8, her8⟩ := hd.small _ (List.mem_map.2 ⟨_, List.mem_of_getElem? hqi, hk0.symm⟩)
          dsimp only at hel8 her8
          have hsl : ((es[i]).l >>> p.length) < 256 := Nat.lt_of_le_of_lt (by rw [Nat.shiftRight_eq_div_pow]; exact Nat.div_le_self ..) hel8
          have hsr : ((es[i]).r >>> q.length) < 256 := Nat.lt_of_le_of_lt (by rw [Nat.shiftRight_eq_div_pow]; exact Nat.div_le_self ..) her8
          refine SCode.weaken (st' := (⟨137, [(0, DLs a), (1, DIts p), (2, DIts q), (8, .fn 57 [.ipin [DIts p], .ipin [DTbl (tbl a p)]]), (9, .fn 57 [.ipin [DIts q], .ipin [DTbl (tbl a q)]]), (10, .sl kq 4 0 es.length), (11, .mp bm), (12, .v (.int .i64 (i : Int))), (13, .ipin (encP (es[i])))], [(bm, .map (setE (qs.map (·.1)))), (kq, .row 85 4 (es.map encP))]⟩ : St)) (St.Le.of ⟨rfl, rfl, rfl, rfl, rfl, rfl, rfl, rfl, rfl, trivial⟩) ?_
          refine SCode.drawPure mixed_ [(62, .ipin ((encP (es[i])).drop 0)), (63, .v (.int .u8 (((es[i]).l : Nat) : Int))), (64, DIts p), (65, .v (.int .i64 ((p.length : Nat) : Int))), (66, .v (.int .u8 ((((es[i]).l >>> p.length) : Nat) : Int))), (67, .v (.int .u8 ((((es[i]).l >>> p.length) &&& 1 : Nat) : Int))), (68, .ipin ((encP (es[i])).drop 1)), (69, .v (.int .u8 (((es[i]).r : Nat) : Int))), (70, DIts q), (71, .v (.int .i64 ((q.length : Nat) : Int))), (72, .v (.int .u8 ((((es[i]).r >>> q.length) : Nat) : Int))), (73, .v (.int .u8 ((((es[i]).r >>> q.length) &&& 1 : Nat) : Int))), (74, .v (.bool ((es[i]).l.testBit p.length != (es[i]).r.testBit q.length)))] [62, 63, 64, 65, 66, 67, 68, 69, 70, 71, 72, 73, 74] [[.inr 13], [.inl 0], [.inr 1], [.inl 2], [.inl 1, .inl 3], [.inl 4], [.inr 13], [.inl 6], [.inr 2], [.inl 8], [.inl 7, .inl 9], [.inl 10], [.inl 5, .inl 11]] [[(13, .ipin (encP (es[i])))], [(62, .ipin ((encP (es[i])).drop 0))], [(1, DIts p)], [(64, DIts p)], [(63, .v (.int .u8 (((es[i]).l : Nat) : Int))), (65, .v (.int .i64 ((p.length : Nat) : Int)))], [(66, .v (.int .u8 ((((es[i]).l >>> p.length) : Nat) : Int)))], [(13, .ipin (encP (es[i])))], [(68, .ipin ((encP (es[i])).drop 1))], [(2, DIts q)], [(70, DIts q)], [(69, .v (.int .u8 (((es[i]).r : Nat) : Int))), (71, .v (.int .i64 ((q.length : Nat) : Int)))], [(72, .v (.int .u8 ((((es[i]).r >>> q.length) : Nat) : Int)))], [(67, .v (.int .u8 ((((es[i]).l >>> p.length) &&& 1 : Nat) : Int))), (73, .v (.int .u8 ((((es[i]).r >>> q.length) &&& 1 : Nat) : Int)))]] rfl (by kernel_rfl) (by kernel_rfl) rfl ?_ ?_
          · refine OpsOk.cons (fun rest => ?_) ?_
            · refine SOps.fieldPin rfl fieldB_85_0_0 ?_
              exact SOps.nil (by first | rfl | simp_all)
            refine OpsOk.cons (fun rest => ?_) ?_
            · refine SOps.loadPin rfl flatB_60 ?_
              exact SOps.nil (by first | rfl | simp_all)
            refine OpsOk.cons (fun rest => ?_) ?_
            · refine SOps.move rfl ?_
              exact SOps.nil (by first | rfl | simp_all)
            refine OpsOk.cons (fun rest => ?_) ?_
            · refine SOps.lenM rfl sliceB_23_56_4 ?_
              exact SOps.nil (by first | rfl | simp_all)
            refine OpsOk.cons (fun rest => ?_) ?_
            · refine SOps.shrN (k := p.length) rfl rfl (by first | omega | (simp only [lenB]; omega)) (by first | omega | (simp only [lenB]; omega)) (by first | omega | (simp only [lenB]; omega)) ?_
              exact SOps.nil (by first | rfl | simp_all)
            refine OpsOk.cons (fun rest => ?_) ?_
            · refine SOps.andN (y := 1) rfl rfl (by first | omega | (simp only [lenB]; omega)) (by first | omega | (simp only [lenB]; omega)) ?_
              exact SOps.nil (by first | rfl | simp_all)
            refine OpsOk.cons (fun rest => ?_) ?_
            · refine SOps.fieldPin rfl fieldB_85_1_1 ?_
              exact SOps.nil (by first | rfl | simp_all)
            refine OpsOk.cons (fun rest => ?_) ?_
            · refine SOps.loadPin rfl flatB_60 ?_
              exact SOps.nil (by first | rfl | simp_all)
            refine OpsOk.cons (fun rest => ?_) ?_
            · refine SOps.move rfl ?_
              exact SOps.nil (by first | rfl | simp_all)
            refine OpsOk.cons (fun rest => ?_) ?_
            · refine SOps.lenM rfl sliceB_23_56_4 ?_
              exact SOps.nil (by first | rfl | simp_all)
            refine OpsOk.cons (fun rest => ?_) ?_
            · refine SOps.shrN (k := q.length) rfl rfl (by first | omega | (simp only [lenB]; omega)) (by first | omega | (simp only [lenB]; omega)) (by first | omega | (simp only [lenB]; omega)) ?_
              exact SOps.nil (by first | rfl | simp_all)
            refine OpsOk.cons (fun rest => ?_) ?_
            · refine SOps.andN (y := 1) rfl rfl (by first | omega | (simp only [lenB]; omega)) (by first | omega | (simp only [lenB]; omega)) ?_
              exact SOps.nil (by first | rfl | simp_all)
            refine OpsOk.cons (fun rest => ?_) ?_
            · refine SOps.bin rfl rfl rfl ?_
              exact SOps.nil (show _ = _ from congrArg (fun b => St.put _ 74 (.v (.bool b))) (bitNe _ _ _ _))
            exact OpsOk.nil
          · show SCode _ _ _ _
            refine SCode.cond rfl (fun hc4 => ?_) (fun hc4 => ?_)
            · try simp only [decide_eq_true_eq, decide_eq_false_iff_not, Bool.not_eq_true', Bool.not_eq_false', beq_iff_eq, bne_iff_ne, ne_eq, beq_eq_false_iff_ne, bne_eq_false_iff_eq, Int.not_lt, Int.not_le, Nat.not_lt, Nat.not_le, Int.ofNat_lt, Int.ofNat_le, Bool.not_eq_eq_eq_not, Bool.not_true, Bool.not_false] at hc4
              have hbad : badP p q key0 = true := by rw [← hk0]; simpa [badP] using hc4
              refine SCode.seqR ?_
              refine SOps.assign rfl ?_
              refine SOps.nil ?_
              refine SCode.seq ?_
              refine SCode.seqR ?_
              refine SOps.move rfl ?_
              refine SOps.assign rfl ?_
              refine SOps.nil ?_
              refine SCode.block ?_
              refine SCode.loop4 (fun (k : Nat) (v : List Nat) (acc : List Nat) (kb : Nat) => (⟨137, [(0, DLs a), (10, .sl kq 4 0 es.length), (14, accD 1 kb ((acc.map (fun c => (atL a c).rune)).map rcell)), (15, .v (.int .i64 (k : Int)))], [(bm, .map (setE (qs.map (·.1)))), (kq, .row 85 4 (es.map encP))] ++ (accH 21 1 kb ((acc.map (fun c => (atL a c).rune)).map rcell) ++ [])⟩ : St)) (fun (k : Nat) (v : List Nat) (acc : List Nat) (kb : Nat) => k < es.length ∧ (∃ key, qs[k]? = some (key, v)) ∧ v ++ acc.reverse = w ∧ acc.length ≤ 65536 - k ∧ k ≤ i) (fun (k : Nat) (v : List Nat) (acc : List Nat) (kb : Nat) => v.length) (i) (w) ([]) (0) (by exact ⟨hi9, ⟨_, hqi⟩, by simp, by simp, Nat.le_refl _⟩) (St.Le.of ⟨(by first | rfl | (show some _ = some _; simp)), (by first | rfl | (show some _ = some _; simp)), (by first | rfl | (show some _ = some _; simp)), (by first | rfl | (show some _ = some _; simp)), trivial⟩ rfl (by first | rfl | (simp))) ?_
              rintro k v acc kb ⟨hk, ⟨key, hqk⟩, hvw, hal, hki⟩
              obtain ⟨_, hek⟩ := hd.ent k _ _ (List.getElem?_eq_getElem hk) hqk
              dsimp only at hek
              refine SCode.seq ?_
              refine SCode.seqR ?_
              refine SOps.move rfl ?_
              refine SOps.move rfl ?_
              refine SOps.indexS (k) rfl rfl sliceB_86_85_4 (by first | omega | (simp only [lenB]; omega)) (by first | omega | (simp only [lenB]; omega)) ?_
              refine SOps.fieldRef rfl fieldB_85_2_2 ?_
              refine SOps.loadF 1 (k) 2 rfl flatB_3 rfl (by first | rfl | omega) (by first | omega | (simp; done) | (simp; omega)) rfl ?_
              refine SOps.bin rfl rfl rfl ?_
              refine SOps.nil ?_
              refine SCode.cond rfl (fun hc5 => ?_) (fun hc5 => ?_)
              · try simp only [decide_eq_true_eq, decide_eq_false_iff_not, Bool.not_eq_true', Bool.not_eq_false', beq_iff_eq, bne_iff_ne, ne_eq, beq_eq_false_iff_ne, bne_eq_false_iff_eq, Int.not_lt, Int.not_le, Nat.not_lt, Nat.not_le, Int.ofNat_lt, Int.ofNat_le, Bool.not_eq_eq_eq_not, Bool.not_true, Bool.not_false] at hc5
                refine SCode.skip ?_
                show SCode _ _ _ _
                refine SCode.seq ?_
                refine SCode.block ?_
                refine SCode.region ?_
                obtain ⟨j1, k1, v1, hfr, hj1, hlt1, hq1, hv1⟩ := hek.resolve_left (fun h => by have := h.1; omega)
                refine SOps.move rfl ?_
                refine SOps.move rfl ?_
                refine SOps.move rfl ?_
                refine SOps.move rfl ?_
                refine SOps.indexS (k) rfl rfl sliceB_86_85_4 (by first | omega | (simp only [lenB]; omega)) (by first | omega | (simp only [lenB]; omega)) ?_
                refine SOps.fieldRef rfl fieldB_85_3_3 ?_
                refine SOps.loadF 1 (k) 3 rfl flatB_3 rfl (by first | rfl | omega) (by first | omega | (simp; done) | (simp; omega)) rfl ?_
                refine SOps.indexM ((es[k]).lt) rfl rfl sliceB_22_69_2 (by first | omega | (simp only [lenB]; omega)) (by first | omega | (simp only [lenB]; omega)) ?_
                refine SOps.fieldPin rfl fieldB_69_0_0 ?_
                refine SOps.loadPin rfl flatB_21 ?_
                refine SOps.reSlot (t := 96) rfl (show _ = DV.v (.int .i32 (atL a (es[k]).lt).rune) by rw [atL_lt hlt1]) ?_
                refine SOps.litF rfl sliceB_50_21_1 zeroIs_21 rfl ?_
                refine SOps.appendAcc [_, _] [] sliceB_50_21_1 elemB_21_1_4 rfl rfl rfl SrcD.isl (by simp) (by first | (simp [lenB] <;> (first | omega | (simp only [lenB]; omega))) | (simp only [lenB]; (first | omega | (simp only [lenB]; omega)))) (by first | (simp <;> (first | omega | (simp only [lenB]; omega))) | (first | omega | (simp only [lenB]; omega))) (fun b3 => ?_)
                refine SOps.assign rfl ?_
                refine SOps.nil ?_
                show SCode _ _ _ _
                refine SCode.region ?_
                refine SOps.move rfl ?_
                refine SOps.move rfl ?_
                refine SOps.indexS (k) rfl rfl sliceB_86_85_4 (by first | omega | (simp only [lenB]; omega)) (by first | omega | (simp only [lenB]; omega)) ?_
                refine SOps.fieldRef rfl fieldB_85_2_2 ?_
                refine SOps.loadF 1 (k) 2 rfl flatB_3 rfl (by first | rfl | omega) (by first | omega | (simp; done) | (simp; omega)) rfl ?_
                refine SOps.assign rfl ?_
                refine SOps.nil ?_
                exact ⟨j1, v1, acc ++ [(es[k]).lt], b3, ⟨by omega, ⟨_, hq1⟩, by rw [← hvw, hv1]; simp, by simp; omega, by omega⟩, by rw [hv1]; simp, St.Le.of ⟨rfl, rfl, (by show some _ = some _; rw [List.map_append, List.map_append]; rfl), (by show some _ = some _; rw [hfr]), trivial⟩ rfl (by rw [List.map_append, List.map_append]; rfl)⟩
              · try simp only [decide_eq_true_eq, decide_eq_false_iff_not, Bool.not_eq_true', Bool.not_eq_false', beq_iff_eq, bne_iff_ne, ne_eq, beq_eq_false_iff_ne, bne_eq_false_iff_eq, Int.not_lt, Int.not_le, Nat.not_lt, Nat.not_le, Int.ofNat_lt, Int.ofNat_le, Bool.not_eq_eq_eq_not, Bool.not_true, Bool.not_false] at hc5
                refine SCode.exit ?_
                show SCode _ _ _ _
                refine SCode.seqR ?_
                have hv0 : v = [] := by rcases hek with ⟨_, h⟩ | ⟨j1, _, _, h, _⟩; exact h; omega
                have hvw2 : acc.reverse = w := by rw [← hvw, hv0]; rfl
                refine SOps.accDI (t := 14) rfl ?_
                refine SOps.move rfl ?_
                refine SOps.callH [_, _] _ [] (sRevR (acc.map (fun c => (atL a c).rune)) kb (by simp; omega)) rfl rfl (fun d H hR => ?_)
                obtain ⟨rfl, rfl⟩ := hR
                refine SOps.nil ?_
                refine SCode.seqR ?_
                refine SOps.reSlot (t := 14) rfl (show _ = accI 1 kb (((acc.map (fun c => (atL a c).rune)).reverse).map rcell) from accI_len (by simp)) ?_
                refine SOps.freezeAccI (t := 14) [_, _] [] rfl rfl rfl ?_
                refine SOps.move rfl ?_
                refine SOps.convRunesStr rfl sliceB_50_21_1 intB_21_i32 strB_9 (by simp [lenB] <;> (first | omega | (simp only [lenB]; omega))) ?_
                refine SOps.assign rfl ?_
                refine SOps.assign rfl ?_
                refine SOps.nil ?_
                refine SCode.drop ?_
                refine SCode.ret ?_
                exact ⟨_, Res.two (.tmp rfl) (.tmp rfl), by rw [difR, if_pos (by rw [hvp, hvq]; rfl), ← hdf, show 65537 - i = (65536 - i) + 1 by omega, difE_some hqi, if_pos hbad, ← hvw2, tupW, spellA, List.map_reverse], rfl⟩
            · try simp only [decide_eq_true_eq, decide_eq_false_iff_not, Bool.not_eq_true', Bool.not_eq_false', beq_iff_eq, bne_iff_ne, ne_eq, beq_eq_false_iff_ne, bne_eq_false_iff_eq, Int.not_lt, Int.not_le, Nat.not_lt, Nat.not_le, Int.ofNat_lt, Int.ofNat_le, Bool.not_eq_eq_eq_not, Bool.not_true, Bool.not_false] at hc4
              have hnb : ¬ badP p q key0 = true := by rw [← hk0]; simp [badP, hc4]
              refine SCode.skip ?_
              show SCode _ _ _ _
              refine SCode.seqR ?_
              refine SOps.move rfl ?_
              refine SOps.lenM rfl sliceB_22_69_2 ?_
              refine SOps.move rfl ?_
              refine SOps.nil ?_
              refine SCode.block ?_
              refine SCode.loop4 (fun (j : Nat) (es2 : List Ent) (qs2 : List Key) (kq2 : Nat) => (⟨137, [(0, DLs a), (1, DIts p), (2, DIts q), (8, .fn 57 [.ipin [DIts p], .ipin [DTbl (tbl a p)]]), (9, .fn 57 [.ipin [DIts q], .ipin [DTbl (tbl a q)]]), (10, .sl kq2 4 0 es2.length), (11, .mp bm), (12, .v (.int .i64 (i : Int))), (13, .ipin (encP (es[i]))), (104, .v (.int .i64 ((a.length : Nat) : Int))), (105, .v (.int .i64 (j : Int)))], [(bm, .map (setE (qs2.map (·.1)))), (kq2, .row 85 4 (es2.map encP))]⟩ : St)) (fun (j : Nat) (es2 : List Ent) (qs2 : List Key) (kq2 : Nat) => ∃ (hi2 : i < es2.length), qs2[i]? = some (key0, w) ∧ j ≤ a.length ∧ DifOK a.length es2 qs2 ∧ rowD eqP w ((nxP a p q key0).drop j) j qs2 = rowD eqP w (nxP a p q key0) 0 qs) (fun (j : Nat) (es2 : List Ent) (qs2 : List Key) (kq2 : Nat) => a.length - j) (0) (es) (qs) (kq) (by exact ⟨hi9, hqi, Nat.zero_le _, hd, rfl⟩) (St.Le.of ⟨(by first | rfl | (show some _ = some _; simp)), (by first | rfl | (show some _ = some _; simp)), (by first | rfl | (show some _ = some _; simp)), (by first | rfl | (show some _ = some _; simp)), (by first | rfl | (show some _ = some _; simp)), (by first | rfl | (show some _ = some _; simp)), (by first | rfl | (show some _ = some _; simp)), (by first | rfl | (show some _ = some _; simp)), (by first | rfl | (show some _ = some _; simp)), (by first | rfl | (show some _ = some _; simp)), (by first | rfl | (show some _ = some _; simp)), trivial⟩ rfl (by first | rfl | (simp))) ?_
              rintro j es2 qs2 kq2 ⟨hi2, hqi2, hj, hd2, hrw⟩
              have hle2 := hd2.le
              refine SCode.seqR ?_
              refine SOps.bin rfl rfl rfl ?_
              refine SOps.nil ?_
              refine SCode.seq ?_
              refine SCode.cond rfl (fun hc6 => ?_) (fun hc6 => ?_)
              · try simp only [decide_eq_true_eq, decide_eq_false_iff_not, Bool.not_eq_true', Bool.not_eq_false', beq_iff_eq, bne_iff_ne, ne_eq, beq_eq_false_iff_ne, bne_eq_false_iff_eq, Int.not_lt, Int.not_le, Nat.not_lt, Nat.not_le, Int.ofNat_lt, Int.ofNat_le, Bool.not_eq_eq_eq_not, Bool.not_true, Bool.not_false] at hc6
                refine SCode.skip ?_
                show SCode _ _ _ _
                refine SCode.seq ?_
                refine SCode.block ?_
                refine SCode.seqR ?_
                refine SOps.move rfl ?_
                refine SOps.assign rfl ?_
                refine SOps.nil ?_
                refine SCode.seq ?_
                have hja : j < a.length := by omega
                have hnl8 : stepA a p (es[i]).l j < 256 := stepN_lt _ (by omega)
                have hnr8 : stepA a q (es[i]).r j < 256 := stepN_lt _ (by omega)
                refine SCode.weaken (st' := (⟨137, [(0, DLs a), (1, DIts p), (2, DIts q), (8, .fn 57 [.ipin [DIts p], .ipin [DTbl (tbl a p)]]), (9, .fn 57 [.ipin [DIts q], .ipin [DTbl (tbl a q)]]), (10, .sl kq2 4 0 es2.length), (11, .mp bm), (12, .v (.int .i64 (i : Int))), (13, .ipin (encP (es[i]))), (16, .v (.int .i64 (j : Int))), (104, .v (.int .i64 ((a.length : Nat) : Int))), (105, .v (.int .i64 (j : Int)))], [(bm, .map (setE (qs2.map (·.1)))), (kq2, .row 85 4 (es2.map encP))]⟩ : St)) (St.Le.of ⟨rfl, rfl, rfl, rfl, rfl, rfl, rfl, rfl, rfl, rfl, rfl, rfl, trivial⟩) ?_
                refine SCode.drawMix 16 [13, 14] mixed_ [fun b => some (108, .fn 57 [.ipin [DIts p], .ipin [DTbl (tbl a p)]]), fun b => some (109, .ipin ((encP (es[i])).drop 0)), fun b => some (110, .v (.int .u8 (((es[i]).l : Nat) : Int))), fun b => some (111, .v (.int .i64 (j : Int))), fun b => some (112, .v (.int .u8 ((stepA a p (es[i]).l j : Nat) : Int))), fun b => some (113, .fn 57 [.ipin [DIts q], .ipin [DTbl (tbl a q)]]), fun b => some (114, .ipin ((encP (es[i])).drop 1)), fun b => some (115, .v (.int .u8 (((es[i]).r : Nat) : Int))), fun b => some (116, .v (.int .i64 (j : Int))), fun b => some (117, .v (.int .u8 ((stepA a q (es[i]).r j : Nat) : Int))), fun b => some (118, .v (.int .i64 (i : Int))), fun b => some (119, .v (.int .i64 (j : Int))), fun b => some (120, .agg (encP ⟨stepA a p (es[i]).l j, stepA a q (es[i]).r j, (i : Int), j⟩)), fun b => some (17, .ref b 0), fun b => none] [some 108, some 109, some 110, some 111, some 112, some 113, some 114, some 115, some 116, some 117, some 118, some 119, some 120, some 17, none] [[.inr 8], [.inr 13], [.inl 1], [.inr 16], [.inl 0, .inl 2, .inl 3], [.inr 9], [.inr 13], [.inl 6], [.inr 16], [.inl 5, .inl 7, .inl 8], [.inr 12], [.inr 16], [.inl 4, .inl 9, .inl 10, .inl 11], [], [.inl 13, .inl 12]] [fun b => [(8, .fn 57 [.ipin [DIts p], .ipin [DTbl (tbl a p)]])], fun b => [(13, .ipin (encP (es[i])))], fun b => [(109, .ipin ((encP (es[i])).drop 0))], fun b => [(16, .v (.int .i64 (j : Int)))], fun b => [(108, .fn 57 [.ipin [DIts p], .ipin [DTbl (tbl a p)]]), (110, .v (.int .u8 (((es[i]).l : Nat) : Int))), (111, .v (.int .i64 (j : Int)))], fun b => [(9, .fn 57 [.ipin [DIts q], .ipin [DTbl (tbl a q)]])], fun b => [(13, .ipin (encP (es[i])))], fun b => [(114, .ipin ((encP (es[i])).drop 1))], fun b => [(16, .v (.int .i64 (j : Int)))], fun b => [(113, .fn 57 [.ipin [DIts q], .ipin [DTbl (tbl a q)]]), (115, .v (.int .u8 (((es[i]).r : Nat) : Int))), (116, .v (.int .i64 (j : Int)))], fun b => [(12, .v (.int .i64 (i : Int)))], fun b => [(16, .v (.int .i64 (j : Int)))], fun b => [(112, .v (.int .u8 ((stepA a p (es[i]).l j : Nat) : Int))), (117, .v (.int .u8 ((stepA a q (es[i]).r j : Nat) : Int))), (118, .v (.int .i64 (i : Int))), (119, .v (.int .i64 (j : Int)))], fun b => [], fun b => [(17, .ref b 0), (120, .agg (encP ⟨stepA a p (es[i]).l j, stepA a q (es[i]).r j, (i : Int), j⟩))]] (fun b c => match c with | 0 => [(bm, .map (setE (qs2.map (·.1)))), (kq2, .row 85 4 (es2.map encP))] | 1 => (b, .row 85 4 [[.v (.int .u8 0), .v (.int .u8 0), .v (.int .i64 0), .v (.int .i64 0)]]) :: [(bm, .map (setE (qs2.map (·.1)))), (kq2, .row 85 4 (es2.map encP))] | _ => (b, .row 85 4 [encP ⟨stepA a p (es[i]).l j, stepA a q (es[i]).r j, (i : Int), j⟩]) :: [(bm, .map (setE (qs2.map (·.1)))), (kq2, .row 85 4 (es2.map encP))]) [(false, false, [0, 1]), (false, false, [0, 1]), (false, false, [0, 1]), (false, false, [0, 1]), (false, false, [0, 1]), (false, false, [0, 1]), (false, false, [0, 1]), (false, false, [0, 1]), (false, false, [0, 1]), (false, false, [0, 1]), (false, false, [0, 1]), (false, false, [0, 1]), (false, false, [0, 1]), (true, true, [0]), (true, false, [1])] (by kernel_rfl) (fun _ => rfl) rfl (fun _ => rfl) (fun _ => rfl) (cohOne 13 rfl (fun j r hj => by match j, hj with | 0, hj => exact .inl (by simp at hj; subst hj; intros; rfl) | 1, hj => exact .inl (by simp at hj; subst hj; intros; rfl) | 2, hj => exact .inl (by simp at hj; subst hj; intros; rfl) | 3, hj => exact .inl (by simp at hj; subst hj; intros; rfl) | 4, hj => exact .inl (by simp at hj; subst hj; intros; rfl) | 5, hj => exact .inl (by simp at hj; subst hj; intros; rfl) | 6, hj => exact .inl (by simp at hj; subst hj; intros; rfl) | 7, hj => exact .inl (by simp at hj; subst hj; intros; rfl) | 8, hj => exact .inl (by simp at hj; subst hj; intros; rfl) | 9, hj => exact .inl (by simp at hj; subst hj; intros; rfl) | 10, hj => exact .inl (by simp at hj; subst hj; intros; rfl) | 11, hj => exact .inl (by simp at hj; subst hj; intros; rfl) | 12, hj => exact .inl (by simp at hj; subst hj; intros; rfl) | 13, hj => exact .inr (.inl rfl) | 14, hj => exact .inl (by simp at hj; subst hj; intros; rfl) | q + 15, hj => simp at hj)) ?_ ?_
                · refine MixOk.cons ?_ ?_
                  · refine StgOk.cons (fun b rest => ?_) ?_
                    · refine SOps.move rfl ?_
                      exact SOps.nil ⟨b, fun _ => rfl, by first | rfl | simp_all⟩
                    refine StgOk.cons (fun b rest => ?_) ?_
                    · refine SOps.move rfl ?_
                      exact SOps.nil ⟨b, fun _ => rfl, by first | rfl | simp_all⟩
                    exact StgOk.nil
                  refine MixOk.cons ?_ ?_
                  · refine StgOk.cons (fun b rest => ?_) ?_
                    · refine SOps.fieldPin rfl fieldB_85_0_0 ?_
                      exact SOps.nil ⟨b, fun _ => rfl, by first | rfl | simp_all⟩
                    refine StgOk.cons (fun b rest => ?_) ?_
                    · refine SOps.fieldPin rfl fieldB_85_0_0 ?_
                      exact SOps.nil ⟨b, fun _ => rfl, by first | rfl | simp_all⟩
                    exact StgOk.nil
                  refine MixOk.cons ?_ ?_
                  · refine StgOk.cons (fun b rest => ?_) ?_
                    · refine SOps.loadPin rfl flatB_60 ?_
                      exact SOps.nil ⟨b, fun _ => rfl, by first | rfl | simp_all⟩
                    refine StgOk.cons (fun b rest => ?_) ?_
                    · refine SOps.loadPin rfl flatB_60 ?_
                      exact SOps.nil ⟨b, fun _ => rfl, by first | rfl | simp_all⟩
                    exact StgOk.nil
                  refine MixOk.cons ?_ ?_
                  · refine StgOk.cons (fun b rest => ?_) ?_
                    · refine SOps.move rfl ?_
                      exact SOps.nil ⟨b, fun _ => rfl, by first | rfl | simp_all⟩
                    refine StgOk.cons (fun b rest => ?_) ?_
                    · refine SOps.move rfl ?_
                      exact SOps.nil ⟨b, fun _ => rfl, by first | rfl | simp_all⟩
                    exact StgOk.nil
                  refine MixOk.cons ?_ ?_
                  · refine StgOk.cons (fun b rest => ?_) ?_
                    · refine SOps.callFn (ds := [_, _]) rfl (pNext a p _ j (by omega) hel8 hja) rfl ?_
                      rintro _ _ ⟨rfl, rfl⟩
                      exact SOps.nil ⟨b, fun _ => rfl, by first | rfl | simp_all⟩
                    refine StgOk.cons (fun b rest => ?_) ?_
                    · refine SOps.callFn (ds := [_, _]) rfl (pNext a p _ j (by omega) hel8 hja) rfl ?_
                      rintro _ _ ⟨rfl, rfl⟩
                      exact SOps.nil ⟨b, fun _ => rfl, by first | rfl | simp_all⟩
                    exact StgOk.nil
                  refine MixOk.cons ?_ ?_
                  · refine StgOk.cons (fun b rest => ?_) ?_
                    · refine SOps.move rfl ?_
                      exact SOps.nil ⟨b, fun _ => rfl, by first | rfl | simp_all⟩
                    refine StgOk.cons (fun b rest => ?_) ?_
                    · refine SOps.move rfl ?_
                      exact SOps.nil ⟨b, fun _ => rfl, by first | rfl | simp_all⟩
                    exact StgOk.nil
                  refine MixOk.cons ?_ ?_
                  · refine StgOk.cons (fun b rest => ?_) ?_
                    · refine SOps.fieldPin rfl fieldB_85_1_1 ?_
                      exact SOps.nil ⟨b, fun _ => rfl, by first | rfl | simp_all⟩
                    refine StgOk.cons (fun b rest => ?_) ?_
                    · refine SOps.fieldPin rfl fieldB_85_1_1 ?_
                      exact SOps.nil ⟨b, fun _ => rfl, by first | rfl | simp_all⟩
                    exact StgOk.nil
                  refine MixOk.cons ?_ ?_
                  · refine StgOk.cons (fun b rest => ?_) ?_
                    · refine SOps.loadPin rfl flatB_60 ?_
                      exact SOps.nil ⟨b, fun _ => rfl, by first | rfl | simp_all⟩
                    refine StgOk.cons (fun b rest => ?_) ?_
                    · refine SOps.loadPin rfl flatB_60 ?_
                      exact SOps.nil ⟨b, fun _ => rfl, by first | rfl | simp_all⟩
                    exact StgOk.nil
                  refine MixOk.cons ?_ ?_
                  · refine StgOk.cons (fun b rest => ?_) ?_
                    · refine SOps.move rfl ?_
                      exact SOps.nil ⟨b, fun _ => rfl, by first | rfl | simp_all⟩
                    refine StgOk.cons (fun b rest => ?_) ?_
                    · refine SOps.move rfl ?_
                      exact SOps.nil ⟨b, fun _ => rfl, by first | rfl | simp_all⟩
                    exact StgOk.nil
                  refine MixOk.cons ?_ ?_
                  · refine StgOk.cons (fun b rest => ?_) ?_
                    · refine SOps.callFn (ds := [_, _]) rfl (pNext a q _ j (by omega) her8 hja) rfl ?_
                      rintro _ _ ⟨rfl, rfl⟩
                      exact SOps.nil ⟨b, fun _ => rfl, by first | rfl | simp_all⟩
                    refine StgOk.cons (fun b rest => ?_) ?_
                    · refine SOps.callFn (ds := [_, _]) rfl (pNext a q _ j (by omega) her8 hja) rfl ?_
                      rintro _ _ ⟨rfl, rfl⟩
                      exact SOps.nil ⟨b, fun _ => rfl, by first | rfl | simp_all⟩
                    exact StgOk.nil
                  refine MixOk.cons ?_ ?_
                  · refine StgOk.cons (fun b rest => ?_) ?_
                    · refine SOps.move rfl ?_
                      exact SOps.nil ⟨b, fun _ => rfl, by first | rfl | simp_all⟩
                    refine StgOk.cons (fun b rest => ?_) ?_
                    · refine SOps.move rfl ?_
                      exact SOps.nil ⟨b, fun _ => rfl, by first | rfl | simp_all⟩
                    exact StgOk.nil
                  refine MixOk.cons ?_ ?_
                  · refine StgOk.cons (fun b rest => ?_) ?_
                    · refine SOps.move rfl ?_
                      exact SOps.nil ⟨b, fun _ => rfl, by first | rfl | simp_all⟩
                    refine StgOk.cons (fun b rest => ?_) ?_
                    · refine SOps.move rfl ?_
                      exact SOps.nil ⟨b, fun _ => rfl, by first | rfl | simp_all⟩
                    exact StgOk.nil
                  refine MixOk.cons ?_ ?_
                  · refine StgOk.cons (fun b rest => ?_) ?_
                    · refine SOps.buildM placesB_85 zeroIs_85 rfl rfl ?_
                      exact SOps.nil ⟨b, fun _ => rfl, by first | rfl | simp_all⟩
                    refine StgOk.cons (fun b rest => ?_) ?_
                    · refine SOps.buildM placesB_85 zeroIs_85 rfl rfl ?_
                      exact SOps.nil ⟨b, fun _ => rfl, by first | rfl | simp_all⟩
                    exact StgOk.nil
                  refine MixOk.cons ?_ ?_
                  · refine StgOk.cons (fun b rest => ?_) ?_
                    · refine SOps.alloc (sz := 4) zeroIs_85 (fun b4 hb_4 => ?_)
                      exact SOps.nil ⟨b4, (fun h => by cases h), rfl⟩
                    exact StgOk.nil
                  refine MixOk.cons ?_ ?_
                  · refine StgOk.cons (fun b rest => ?_) ?_
                    · refine SOps.storeAM 0 rfl rfl aggB_85_4 rfl ?_
                      exact SOps.nil ⟨b, fun _ => rfl, by first | rfl | simp_all⟩
                    exact StgOk.nil
                  exact MixOk.nil
                · intro bY
                  show SCode _ _ _ _
                  refine SCode.seqR ?_
                  refine SOps.freezeRef (t := 17) 0 0 rfl rfl rfl rfl rfl ?_
                  refine SOps.fieldPin rfl fieldB_85_0_0 ?_
                  refine SOps.loadPin rfl flatB_60 ?_
                  refine SOps.fieldPin rfl fieldB_85_1_1 ?_
                  refine SOps.loadPin rfl flatB_60 ?_
                  refine SOps.buildArrM arrayB_87_2_60_1 zeroIs_87 rfl rfl ?_
                  refine SOps.alloc (sz := 2) zeroIs_87 (fun b5 hb_5 => ?_)
                  refine SOps.storeAM 0 rfl rfl aggB_87_2 rfl ?_
                  refine SOps.freezeRef (t := 18) 0 0 rfl rfl rfl rfl rfl ?_
                  refine SOps.nil ?_
                  refine SCode.seqR ?_
                  refine SOps.move rfl ?_
                  refine SOps.loadPinA rfl aggB_87_2 (Nat.le_of_ble_eq_true rfl) ?_
                  refine SOps.lookupPair 0 (p := (stepA a p (es[i]).l j, stepA a q (es[i]).r j)) rfl rfl rfl pairs_ zeroIs_4 hd2.small ⟨hnl8, hnr8⟩ ?_
                  refine SOps.un rfl rfl ?_
                  refine SOps.nil ?_
                  refine SCode.cond rfl (fun hc7 => ?_) (fun hc7 => ?_)
                  · try simp only [decide_eq_true_eq, decide_eq_false_iff_not, Bool.not_eq_true', Bool.not_eq_false', beq_iff_eq, bne_iff_ne, ne_eq, beq_eq_false_iff_ne, bne_eq_false_iff_eq, Int.not_lt, Int.not_le, Nat.not_lt, Nat.not_le, Int.ofNat_lt, Int.ofNat_le, Bool.not_eq_eq_eq_not, Bool.not_true, Bool.not_false] at hc7
                    have hmem := hc7
                    refine SCode.seqR ?_
                    refine SOps.move rfl ?_
                    refine SOps.loadPinA rfl aggB_87_2 (Nat.le_of_ble_eq_true rfl) ?_
                    refine SOps.updatePair 0 (p := (stepA a p (es[i]).l j, stepA a q (es[i]).r j)) rfl rfl rfl rfl pairs_ hd2.small ⟨hnl8, hnr8⟩ hmem ?_
                    refine SOps.nil ?_
                    refine SCode.region ?_
                    refine SOps.move rfl ?_
                    refine SOps.loadPinA rfl aggB_85_4 (Nat.le_of_ble_eq_true rfl) ?_
                    refine SOps.litF rfl sliceB_86_85_4 zeroIs_85 rfl ?_
                    refine SOps.appendOwn 1 sliceB_86_85_4 elemB_85_4_24 rfl rfl rfl (by simp) SrcD.isl (by simp) (by first | (simp [lenB] <;> (first | omega | (simp only [lenB]; omega))) | (simp only [lenB]; (first | omega | (simp only [lenB]; omega)))) (by first | (simp <;> (first | omega | (simp only [lenB]; omega))) | (first | omega | (simp only [lenB]; omega))) (fun b6 hb_6 => ?_)
                    refine SOps.assign rfl ?_
                    refine SOps.nil ?_
                    show SCode _ _ _ _
                    refine SCode.region ?_
                    refine SOps.addI rfl rfl (by first | omega | (simp only [lenB]; omega)) (by first | omega | (simp only [lenB]; omega)) ?_
                    refine SOps.move rfl ?_
                    refine SOps.nil ?_
                    first
                      | exact ⟨j + 1, es2 ++ [⟨stepA a p (es[i]).l j, stepA a q (es[i]).r j, (i : Int), j⟩], qs2 ++ [((stepA a p (es[i]).l j, stepA a q (es[i]).r j), w ++ [j])], b6, ⟨by simp; omega, by rw [List.getElem?_append_left (by have := hd2.len; omega)]; exact hqi2, by omega, hd2.add hqi2 hja hmem ⟨hnl8, hnr8⟩, by rw [← hrw, nxP_drop hja, ← hk0, rowD_new hmem]⟩, by omega, St.Le.of ⟨rfl, rfl, rfl, rfl, rfl, (by show some _ = some _; simp), rfl, rfl, rfl, rfl, rfl, trivial⟩ rfl (by rw [List.map_append, List.map_append]; rfl)⟩
                      | exact ⟨j + 1, es2, qs2, kq2, ⟨hi2, hqi2, by omega, hd2, by rw [← hrw, nxP_drop hja, ← hk0, rowD_in hmem]⟩, by omega, St.Le.of ⟨rfl, rfl, rfl, rfl, rfl, rfl, rfl, rfl, rfl, rfl, rfl, trivial⟩⟩
                  · try simp only [decide_eq_true_eq, decide_eq_false_iff_not, Bool.not_eq_true', Bool.not_eq_false', beq_iff_eq, bne_iff_ne, ne_eq, beq_eq_false_iff_ne, bne_eq_false_iff_eq, Int.not_lt, Int.not_le, Nat.not_lt, Nat.not_le, Int.ofNat_lt, Int.ofNat_le, Bool.not_eq_eq_eq_not, Bool.not_true, Bool.not_false] at hc7
                    have hmem := hc7
                    refine SCode.skip ?_
                    show SCode _ _ _ _
                    refine SCode.region ?_
                    refine SOps.addI rfl rfl (by first | omega | (simp only [lenB]; omega)) (by first | omega | (simp only [lenB]; omega)) ?_
                    refine SOps.move rfl ?_
                    refine SOps.nil ?_
                    first
                      | exact ⟨j + 1, es2 ++ [⟨stepA a p (es[i]).l j, stepA a q (es[i]).r j, (i : Int), j⟩], qs2 ++ [((stepA a p (es[i]).l j, stepA a q (es[i]).r j), w ++ [j])], b6, ⟨by simp; omega, by rw [List.getElem?_append_left (by have := hd2.len; omega)]; exact hqi2, by omega, hd2.add hqi2 hja hmem ⟨hnl8, hnr8⟩, by rw [← hrw, nxP_drop hja, ← hk0, rowD_new hmem]⟩, by omega, St.Le.of ⟨rfl, rfl, rfl, rfl, rfl, (by show some _ = some _; simp), rfl, rfl, rfl, rfl, rfl, trivial⟩ rfl (by rw [List.map_append, List.map_append]; rfl)⟩
                      | exact ⟨j + 1, es2, qs2, kq2, ⟨hi2, hqi2, by omega, hd2, by rw [← hrw, nxP_drop hja, ← hk0, rowD_in hmem]⟩, by omega, St.Le.of ⟨rfl, rfl, rfl, rfl, rfl, rfl, rfl, rfl, rfl, rfl, rfl, trivial⟩⟩
              · try simp only [decide_eq_true_eq, decide_eq_false_iff_not, Bool.not_eq_true', Bool.not_eq_false', beq_iff_eq, bne_iff_ne, ne_eq, beq_eq_false_iff_ne, bne_eq_false_iff_eq, Int.not_lt, Int.not_le, Nat.not_lt, Nat.not_le, Int.ofNat_lt, Int.ofNat_le, Bool.not_eq_eq_eq_not, Bool.not_true, Bool.not_false] at hc6
                refine SCode.exit ?_
                show SCode _ _ _ _
                refine SCode.region ?_
                refine SOps.move rfl ?_
                refine SOps.addI rfl rfl (by first | omega | (simp only [lenB]; omega)) (by first | omega | (simp only [lenB]; omega)) ?_
                refine SOps.assign rfl ?_
                refine SOps.nil ?_
                exact ⟨i + 1, es2, qs2, kq2, ⟨by omega, by omega, hd2, by rw [← hdf, show 65537 - i = (65537 - (i + 1)) + 1 by omega, difE_some hqi, if_neg hnb, ← hrw, nxP_end (by omega)]; rfl⟩, by omega, St.Le.of ⟨rfl, rfl, rfl, rfl, rfl, rfl, rfl, rfl, trivial⟩⟩
        · try simp only [decide_eq_true_eq, decide_eq_false_iff_not, Bool.not_eq_true', Bool.not_eq_false', beq_iff_eq, bne_iff_ne, ne_eq, beq_eq_false_iff_ne, bne_eq_false_iff_eq, Int.not_lt, Int.not_le, Nat.not_lt, Nat.not_le, Int.ofNat_lt, Int.ofNat_le, Bool.not_eq_eq_eq_not, Bool.not_true, Bool.not_false] at hc3
          refine SCode.exit ?_
          show SCode _ _ _ _
          refine SCode.seqR ?_
          refine SOps.assign rfl ?_
          refine SOps.assign rfl ?_
          refine SOps.nil ?_
          refine SCode.drop ?_
          refine SCode.ret ?_
          exact ⟨_, Res.two (.tmp rfl) (.tmp rfl), by rw [difR, if_pos (by rw [hvp, hvq]; rfl), ← hdf, difE_none (by have := hd.len; omega)]; rfl, rfl⟩
end Go.GH
namespace Go.GH
open Go

def bitsL (n s : Nat) : List Bool := (List.range n).map (fun i => s.testBit i)
theorem bitsL_len (n s : Nat) : (bitsL n s).length = n := by simp [bitsL]
theorem bitsL_at {n s i : Nat} (h : i < (bitsL n s).length) : (bitsL n s)[i] = s.testBit i := by simp [bitsL]
theorem bitsL_set {n s k : Nat} (h : k < n) : (bitsL n s).set k true = bitsL n (s ||| 2 ^ k) := by
  apply List.ext_getElem
  · simp [bitsL]
  · intro i h1 h2
    rw [List.getElem_set]
    simp only [bitsL, List.getElem_map, List.getElem_range, bit_or]
    by_cases e : k = i
    · rw [if_pos e, decide_eq_true e, Bool.or_true]
    · rw [if_neg e, decide_eq_false e, Bool.or_false]
theorem bitsL_zero (n : Nat) : bitsL n 0 = List.replicate n false := by
  apply List.ext_getElem
  · simp [bitsL]
  · intro i h1 h2; simp [bitsL]
theorem bitsL_inj {n s t : Nat} (hs : s < 2 ^ n) (ht : t < 2 ^ n) (h : bitsL n s = bitsL n t) : s = t := by
  apply Nat.eq_of_testBit_eq
  intro i
  by_cases hi : i < n
  · have e1 : (bitsL n s)[i]? = (bitsL n t)[i]? := by rw [h]
    simpa [bitsL, hi] using e1
  · rw [Nat.testBit_lt_two_pow (Nat.lt_of_lt_of_le hs (Nat.pow_le_pow_right (by decide) (by omega))), Nat.testBit_lt_two_pow (Nat.lt_of_lt_of_le ht (Nat.pow_le_pow_right (by decide) (by omega)))]
theorem closedF_lt2 {n : Nat} : ∀ (p : List Item) (k s : Nat), k + p.length < n → s < 2 ^ n → closedF p k s < 2 ^ n
  | [], _, _, _, h => h
  | x :: p, k, s, h1, h2 => by
    simp only [List.length_cons] at h1
    refine closedF_lt2 p (k + 1) _ (by omega) ?_
    split
    · exact Nat.or_lt_two_pow h2 (Nat.pow_lt_pow_right (by decide) (by omega))
    · exact h2
theorem nextF_lt2 {n : Nat} (f : Item → Bool) (s : Nat) : ∀ (p : List Item) (k acc : Nat), k + p.length < n → acc < 2 ^ n → nextF f s p k acc < 2 ^ n
  | [], _, _, _, h => h
  | x :: p, k, acc, h1, h2 => by
    simp only [List.length_cons] at h1
    refine nextF_lt2 f s p (k + 1) _ (by omega) ?_
    split
    · refine Nat.or_lt_two_pow h2 (Nat.pow_lt_pow_right (by decide) ?_)
      split <;> omega
    · exact h2
theorem closedN_lt2 (p : List Item) {s : Nat} (h : s < 2 ^ (p.length + 1)) : closedN p s < 2 ^ (p.length + 1) := closedF_lt2 p 0 s (by omega) h
theorem stepN_lt2 (p : List Item) (f : Item → Bool) (s : Nat) : stepN p f s < 2 ^ (p.length + 1) := closedN_lt2 p (nextF_lt2 f s p 0 0 (by omega) (Nat.two_pow_pos _))
theorem closedF_cons (x : Item) (p : List Item) (k s : Nat) : closedF (x :: p) k s = closedF p (k + 1) (if x.rep && s.testBit k then s ||| 2 ^ (k + 1) else s) := rfl
theorem nextF_cons (f : Item → Bool) (s : Nat) (x : Item) (p : List Item) (k acc : Nat) : nextF f s (x :: p) k acc = nextF f s p (k + 1) (if s.testBit k && f x then acc ||| 2 ^ (if x.rep then k else k + 1) else acc) := rfl
/-- A set's number in a list of lists of truths. -/
theorem find_bits {n : Nat} {qs : List Nat} (h : ∀ q ∈ qs, q < 2 ^ n) {t : Nat} (ht : t < 2 ^ n) : (qs.map (bitsL n)).findIdx? (fun q => q == bitsL n t) = idxN qs t := by
  unfold idxN
  rw [List.findIdx?_map]
  induction qs with
  | nil => rfl
  | cons q qs ih =>
    rw [List.findIdx?_cons, List.findIdx?_cons, ih (fun q hq => h q (by simp [hq]))]
    have : ((fun q => q == bitsL n t) ∘ bitsL n) q = (q == t) := by
      rw [Bool.eq_iff_iff]
      simp only [Function.comp, beq_iff_eq]
      exact ⟨fun e => bitsL_inj (h q (by simp)) ht e, fun e => by rw [e]⟩
    rw [this]
def idxO : Option Nat → Int
  | some i => (i : Int)
  | none => -1
theorem accF_min (step : Nat → Nat → Nat) (fin : Nat → Bool) (m : Nat) : ∀ (f i : Nat) (qs : List Nat) (fins : List Bool) (nxt : List (List Nat)),
    accF step fin m f i qs fins nxt = (minE (fun a b => a == b) (fun q => (List.range m).map (step q)) fin f i qs fins nxt).2
  | 0, _, _, _, _ => rfl
  | f + 1, i, qs, fins, nxt => by
    have key : ∀ (cs : List Nat) (q : Nat) (qs : List Nat) (row : List Nat), rowF (step q) cs qs row = rowE (fun a b => a == b) (cs.map (step q)) qs row := by
      intro cs
      induction cs with
      | nil => intros; rfl
      | cons c cs ih =>
        intro q qs row
        cases h : idxN qs (step q c) with
        | some n => rw [rowF_some h, List.map_cons, rowE_some h, ih]
        | none => rw [rowF_none h, List.map_cons, rowE_none h, ih]
    simp only [accF, minE]
    cases qs[i]? with
    | none => rfl
    | some q => simp only [key]; exact accF_min step fin m f (i + 1) _ _ _
end Go.GH
namespace Go.GH
open Go

def nxQ (a : List Letter) (p : List Item) (q : Nat) : List Nat := (List.range a.length).map (stepA a p q)
def finQ (p : List Item) (q : Nat) : Bool := q.testBit p.length
theorem accEqG (a : List Letter) {p : List Item} (hp : p.length < 8) : EqG (fun a b => a == b) (nxQ a p) (finQ p) (· < 256) a.length 256 where
  refl := fun a _ => by simp
  trans := fun a b c _ _ _ h1 h2 => by simp only [beq_iff_eq] at *; omega
  len := fun q _ => by simp [nxQ]
  step := fun q _ t ht => by
    simp only [nxQ, List.mem_map] at ht
    obtain ⟨c, _, rfl⟩ := ht
    exact stepN_lt _ hp
  cong := fun a b c s t _ _ e h1 h2 => by
    simp only [beq_iff_eq] at e
    subst e
    rw [h1] at h2
    simp [Option.some.inj h2]
  fin := fun a b _ _ e => by simp only [beq_iff_eq] at e; rw [e]
  bnd := fun l hp hg => nodup_le 256 l (hp.imp (fun {a b} hab => by simpa using hab)) hg
def quQ (a : List Letter) (p : List Item) : List Nat × List Bool × List (List Nat) := minE (fun a b => a == b) (nxQ a p) (finQ p) 257 0 [closedN p 1] [] []
theorem accQ_eq (a : List Letter) (p : List Item) : accQ a p = (quQ a p).2 := accF_min _ _ _ _ _ _ _ _
theorem accR_eq (a : List Letter) (p : List Item) : accR a p = ⟨0, (quQ a p).2.1, castT (quQ a p).2.2⟩ := by unfold accR castT; rw [accQ_eq]
theorem quQ_ok (a : List Letter) {p : List Item} (hp : p.length < 8) : ∃ ns, (quQ a p).1 = closedN p 1 :: ns ∧ RunOK (fun a b => a == b) (nxQ a p) (finQ p) (· < 256) (closedN p 1 :: ns).length (closedN p 1 :: ns) (quQ a p).2.1 (quQ a p).2.2 := by
  obtain ⟨ns, F, X, e, ho⟩ := (accEqG a hp).start (closedN_lt hp (show 1 < 256 by decide)) (f := 257) (by omega)
  have e' : quQ a p = (closedN p 1 :: ns, F, X) := e
  exact ⟨ns, by rw [e'], by rw [e']; exact ho⟩
theorem accR_ok (a : List Letter) {p : List Item} (hp : p.length < 8) : accOK (accR a p) = true ∧ widthA (accR a p) = a.length := by
  obtain ⟨ns, _, ho⟩ := quQ_ok a hp
  rw [accR_eq]
  exact ho.accOK (accEqG a hp) (by omega)
theorem runG_runN (a : List Letter) (p : List Item) : ∀ (w : List Nat) (q : Nat), (∀ c ∈ w, c < a.length) → runG (nxQ a p) q w = runN (admF a) p q w
  | [], _, _ => rfl
  | c :: w, q, hw => by
    have hc := hw c (by simp)
    show runG (nxQ a p) ((nxQ a p q).getD c q) w = runN (admF a) p (stepN p (fun x => admF a x c) q) w
    rw [show (nxQ a p q).getD c q = stepN p (fun x => admF a x c) q by simp [nxQ, hc, stepA]]
    exact runG_runN a p w _ (fun d hd => hw d (by simp [hd]))
theorem accR_run (a : List Letter) {p : List Item} (hp : p.length < 8) {w : List Nat} (hw : ∀ c ∈ w, c < a.length) : finA (accR a p) (runA (accR a p) (accR a p).start w) = M (admF a) p w := by
  obtain ⟨ns, _, ho⟩ := quQ_ok a hp
  have := ho.accepts (accEqG a hp) hw
  rw [← auto_M, ← runG_runN a p w _ hw, accR_eq]
  exact this
theorem accepts_accR {a : List Letter} {p : List Item} (h : validPat a p = true) (s : ByteArray) : acceptsA a (accR a p) s = matchesP a p s := by
  have hl := validPat_len h
  have hok := accR_ok a (p := p) (by omega)
  have hpr : properB a = true := by simp only [validPat, Bool.and_eq_true] at h; exact h.1.1.1
  rw [acceptsA, matchesP, hok.1, hok.2, h, hpr, decide_eq_true hl.1, decide_eq_true rfl]
  cases hov : overA a s with
  | false => rfl
  | true =>
    simp only [Bool.true_and]
    exact accR_run a (by omega) (idxs_lt hov)
theorem accepts_minA {a : List Letter} {x : Acc} (hx : accOK x = true) (s : ByteArray) : acceptsA a (minA x) s = acceptsA a x s := by
  have hm := minA_ok hx
  rw [acceptsA, acceptsA, hm.1, hm.2, hx]
  by_cases hw : widthA x = a.length
  · cases hov : overA a s with
    | false => simp
    | true =>
      have := minA_run hx (w := idxs a s) (fun c hc => by rw [hw]; exact idxs_lt hov c hc)
      rw [show (minA x).start = 0 from rfl, this]
  · rw [decide_eq_false hw]; simp
def accX (a : List Letter) (p : List Item) : Acc := if validPat a p then accR a p else ⟨0, [], []⟩
def minX (x : Acc) : Acc := if accOK x = true ∧ widthA x ≤ 65 then minA x else ⟨0, [], []⟩
theorem accX_ok {a : List Letter} {p : List Item} (h : validPat a p = true) : accX a p = accR a p := by rw [accX, if_pos h]
theorem minX_ok {x : Acc} (h : accOK x = true) (hw : widthA x ≤ 65) : minX x = minA x := by rw [minX, if_pos ⟨h, hw⟩]
theorem minX_idem (x : Acc) : minX (minX x) = minX x := by
  by_cases h : accOK x = true ∧ widthA x ≤ 65
  · have hm := minA_ok h.1
    rw [minX_ok h.1 h.2, minX_ok hm.1 (by rw [hm.2]; exact h.2), minA_idem h.1]
  · have e : minX x = ⟨0, [], []⟩ := by rw [minX, if_neg h]
    rw [e, minX, if_neg (fun h => by have := h.1; revert this; decide)]
end Go.GH
namespace Go.GH
open Go

def inlB (n : Nat) (ss : List (Nat ⊕ Nat)) : Bool := ss.all (fun x => match x with | .inl j => Nat.blt j n | .inr _ => true)
inductive NeedIs (D s : List (Nat × DV)) : List (Nat ⊕ Nat) → List (Nat × DV) → Prop
  | nil : NeedIs D s [] []
  | inl {j : Nat} {ss : List (Nat ⊕ Nat)} {nd : List (Nat × DV)} (k t : Nat) (d : DV) (hk : k + j + 1 = D.length) (h : D[k]? = some (t, d)) (r : NeedIs D s ss nd) : NeedIs D s (.inl j :: ss) ((t, d) :: nd)
  | inr {t : Nat} {ss : List (Nat ⊕ Nat)} {nd : List (Nat × DV)} (d : DV) (h : getL s t = some d) (k : NeedIs D s ss nd) : NeedIs D s (.inr t :: ss) ((t, d) :: nd)
theorem NeedIs.eq {D s : List (Nat × DV)} : ∀ {ss : List (Nat ⊕ Nat)} {nd : List (Nat × DV)}, NeedIs D s ss nd → needOf D.reverse s ss = nd
  | _, _, .nil => rfl
  | _, _, .inl (j := j) k t d hk h r => by
    have e : D.reverse[j]? = some (t, d) := by rw [List.getElem?_reverse (by omega), show D.length - 1 - j = k by omega, h]
    simp only [needOf, e, r.eq]
  | _, _, .inr d h k => by simp only [needOf, h, k.eq]
inductive DOk (C : Ctx) (ops : Array Oper) (n : Nat) (H : DHeap) (s : List (Nat × DV)) : List (Nat × DV) → List Oper → List (List (Nat ⊕ Nat)) → List (Nat × DV) → Prop
  | nil {D : List (Nat × DV)} : DOk C ops n H s D [] [] []
  | cons {D E nd : List (Nat × DV)} {o : Oper} {os : List Oper} {ss : List (Nat ⊕ Nat)} {sss : List (List (Nat ⊕ Nat))} (t : Nat) (d : DV) (hj : inlB D.length ss = true) (hn : NeedIs D s ss nd)
      (h : ∀ rest, SOps C ops [o] ⟨n, nd ++ rest, H⟩ (fun st' => st' = ⟨n, (t, d) :: (nd ++ rest), H⟩)) (k : DOk C ops n H s ((t, d) :: D) os sss E) :
      DOk C ops n H s D (o :: os) (ss :: sss) ((t, d) :: E)
theorem needOf_more {D E s : List (Nat × DV)} : ∀ {ss : List (Nat ⊕ Nat)}, inlB D.length ss = true → needOf (D ++ E) s ss = needOf D s ss
  | [], _ => rfl
  | .inl j :: r, h => by
    simp only [inlB, List.all_cons, Bool.and_eq_true] at h
    have hj := Nat.le_of_ble_eq_true h.1
    simp only [needOf, List.getElem?_append_left (show j < D.length from hj), needOf_more (E := E) (s := s) (ss := r) h.2]
  | .inr t :: r, h => by
    simp only [inlB, List.all_cons, Bool.and_eq_true] at h
    simp only [needOf, needOf_more (E := E) (s := s) (ss := r) h.2]
theorem DOk.ops {C : Ctx} {ops : Array Oper} {n : Nat} {H : DHeap} {s : List (Nat × DV)} : ∀ {D E : List (Nat × DV)} {os : List Oper} {sss : List (List (Nat ⊕ Nat))}, DOk C ops n H s D os sss E → OpsOk C ops n H os (sss.map (needOf (D.reverse ++ E) s)) E
  | _, _, _, _, .nil => OpsOk.nil
  | D, _, _, _, .cons (E := E) t d hj hn h k => by
    rw [List.map_cons, needOf_more (by rw [List.length_reverse]; exact hj), hn.eq]
    have e : D.reverse ++ (t, d) :: E = ((t, d) :: D).reverse ++ E := by simp
    rw [e]
    exact OpsOk.cons h k.ops
theorem SCode.drawAuto {C : Ctx} {id : Nat} {l : List Oper} {n : Nat} {s : List (Nat × DV)} {H : DHeap} {Q : Exit → St → Prop} {E : List (Nat × DV)} (hm : C.P.follows .mixedOrders = true) (ts : List Nat) (srcs : List (List (Nat ⊕ Nat)))
    (hB : drawB l ts srcs = true) (hd : distB ts = true) (hops : DOk C l.toArray n H s [] l srcs E) (hts : E.map (·.1) = ts) (hQ : Q .normal ⟨n, E ++ s, H⟩) : SCode C (.region id l.toArray true) ⟨n, s, H⟩ Q :=
  SCode.drawPure hm E ts srcs _ hts hB hd rfl hops.ops hQ
end Go.GH
namespace Go.GH
open Go

theorem GCall.clean {P : Program} {E : Env} {f : FuncId} {ds : List DV} {R : DV → DHeap → Prop} {R' : DV → Prop} (h : GCall P E f ds [] R) (hc : ∀ d H, R d H → ∃ d', (∀ (w : World) (F : Nat → Prop) (v : Value), Rep w F v d → Rep w F v d') ∧ R' d') : GCall P E f ds [] (fun d H => R' d ∧ H = []) :=
  ⟨h.1, fun w F vs hE hF hl hr h1 h2 => (h.2 w F vs hE hF hl hr h1 h2).mono (fun e w' ⟨u, d, H', F', e1, e2, e3, e4, e5, e6, e7, e8⟩ => by
    obtain ⟨d', k1, k2⟩ := hc d H' e2
    exact ⟨u, d', [], F', e1, ⟨k2, rfl⟩, e3, e4, k1 _ _ _ e5, (fun p hp => by cases hp), List.nodup_nil, e8⟩)⟩
theorem rep_tup0 {w : World} {F : Nat → Prop} {v : Value} {d d' : DV} {ds : List DV} (hd : ∀ (w : World) (F : Nat → Prop) (v : Value), Rep w F v d → Rep w F v d') (h : Rep w F v (.tup (d :: ds))) : Rep w F v (.tup (d' :: ds)) := by
  cases h with
  | tup hl hr =>
    refine .tup (by simpa using hl) (fun j x e hj he => ?_)
    cases j with
    | zero => simp only [List.getElem?_cons_zero, Option.some.injEq] at he; subst he; exact hd _ _ _ (hr 0 x d hj rfl)
    | succ j => exact hr (j + 1) x e hj (by simpa using he)
end Go.GH
namespace Go.GH
open Go Go.Proofs
variable {E : Env}
theorem fieldVB_28_2_2 : fieldVB Tryd.prog 28 2 2 = true := by kernel_rfl
theorem placesB_56 : placesB Tryd.prog 56 [(0, 1), (1, 1), (2, 1), (3, 1)] = true := by kernel_rfl
theorem placesB_69 : placesB Tryd.prog 69 [(0, 1), (1, 1)] = true := by kernel_rfl
theorem zeroA {w : World} {F : Nat → Prop} {v : Value} (h : Rep w F v (.agg [.v (.int .i64 0), .v (.slice none 0 0), .v (.slice none 0 0)])) : Rep w F v (.agg (encAcc ⟨0, [], []⟩)) := rep_aggNil (sz := 1) 2 (rep_aggNil (sz := 1) 1 h rfl) rfl
theorem aAccT (hV : VS E) (a : List Letter) (p : List Item) (hp : ∀ x ∈ p, x.lets.size ≤ 1048576) : GCall Tryd.prog E 13 [DLs a, DIts p] [] (fun d H => d = .tup [.agg (encAcc (accX a p)), .v (.int .i64 (if validPat a p then 0 else 1))] ∧ H = []) :=
  (aAcceptor hV a p hp).clean (fun d H e => by
    subst e
    unfold accX
    split
    · exact ⟨_, fun _ _ _ h => h, rfl⟩
    · exact ⟨_, fun w F v h => rep_tup0 (fun _ _ _ h => zeroA h) h, rfl⟩)
theorem aMinT (x : Acc) : GCall Tryd.prog E 19 [.agg (encAcc x)] [] (fun d H => d = .agg (encAcc (minX x)) ∧ H = []) :=
  (aMinimal x).clean (fun d H e => by
    subst e
    unfold minX
    split
    · exact ⟨_, fun _ _ _ h => h, rfl⟩
    · exact ⟨_, fun _ _ _ h => zeroA h, rfl⟩)
def aw6A : List Letter := [⟨97, 1⟩, ⟨101, 5⟩, ⟨107, 2⟩, ⟨116, 2⟩]
def aw6P : List Item := [⟨2, ⟨#[]⟩, false, true⟩, ⟨1, ⟨#[]⟩, false, false⟩]
def aw6Q : List Item := [⟨0, ⟨#[97]⟩, false, false⟩]
theorem aw6_1 : matchesP aw6A aw6P ⟨#[107, 116, 107, 101]⟩ = true := by kernel_rfl
theorem aw6_2 : matchesP aw6A aw6P ⟨#[97, 97]⟩ = false := by kernel_rfl
theorem aw6_3 : validPat aw6A aw6P = true := by kernel_rfl
theorem aw6_4 : accX aw6A aw6P = ⟨0, [false, true, false], [[1, 1, 0, 0], [2, 2, 2, 2], [2, 2, 2, 2]]⟩ := by kernel_rfl
theorem aw6_5 : acceptsA aw6A (accX aw6A aw6P) ⟨#[107, 97]⟩ = true := by kernel_rfl
theorem aw6_6 : (minX (accX aw6A aw6P)).nxt.length = 3 := by kernel_rfl
theorem aw6_7 : difR aw6A (aw6P.drop 1) aw6Q = some [1] := by kernel_rfl
theorem letters6   : GCall Tryd.prog E 34 [] [] (fun d H => d = DLs aw6A ∧ H = []) := by
  refine GCall.body (C := ⟨Tryd.prog, E, true⟩) Tryd.func34 rfl (fun _ => rfl) (by kernel_rfl) rfl ?_
  refine SCode.seqR ?_
  refine SOps.assign rfl ?_
  refine SOps.nil ?_
  refine SCode.seqR ?_
  refine SOps.buildM placesB_69 zeroIs_69 rfl rfl ?_
  refine SOps.buildM placesB_69 zeroIs_69 rfl rfl ?_
  refine SOps.buildM placesB_69 zeroIs_69 rfl rfl ?_
  refine SOps.buildM placesB_69 zeroIs_69 rfl rfl ?_
  refine SOps.litF rfl sliceB_22_69_2 zeroIs_69 rfl ?_
  refine SOps.assign rfl ?_
  refine SOps.nil ?_
  refine SCode.ret ?_
  exact ⟨_, Res.one (.tmp rfl), rfl, rfl⟩
theorem awake6 (hV : VS E)  : GCall Tryd.prog E 12 [] [] (fun d H => d = .v (.bool true) ∧ H = []) := by
  refine GCall.body (C := ⟨Tryd.prog, E, true⟩) Tryd.func12 rfl (fun _ => rfl) (by kernel_rfl) rfl ?_
  refine SCode.seqR ?_
  refine SOps.assign rfl ?_
  refine SOps.nil ?_
  refine SCode.seqR ?_
  refine SOps.buildM placesB_56 zeroIs_56 rfl rfl ?_
  refine SOps.buildM placesB_56 zeroIs_56 rfl rfl ?_
  refine SOps.litF rfl sliceB_23_56_4 zeroIs_56 rfl ?_
  refine SOps.assign rfl ?_
  refine SOps.nil ?_
  refine SCode.seqR ?_
  refine SOps.reSlot (t := 1) rfl (show _ = DIts aw6P from rfl) ?_
  refine SOps.callP letters6 rfl ?_
  rintro _ rfl
  refine SOps.move rfl ?_
  refine SOps.callP (aAccT hV aw6A aw6P (by intro x hx; simp only [aw6P, aw6Q, List.mem_cons, List.mem_singleton, List.not_mem_nil, or_false, List.drop_succ_cons, List.drop_zero] at hx; rcases hx with rfl | rfl <;> exact Nat.le_of_ble_eq_true rfl)) rfl ?_
  rintro _ rfl
  refine SOps.move rfl ?_
  refine SOps.extract rfl rfl ?_
  refine SOps.extract rfl rfl ?_
  refine SOps.alloc (sz := 3) zeroIs_28 (fun b0 hb_0 => ?_)
  refine SOps.storeAM 0 rfl rfl aggB_28_3 rfl ?_
  refine SOps.freezeRef (t := 2) 0 0 rfl rfl rfl rfl rfl ?_
  refine SOps.assign rfl ?_
  refine SOps.nil ?_
  refine SCode.seq ?_
  apply SCode.drawAuto mixed_ [16, 17, 18, 19, 20, 21, 15, 22, 23, 4, 5] [[], [.inr 1], [.inl 1], [], [.inl 3], [.inl 0, .inl 2, .inl 4], [.inl 5], [.inl 6], [.inl 6], [.inl 7], [.inl 8]]
  · kernel_rfl
  · kernel_rfl
  · apply DOk.cons 16 
    · rfl
    · exact NeedIs.nil
    · intro rest
      refine SOps.callP letters6 rfl ?_
      rintro _ rfl
      exact SOps.nil rfl
    apply DOk.cons 17 
    · rfl
    · exact (NeedIs.inr _ rfl NeedIs.nil)
    · intro rest
      refine SOps.move rfl ?_
      exact SOps.nil rfl
    apply DOk.cons 18 
    · rfl
    · exact (NeedIs.inl 0 _ _ rfl rfl NeedIs.nil)
    · intro rest
      refine SOps.sliceD (n1 := 0) (1) sliceB_23_56_4 rfl rfl (by first | omega | decide) (by first | omega | decide) ?_
      exact SOps.nil rfl
    apply DOk.cons 19 
    · rfl
    · exact NeedIs.nil
    · intro rest
      refine SOps.buildM placesB_56 zeroIs_56 rfl rfl ?_
      exact SOps.nil rfl
    apply DOk.cons 20 
    · rfl
    · exact (NeedIs.inl 0 _ _ rfl rfl NeedIs.nil)
    · intro rest
      refine SOps.litF rfl sliceB_23_56_4 zeroIs_56 rfl ?_
      exact SOps.nil rfl
    apply DOk.cons 21 (.tup [.v (.string ⟨#[101]⟩), .v (.bool true)])
    · rfl
    · exact (NeedIs.inl 4 _ _ rfl rfl (NeedIs.inl 2 _ _ rfl rfl (NeedIs.inl 0 _ _ rfl rfl NeedIs.nil)))
    · intro rest
      refine SOps.callP (aDifference hV aw6A (aw6P.drop 1) aw6Q (by intro x hx; simp only [aw6P, aw6Q, List.mem_cons, List.not_mem_nil, or_false, List.drop_succ_cons, List.drop_zero] at hx; subst hx; exact Nat.le_of_ble_eq_true rfl) (by intro x hx; simp only [aw6P, aw6Q, List.mem_cons, List.not_mem_nil, or_false, List.drop_succ_cons, List.drop_zero] at hx; subst hx; exact Nat.le_of_ble_eq_true rfl)) rfl ?_
      rintro _ rfl
      exact SOps.nil (by rw [aw6_7]; rfl)
    apply DOk.cons 15 
    · rfl
    · exact (NeedIs.inl 0 _ _ rfl rfl NeedIs.nil)
    · intro rest
      refine SOps.move rfl ?_
      exact SOps.nil rfl
    apply DOk.cons 22 
    · rfl
    · exact (NeedIs.inl 0 _ _ rfl rfl NeedIs.nil)
    · intro rest
      refine SOps.extract rfl rfl ?_
      exact SOps.nil rfl
    apply DOk.cons 23 
    · rfl
    · exact (NeedIs.inl 1 _ _ rfl rfl NeedIs.nil)
    · intro rest
      refine SOps.extract rfl rfl ?_
      exact SOps.nil rfl
    apply DOk.cons 4 
    · rfl
    · exact (NeedIs.inl 1 _ _ rfl rfl NeedIs.nil)
    · intro rest
      refine SOps.assign rfl ?_
      exact SOps.nil rfl
    apply DOk.cons 5 
    · rfl
    · exact (NeedIs.inl 1 _ _ rfl rfl NeedIs.nil)
    · intro rest
      refine SOps.assign rfl ?_
      exact SOps.nil rfl
    exact DOk.nil
  · rfl
  · show SCode _ _ _ _
    refine SCode.seq ?_
    apply SCode.drawAuto mixed_ [24, 25, 26, 27, 28, 29, 30, 31, 32, 33, 34, 35, 36, 37, 38, 39, 40, 41, 42, 43, 44, 45, 46, 47, 48, 49, 50, 51, 52, 53, 54, 55, 56, 57, 58, 59, 60, 61, 0] [[], [.inr 1], [.inl 0, .inl 1], [.inl 2], [.inl 3], [.inl 3, .inr 1], [.inl 3, .inl 4, .inl 5], [.inl 3, .inl 6], [.inl 3, .inl 7], [.inl 8], [.inl 9, .inr 3], [.inl 9, .inl 10], [.inl 9, .inl 11], [.inl 12], [.inl 13, .inr 2], [.inl 13, .inl 14], [.inl 13, .inl 15], [.inl 13, .inl 16], [.inl 13, .inl 17], [.inl 18], [.inl 19], [.inl 19, .inr 2], [.inl 19, .inl 20, .inl 21], [.inl 19, .inl 22], [.inl 23], [.inl 24, .inr 2], [.inl 24, .inl 25], [.inl 24, .inl 26], [.inl 24, .inl 27], [.inl 24, .inl 28], [.inl 24, .inl 29], [.inl 30], [.inl 31, .inr 4], [.inl 31, .inl 32], [.inl 31, .inl 33], [.inl 34], [.inl 35, .inr 5], [.inl 35, .inl 36], [.inl 37]]
    · kernel_rfl
    · kernel_rfl
    · apply DOk.cons 24 
      · rfl
      · exact NeedIs.nil
      · intro rest
        refine SOps.callP letters6 rfl ?_
        rintro _ rfl
        exact SOps.nil rfl
      apply DOk.cons 25 
      · rfl
      · exact (NeedIs.inr _ rfl NeedIs.nil)
      · intro rest
        refine SOps.move rfl ?_
        exact SOps.nil rfl
      apply DOk.cons 26 (.v (.bool true))
      · rfl
      · exact (NeedIs.inl 1 _ _ rfl rfl (NeedIs.inl 0 _ _ rfl rfl NeedIs.nil))
      · intro rest
        refine SOps.callP (pMatches hV aw6A aw6P ⟨#[107, 116, 107, 101]⟩ (by intro x hx; simp only [aw6P, aw6Q, List.mem_cons, List.mem_singleton, List.not_mem_nil, or_false, List.drop_succ_cons, List.drop_zero] at hx; rcases hx with rfl | rfl <;> exact Nat.le_of_ble_eq_true rfl) (by decide)) rfl ?_
        rintro _ rfl
        exact SOps.nil (congrArg (fun b => St.put _ 26 (.v (.bool b))) (aw6_1))
      apply DOk.cons 27 
      · rfl
      · exact (NeedIs.inl 0 _ _ rfl rfl NeedIs.nil)
      · intro rest
        refine SOps.move rfl ?_
        exact SOps.nil rfl
      apply DOk.cons 28 
      · rfl
      · exact (NeedIs.inl 0 _ _ rfl rfl NeedIs.nil)
      · intro rest
        refine SOps.callP letters6 rfl ?_
        rintro _ rfl
        exact SOps.nil rfl
      apply DOk.cons 29 
      · rfl
      · exact (NeedIs.inl 1 _ _ rfl rfl (NeedIs.inr _ rfl NeedIs.nil))
      · intro rest
        refine SOps.move rfl ?_
        exact SOps.nil rfl
      apply DOk.cons 30 (.v (.bool false))
      · rfl
      · exact (NeedIs.inl 2 _ _ rfl rfl (NeedIs.inl 1 _ _ rfl rfl (NeedIs.inl 0 _ _ rfl rfl NeedIs.nil)))
      · intro rest
        refine SOps.callP (pMatches hV aw6A aw6P ⟨#[97, 97]⟩ (by intro x hx; simp only [aw6P, aw6Q, List.mem_cons, List.mem_singleton, List.not_mem_nil, or_false, List.drop_succ_cons, List.drop_zero] at hx; rcases hx with rfl | rfl <;> exact Nat.le_of_ble_eq_true rfl) (by decide)) rfl ?_
        rintro _ rfl
        exact SOps.nil (congrArg (fun b => St.put _ 30 (.v (.bool b))) (aw6_2))
      apply DOk.cons 31 
      · rfl
      · exact (NeedIs.inl 3 _ _ rfl rfl (NeedIs.inl 0 _ _ rfl rfl NeedIs.nil))
      · intro rest
        refine SOps.un rfl rfl ?_
        exact SOps.nil rfl
      apply DOk.cons 32 
      · rfl
      · exact (NeedIs.inl 4 _ _ rfl rfl (NeedIs.inl 0 _ _ rfl rfl NeedIs.nil))
      · intro rest
        refine SOps.pick rfl rfl ?_
        exact SOps.nil rfl
      apply DOk.cons 33 
      · rfl
      · exact (NeedIs.inl 0 _ _ rfl rfl NeedIs.nil)
      · intro rest
        refine SOps.move rfl ?_
        exact SOps.nil rfl
      apply DOk.cons 34 
      · rfl
      · exact (NeedIs.inl 0 _ _ rfl rfl (NeedIs.inr _ rfl NeedIs.nil))
      · intro rest
        refine SOps.move rfl ?_
        exact SOps.nil rfl
      apply DOk.cons 35 (.v (.bool true))
      · rfl
      · exact (NeedIs.inl 1 _ _ rfl rfl (NeedIs.inl 0 _ _ rfl rfl NeedIs.nil))
      · intro rest
        refine SOps.bin rfl rfl rfl ?_
        exact SOps.nil (congrArg (fun b => St.put _ 35 (.v (.bool b))) (by rw [if_pos aw6_3]; rfl))
      apply DOk.cons 36 
      · rfl
      · exact (NeedIs.inl 2 _ _ rfl rfl (NeedIs.inl 0 _ _ rfl rfl NeedIs.nil))
      · intro rest
        refine SOps.pick rfl rfl ?_
        exact SOps.nil rfl
      apply DOk.cons 37 
      · rfl
      · exact (NeedIs.inl 0 _ _ rfl rfl NeedIs.nil)
      · intro rest
        refine SOps.move rfl ?_
        exact SOps.nil rfl
      apply DOk.cons 38 
      · rfl
      · exact (NeedIs.inl 0 _ _ rfl rfl (NeedIs.inr _ rfl NeedIs.nil))
      · intro rest
        refine SOps.fieldPin rfl fieldB_28_2_2 ?_
        exact SOps.nil rfl
      apply DOk.cons 39 
      · rfl
      · exact (NeedIs.inl 1 _ _ rfl rfl (NeedIs.inl 0 _ _ rfl rfl NeedIs.nil))
      · intro rest
        refine SOps.loadPin rfl flatB_26 ?_
        exact SOps.nil rfl
      apply DOk.cons 40 
      · rfl
      · exact (NeedIs.inl 2 _ _ rfl rfl (NeedIs.inl 0 _ _ rfl rfl NeedIs.nil))
      · intro rest
        refine SOps.lenM rfl sliceB_26_39_1 ?_
        exact SOps.nil rfl
      apply DOk.cons 41 (.v (.bool true))
      · rfl
      · exact (NeedIs.inl 3 _ _ rfl rfl (NeedIs.inl 0 _ _ rfl rfl NeedIs.nil))
      · intro rest
        refine SOps.bin rfl rfl rfl ?_
        exact SOps.nil (congrArg (fun b => St.put _ 41 (.v (.bool b))) (by rw [aw6_4]; rfl))
      apply DOk.cons 42 
      · rfl
      · exact (NeedIs.inl 4 _ _ rfl rfl (NeedIs.inl 0 _ _ rfl rfl NeedIs.nil))
      · intro rest
        refine SOps.pick rfl rfl ?_
        exact SOps.nil rfl
      apply DOk.cons 43 
      · rfl
      · exact (NeedIs.inl 0 _ _ rfl rfl NeedIs.nil)
      · intro rest
        refine SOps.move rfl ?_
        exact SOps.nil rfl
      apply DOk.cons 44 
      · rfl
      · exact (NeedIs.inl 0 _ _ rfl rfl NeedIs.nil)
      · intro rest
        refine SOps.callP letters6 rfl ?_
        rintro _ rfl
        exact SOps.nil rfl
      apply DOk.cons 45 
      · rfl
      · exact (NeedIs.inl 1 _ _ rfl rfl (NeedIs.inr _ rfl NeedIs.nil))
      · intro rest
        refine SOps.loadPinA rfl aggB_28_3 (Nat.le_of_ble_eq_true rfl) ?_
        exact SOps.nil rfl
      apply DOk.cons 46 (.v (.bool true))
      · rfl
      · exact (NeedIs.inl 2 _ _ rfl rfl (NeedIs.inl 1 _ _ rfl rfl (NeedIs.inl 0 _ _ rfl rfl NeedIs.nil)))
      · intro rest
        refine SOps.callP (aAccepts hV aw6A (accX aw6A aw6P) ⟨#[107, 97]⟩ (by decide)) rfl ?_
        rintro _ rfl
        exact SOps.nil (congrArg (fun b => St.put _ 46 (.v (.bool b))) (aw6_5))
      apply DOk.cons 47 
      · rfl
      · exact (NeedIs.inl 3 _ _ rfl rfl (NeedIs.inl 0 _ _ rfl rfl NeedIs.nil))
      · intro rest
        refine SOps.pick rfl rfl ?_
        exact SOps.nil rfl
      apply DOk.cons 48 
      · rfl
      · exact (NeedIs.inl 0 _ _ rfl rfl NeedIs.nil)
      · intro rest
        refine SOps.move rfl ?_
        exact SOps.nil rfl
      apply DOk.cons 49 
      · rfl
      · exact (NeedIs.inl 0 _ _ rfl rfl (NeedIs.inr _ rfl NeedIs.nil))
      · intro rest
        refine SOps.loadPinA rfl aggB_28_3 (Nat.le_of_ble_eq_true rfl) ?_
        exact SOps.nil rfl
      apply DOk.cons 50 
      · rfl
      · exact (NeedIs.inl 1 _ _ rfl rfl (NeedIs.inl 0 _ _ rfl rfl NeedIs.nil))
      · intro rest
        refine SOps.callP (aMinT (accX aw6A aw6P)) rfl ?_
        rintro _ rfl
        exact SOps.nil rfl
      apply DOk.cons 51 
      · rfl
      · exact (NeedIs.inl 2 _ _ rfl rfl (NeedIs.inl 0 _ _ rfl rfl NeedIs.nil))
      · intro rest
        refine SOps.field rfl fieldVB_28_2_2 rfl ?_
        exact SOps.nil rfl
      apply DOk.cons 52 
      · rfl
      · exact (NeedIs.inl 3 _ _ rfl rfl (NeedIs.inl 0 _ _ rfl rfl NeedIs.nil))
      · intro rest
        refine SOps.lenM rfl sliceB_26_39_1 ?_
        exact SOps.nil rfl
      apply DOk.cons 53 (.v (.bool true))
      · rfl
      · exact (NeedIs.inl 4 _ _ rfl rfl (NeedIs.inl 0 _ _ rfl rfl NeedIs.nil))
      · intro rest
        refine SOps.bin rfl rfl rfl ?_
        exact SOps.nil (congrArg (fun b => St.put _ 53 (.v (.bool b))) (by rw [aw6_6]; rfl))
      apply DOk.cons 54 
      · rfl
      · exact (NeedIs.inl 5 _ _ rfl rfl (NeedIs.inl 0 _ _ rfl rfl NeedIs.nil))
      · intro rest
        refine SOps.pick rfl rfl ?_
        exact SOps.nil rfl
      apply DOk.cons 55 
      · rfl
      · exact (NeedIs.inl 0 _ _ rfl rfl NeedIs.nil)
      · intro rest
        refine SOps.move rfl ?_
        exact SOps.nil rfl
      apply DOk.cons 56 
      · rfl
      · exact (NeedIs.inl 0 _ _ rfl rfl (NeedIs.inr _ rfl NeedIs.nil))
      · intro rest
        refine SOps.move rfl ?_
        exact SOps.nil rfl
      apply DOk.cons 57 (.v (.bool true))
      · rfl
      · exact (NeedIs.inl 1 _ _ rfl rfl (NeedIs.inl 0 _ _ rfl rfl NeedIs.nil))
      · intro rest
        refine SOps.bin rfl rfl rfl ?_
        exact SOps.nil (congrArg (fun b => St.put _ 57 (.v (.bool b))) (rfl))
      apply DOk.cons 58 
      · rfl
      · exact (NeedIs.inl 2 _ _ rfl rfl (NeedIs.inl 0 _ _ rfl rfl NeedIs.nil))
      · intro rest
        refine SOps.pick rfl rfl ?_
        exact SOps.nil rfl
      apply DOk.cons 59 
      · rfl
      · exact (NeedIs.inl 0 _ _ rfl rfl NeedIs.nil)
      · intro rest
        refine SOps.move rfl ?_
        exact SOps.nil rfl
      apply DOk.cons 60 (.v (.bool true))
      · rfl
      · exact (NeedIs.inl 0 _ _ rfl rfl (NeedIs.inr _ rfl NeedIs.nil))
      · intro rest
        refine SOps.move rfl ?_
        exact SOps.nil (congrArg (fun b => St.put _ 60 (.v (.bool b))) (rfl))
      apply DOk.cons 61 
      · rfl
      · exact (NeedIs.inl 1 _ _ rfl rfl (NeedIs.inl 0 _ _ rfl rfl NeedIs.nil))
      · intro rest
        refine SOps.pick rfl rfl ?_
        exact SOps.nil rfl
      apply DOk.cons 0 
      · rfl
      · exact (NeedIs.inl 0 _ _ rfl rfl NeedIs.nil)
      · intro rest
        refine SOps.assign rfl ?_
        exact SOps.nil rfl
      exact DOk.nil
    · rfl
    · show SCode _ _ _ _
      refine SCode.ret ?_
      exact ⟨_, Res.one (.tmp rfl), rfl, rfl⟩
def AW6 (E : Env) : Prop := GCall Tryd.prog E 12 [] [] (fun d H => d = .v (.bool true) ∧ H = [])
theorem small6 (a : List Letter) (s : ByteArray)  : GCall Tryd.prog E 17 [DLs a, .v (.string s)] [] (fun d H => d = .v (.bool (decide (a.length ≤ 6 ∧ s.size ≤ 24))) ∧ H = []) := by
  refine GCall.body (C := ⟨Tryd.prog, E, true⟩) Tryd.func17 rfl (fun _ => rfl) (by kernel_rfl) rfl ?_
  refine SCode.seqR ?_
  refine SOps.assign rfl ?_
  refine SOps.nil ?_
  refine SCode.seqR ?_
  refine SOps.move rfl ?_
  refine SOps.lenM rfl sliceB_22_69_2 ?_
  refine SOps.bin rfl rfl rfl ?_
  refine SOps.move rfl ?_
  refine SOps.caseB 8 rfl (fun hb1 => ?_) (fun hb1 => ?_)
  · try simp only [decide_eq_true_eq, decide_eq_false_iff_not, Bool.not_eq_true', Bool.not_eq_false', beq_iff_eq, bne_iff_ne, ne_eq, beq_eq_false_iff_ne, bne_eq_false_iff_eq, Int.not_lt, Int.not_le, Nat.not_lt, Nat.not_le, Int.ofNat_lt, Int.ofNat_le, Bool.not_eq_eq_eq_not, Bool.not_true, Bool.not_false] at hb1
    refine SOps.move rfl ?_
    refine SOps.lenStr rfl strB_9 ?_
    refine SOps.bin rfl rfl rfl ?_
    refine SOps.pick rfl rfl ?_
    refine SOps.assign rfl ?_
    refine SOps.nil ?_
    refine SCode.ret ?_
    exact ⟨_, Res.one (.tmp rfl), congrArg (fun b => DV.v (.bool b)) (by rw [Bool.eq_iff_iff]; simp only [decide_eq_true_eq, Bool.false_eq_true, false_iff, true_iff]; first | omega | (simp only [decide_eq_true_eq, decide_eq_false_iff_not]; omega)), rfl⟩
  · try simp only [decide_eq_true_eq, decide_eq_false_iff_not, Bool.not_eq_true', Bool.not_eq_false', beq_iff_eq, bne_iff_ne, ne_eq, beq_eq_false_iff_ne, bne_eq_false_iff_eq, Int.not_lt, Int.not_le, Nat.not_lt, Nat.not_le, Int.ofNat_lt, Int.ofNat_le, Bool.not_eq_eq_eq_not, Bool.not_true, Bool.not_false] at hb1
    refine SOps.skip rfl ?_
    refine SOps.skip rfl ?_
    refine SOps.skip rfl ?_
    refine SOps.pick rfl rfl ?_
    refine SOps.assign rfl ?_
    refine SOps.nil ?_
    refine SCode.ret ?_
    exact ⟨_, Res.one (.tmp rfl), congrArg (fun b => DV.v (.bool b)) (by rw [Bool.eq_iff_iff]; simp only [decide_eq_true_eq, Bool.false_eq_true, false_iff, true_iff]; first | omega | (simp only [decide_eq_true_eq, decide_eq_false_iff_not]; omega)), rfl⟩
end Go.GH
namespace Go.GH
open Go Go.Lib Go.Proofs Go.Proofs.YtkajkpdilinmgaaDoor
theorem u8Extra : U8Extra Tryd.prog Tryd.laysValid_ren :=
  ⟨by kernel_rfl, by kernel_rfl, by kernel_rfl, by kernel_rfl, by kernel_rfl, by kernel_rfl, by kernel_rfl⟩
theorem laid_E0 (W : World) (h : laidMetH Tryd.prog Rows.patternAgreesRow.laid W) : E0.holds W (AllF W) := by
  have h' : laidMet Tryd.prog [("unicode/utf8.acceptRanges", Rows.laid_unicode_utf8_acceptRanges), ("unicode/utf8.first", Rows.laid_unicode_utf8_first)] W := h
  have e1 : Rows.laid_unicode_utf8_first = firstData := by kernel_rfl
  have e2 : (Rows.laid_unicode_utf8_acceptRanges : DataW Unit) = acceptData := by kernel_rfl
  rw [e1, e2] at h'
  exact tabE_all (utf8Tabs_of_readsT (U8Types.of196 Tryd.laysValid) u8Extra (laidMet.reads h' (.tail _ (.head _))) (laidMet.reads h' (.head _)))
theorem vsE0 : VS E0 := vs_ok
theorem awE0 : AW6 E0 := awake6 vsE0
end Go.GH
namespace Go.GH
open Go

theorem map_of {α β : Type} {f : α → β} : ∀ {es : List β}, (∀ e ∈ es, ∃ x, e = f x) → ∃ xs : List α, es = xs.map f
  | [], _ => ⟨[], rfl⟩
  | e :: es, h => by
    obtain ⟨x, rfl⟩ := h e (List.mem_cons_self ..)
    obtain ⟨xs, rfl⟩ := map_of (fun e he => h e (List.mem_cons_of_mem _ he))
    exact ⟨x :: xs, rfl⟩
def ElemIs (L : List DTy) (e : List DV) : Prop := e.length = L.length ∧ ∀ (j : Nat) d ty, e[j]? = some d → L[j]? = some ty → HasD ty d
theorem HasD.slice {α : Type} {L : List DTy} {f : α → List DV} {d : DV} (h : HasD (.sl L) d) (hf : ∀ e, ElemIs L e → ∃ x, e = f x) : ∃ xs : List α, d = .isl false L.length (xs.map f) := by
  cases h with
  | @sl L es hl hd =>
    obtain ⟨xs, rfl⟩ := map_of (f := f) (es := es) (fun e he => by
      obtain ⟨i, hi⟩ := List.mem_iff_getElem?.1 he
      exact hf e ⟨hl i e hi, fun j d ty hj ht => hd i e j d ty hi hj ht⟩)
    exact ⟨xs, rfl⟩
theorem ElemIs.one {ty : DTy} {e : List DV} (h : ElemIs [ty] e) : ∃ d, e = [d] ∧ HasD ty d := by
  obtain ⟨h1, h2⟩ := h
  match e, h1 with
  | [d], _ => exact ⟨d, rfl, h2 0 d ty rfl rfl⟩
theorem ElemIs.two {t1 t2 : DTy} {e : List DV} (h : ElemIs [t1, t2] e) : ∃ d1 d2, e = [d1, d2] ∧ HasD t1 d1 ∧ HasD t2 d2 := by
  obtain ⟨h1, h2⟩ := h
  match e, h1 with
  | [d1, d2], _ => exact ⟨d1, d2, rfl, h2 0 d1 t1 rfl rfl, h2 1 d2 t2 rfl rfl⟩
theorem ElemIs.three {t1 t2 t3 : DTy} {e : List DV} (h : ElemIs [t1, t2, t3] e) : ∃ d1 d2 d3, e = [d1, d2, d3] ∧ HasD t1 d1 ∧ HasD t2 d2 ∧ HasD t3 d3 := by
  obtain ⟨h1, h2⟩ := h
  match e, h1 with
  | [d1, d2, d3], _ => exact ⟨d1, d2, d3, rfl, h2 0 d1 t1 rfl rfl, h2 1 d2 t2 rfl rfl, h2 2 d3 t3 rfl rfl⟩
theorem HasD.int_inv {k : IntKind} {d : DV} (h : HasD (.int k) d) : ∃ n, d = .v (.int k n) ∧ k.has n := by cases h with | int h => exact ⟨_, rfl, h⟩
theorem HasD.str_inv {d : DV} (h : HasD .str d) : ∃ s, d = .v (.string s) := by cases h; exact ⟨_, rfl⟩
theorem HasD.bool_inv {d : DV} (h : HasD .bool d) : ∃ b, d = .v (.bool b) := by cases h; exact ⟨_, rfl⟩
theorem HasD.letters {d : DV} (h : HasD (.sl [.int .i32, .int .u32]) d) : ∃ a, d = DLs a :=
  h.slice (f := encL) (fun e he => by
    obtain ⟨d1, d2, rfl, h1, h2⟩ := he.two
    obtain ⟨r, rfl, _⟩ := h1.int_inv
    obtain ⟨c, rfl, _⟩ := h2.int_inv
    exact ⟨⟨r, c⟩, rfl⟩)
theorem HasD.ints {d : DV} (h : HasD (.sl [.int .i64]) d) : ∃ l, d = DInts l :=
  h.slice (f := encI) (fun e he => by
    obtain ⟨d1, rfl, h1⟩ := he.one
    obtain ⟨r, rfl, _⟩ := h1.int_inv
    exact ⟨r, rfl⟩)
theorem HasD.masks {d : DV} (h : HasD (.sl [.int .u32]) d) : ∃ l, d = DMasks l :=
  h.slice (f := encU) (fun e he => by
    obtain ⟨d1, rfl, h1⟩ := he.one
    obtain ⟨r, rfl, _⟩ := h1.int_inv
    exact ⟨r, rfl⟩)
theorem HasD.strs {d : DV} (h : HasD (.sl [.str]) d) : ∃ l, d = DStrs l :=
  h.slice (f := encS) (fun e he => by
    obtain ⟨d1, rfl, h1⟩ := he.one
    obtain ⟨r, rfl⟩ := h1.str_inv
    exact ⟨r, rfl⟩)

theorem cells_of_flat {P : Program} {w : World} {r : Reach} {base : Nat} {t : TypeId} {v : Value} (hf : flatB P t = true) (h : Value.okWide P w r base t v) (hne : ∀ k e, P.underlying t ≠ some (.map k e)) : v.cells = #[v] ∨ ∃ cs, v = .agg cs := by
  cases v <;> first | exact .inl rfl | exact .inr ⟨_, rfl⟩
/-- An argument of one cell. -/
theorem arg_rep {H : Type} {enc : TypeId × Value → H} {P : Program} {w : World} {sp : Nat → Bool} {held : Bool} {t : TypeId} {ty : DTy} {v : Value} {d : DataW H} {p : List MemPlace} (hT : TyIs P t [ty]) (h : DataW.Trod enc P w 0 sp held t v d p) (hv : v.cells = #[v]) : ∃ dv, Rep w (AllF w) v dv ∧ HasD ty dv := by
  obtain ⟨fuel, h⟩ := h
  rw [hv] at h
  obtain ⟨ds, h1, h2, h3⟩ := (pw_trod hT fuel _ _ h).cells
  match ds, h2 with
  | [dv], _ => exact ⟨dv, (h3 0 v dv ty rfl rfl rfl).1, (h3 0 v dv ty rfl rfl rfl).2.1⟩
/-- An argument of several cells. -/
theorem arg_repA {H : Type} {enc : TypeId × Value → H} {P : Program} {w : World} {sp : Nat → Bool} {held : Bool} {t : TypeId} {L : List DTy} {us : Array Value} {d : DataW H} {p : List MemPlace} (hT : TyIs P t L) (h : DataW.Trod enc P w 0 sp held t (.agg us) d p) : ∃ ds, Rep w (AllF w) (.agg us) (.agg ds) ∧ ElemIs L ds := by
  obtain ⟨fuel, h⟩ := h
  obtain ⟨ds, h1, h2, h3⟩ := (pw_trod hT fuel _ _ h).cells
  have hus : us.size = ds.length := by rw [h2, ← h1]; rfl
  refine ⟨ds, .agg hus (fun j x dd hx hd => ?_), h2, fun j dd ty hd ht => ?_⟩
  · have hlt : j < L.length := by rw [← h2]; exact (List.getElem?_eq_some_iff.1 hd).1
    exact (h3 j x dd _ (by show us.toList[j]? = some x; simpa using hx) hd (List.getElem?_eq_getElem hlt)).1
  · have hlt : j < us.size := by rw [hus]; exact (List.getElem?_eq_some_iff.1 hd).1
    exact (h3 j us[j] dd ty (by show us.toList[j]? = some us[j]; simp [hlt]) hd ht).2.1
end Go.GH
namespace Go.GH
open Go Go.RowKit Go.Proofs.YtkajkpdilinmgaaDoor

inductive SmallD (N : Nat) : DV → Prop
  | v {x : Value} (h : ∀ s, x = .string s → s.size ≤ N) : SmallD N (.v x)
  | isl {nn : Bool} {sz : Nat} {es : List (List DV)} (hl : es.length ≤ N) (h : ∀ (i : Nat) e (j : Nat) d, es[i]? = some e → e[j]? = some d → SmallD N d) : SmallD N (.isl nn sz es)
theorem bulk_one {H : Type} (d : DataW H) : 1 ≤ Rows.uptoBulk d := by
  cases d with
  | lit l => cases l <;> simp [Rows.uptoBulk]
  | _ => simp [Rows.uptoBulk]
theorem bulk_part {H : Type} {d : DataW H} : ∀ {l : List (DataW H)}, d ∈ l → Rows.uptoBulk d ≤ Rows.uptoBulkAll l
  | [], h => by cases h
  | x :: l, h => by
    rw [Rows.uptoBulkAll]
    rcases List.mem_cons.1 h with rfl | h
    · omega
    · have := bulk_part h; omega
theorem bulk_len {H : Type} : ∀ (l : List (DataW H)), l.length ≤ Rows.uptoBulkAll l
  | [] => Nat.zero_le _
  | x :: l => by
    rw [Rows.uptoBulkAll, List.length_cons]
    have := bulk_len l
    have := bulk_one x
    omega
theorem bulk_elems {H : Type} (a b : List (DataW H)) : Rows.uptoBulkAll a ≤ Rows.uptoBulk (.slice a b) := by
  rw [Rows.uptoBulk]; omega
theorem bulk_agg {H : Type} (a : List (DataW H)) : Rows.uptoBulkAll a ≤ Rows.uptoBulk (.agg a) := by
  rw [Rows.uptoBulk]; omega
theorem bulk_str {H : Type} (s : ByteArray) : Rows.uptoBulk (DataW.lit (H := H) (.string s.data.toList)) = s.size + 1 := by
  rw [Rows.uptoBulk]; simp
def CellsS (N : Nat) (w : World) (cs : List Value) (L : List DTy) (ds : List DV) : Prop :=
  cs.length = L.length ∧ ds.length = L.length ∧ ∀ (j : Nat) v d ty, cs[j]? = some v → ds[j]? = some d → L[j]? = some ty → Rep w (AllF w) v d ∧ HasD ty d ∧ v.oneCell' = true ∧ SmallD N d
def PWS (N : Nat) (w : World) (cs : List Value) (L : List DTy) : Prop :=
  cs.length = L.length ∧ ∀ (j : Nat) v ty, cs[j]? = some v → L[j]? = some ty → ∃ d, Rep w (AllF w) v d ∧ HasD ty d ∧ v.oneCell' = true ∧ SmallD N d
theorem PWS.cells {N : Nat} {w : World} {cs : List Value} {L : List DTy} (h : PWS N w cs L) : ∃ ds, CellsS N w cs L ds := by
  have key : ∀ j, ∃ d, ∀ v ty, cs[j]? = some v → L[j]? = some ty → Rep w (AllF w) v d ∧ HasD ty d ∧ v.oneCell' = true ∧ SmallD N d := fun j => by
    by_cases hj : j < L.length
    · obtain ⟨d, hd⟩ := h.2 j _ _ (List.getElem?_eq_getElem (show j < cs.length by rw [h.1]; exact hj)) (List.getElem?_eq_getElem hj)
      refine ⟨d, fun v ty hv ht => ?_⟩
      rw [List.getElem?_eq_getElem (show j < cs.length by rw [h.1]; exact hj)] at hv
      rw [List.getElem?_eq_getElem hj] at ht
      obtain rfl := Option.some.inj hv
      obtain rfl := Option.some.inj ht
      exact hd
    · exact ⟨.any, fun v ty _ ht => absurd (List.getElem?_eq_some_iff.1 ht).1 hj⟩
  refine ⟨(List.range L.length).map (fun j => (key j).choose), h.1, by simp, fun j v d ty hv hd ht => ?_⟩
  rw [List.getElem?_map] at hd
  obtain ⟨q, hq, rfl⟩ := Option.map_eq_some_iff.1 hd
  have hlt : j < L.length := (List.getElem?_eq_some_iff.1 ht).1
  rw [List.getElem?_range hlt] at hq
  obtain rfl := Option.some.inj hq
  exact (key j).choose_spec v ty hv ht
theorem PWS.one {N : Nat} {w : World} {v : Value} {ty : DTy} {d : DV} (h1 : Rep w (AllF w) v d) (h2 : HasD ty d) (h3 : v.oneCell' = true) (h4 : SmallD N d) : PWS N w [v] [ty] :=
  ⟨rfl, fun j u t hv ht => by
    match j, hv, ht with
    | 0, hv, ht => simp at hv ht; subst hv; subst ht; exact ⟨d, h1, h2, h3, h4⟩
    | j + 1, hv, ht => simp at hv⟩
theorem pws_trod {N : Nat} {H : Type} {enc : TypeId × Value → H} {P : Program} {w : World} {sp : Nat → Bool} {held : Bool} {t : TypeId} {L : List DTy} (h : TyIs P t L) :
    ∀ (fuel : Nat) (cs : List Value) (x : DataW H × List MemPlace), DataW.trod enc P w 0 sp held fuel t cs = some x → Rows.uptoBulk x.1 ≤ N → PWS N w cs L := by
  induction h with
  | @int t k h =>
    intro fuel cs x hx hb0
    obtain ⟨n, rfl, hxe, hwf⟩ := DataW.trod_int h hx
    exact .one (d := .v (.int k n)) (.v (show k.has n from lit_int_wf hwf)) (.int (lit_int_wf hwf)) rfl (.v (fun s e => by cases e))
  | @str t h =>
    intro fuel cs x hx hb0
    obtain ⟨s, rfl, hxe, hs⟩ := DataW.trod_string h hx
    have hs : s.size ≤ lenB := by
      have e : maxLen = lenB := by decide
      omega
    exact .one (d := .v (.string s)) (.v hs) (.str hs) rfl (.v (fun s' e => by cases e; rw [hxe, bulk_str] at hb0; omega))
  | @bool t h =>
    intro fuel cs x hx hb0
    obtain ⟨b, rfl, _⟩ := DataW.trod_bool h hx
    exact .one (d := .v (.bool b)) (.v trivial) .bool rfl (.v (fun s e => by cases e))
  | @sl t e L h he hc hne ih =>
    intro fuel cs x hx hb0
    rcases DataW.trod_slice h hx with ⟨rfl, _⟩ | ⟨a, len, cap, elems, rest, n, rfl, rfl, hxe, hb, hl, hm, hlen, hel, _, _⟩
    · exact .one (d := .isl false L.length []) (.isl (b := 0) (o := 0) (fun _ _ => undef) rfl (by omega) (by simp [lenB]) (fun h => by cases h) (fun h => absurd rfl h) (fun i e h => by simp at h) (fun i e j d h => by simp at h) (fun i e j d h => by simp at h))
        (.sl (fun i e h => by simp at h) (fun i e j d ty h => by simp at h)) rfl (.isl (by simp) (fun i e j d h => by simp at h))
    · have key : ∀ i, ∃ p : List Value × List DV, i < len → w.cells? 0 (a.add (i * L.length)) L.length = some p.1 ∧ CellsS N w p.1 L p.2 := fun i => by
        by_cases hi : i < len
        · have h1 := hel i hi
          rw [List.getElem?_eq_getElem (by omega)] at h1
          obtain ⟨cs', h2, h3⟩ := Option.bind_eq_some_iff.1 h1
          have hbe : Rows.uptoBulk (elems[i]'(by omega)).1 ≤ N := by
            rw [hxe] at hb0
            exact Nat.le_trans (bulk_part (List.mem_map.2 ⟨_, List.getElem_mem _, rfl⟩)) (Nat.le_trans (bulk_elems _ _) hb0)
          obtain ⟨ds, hds⟩ := (ih n cs' _ h3 hbe).cells
          exact ⟨(cs', ds), fun _ => ⟨by rw [← hc]; exact h2, hds⟩⟩
        · exact ⟨([], []), fun h => absurd h hi⟩
      have hpos : 0 < L.length := List.length_pos_iff.2 hne
      have hspot : 0 < len → a.spot = none ∧ a.block < w.heap.size := fun h0 => by
        obtain ⟨h1, h2, _⟩ := (key 0).choose_spec h0
        obtain ⟨_, _, h4⟩ := World.cells?_some h1
        have h5 := h4 0 hpos
        rw [List.getElem?_eq_getElem (by omega)] at h5
        simp only [Nat.zero_mul] at h5
        have h6 := cell?_lt h5
        simp [Addr.add] at h6
        exact ⟨h6.2, h6.1⟩
      have hadd : 0 < len → ∀ q, a.add q = ⟨a.block, a.off + q, none⟩ := fun h0 q => by
        have := (hspot h0).1
        obtain ⟨b, o, s⟩ := a
        simp only at this
        subst this
        exact add_plain' b o q
      let es : List (List DV) := (List.range len).map (fun i => (key i).choose.2)
      have hes : ∀ (i : Nat) e, es[i]? = some e → i < len ∧ e = (key i).choose.2 := fun i e hi => by
        simp only [es, List.getElem?_map] at hi
        obtain ⟨q, hq, rfl⟩ := Option.map_eq_some_iff.1 hi
        have hlt : i < len := by have := (List.getElem?_eq_some_iff.1 hq).1; simpa using this
        rw [List.getElem?_range hlt] at hq
        obtain rfl := Option.some.inj hq
        exact ⟨hlt, rfl⟩
      have hcell : ∀ (i : Nat) e (j : Nat) d, es[i]? = some e → e[j]? = some d → ∃ v ty, L[j]? = some ty ∧ w.cell? ⟨a.block, a.off + (i * L.length + j), none⟩ = some v ∧ ((key i).choose.1)[j]? = some v ∧ Rep w (AllF w) v d ∧ HasD ty d ∧ v.oneCell' = true ∧ SmallD N d := fun i e j d hi hj => by
        obtain ⟨hlt, rfl⟩ := hes i e hi
        obtain ⟨h1, h2, h3, h4⟩ := (key i).choose_spec hlt
        obtain ⟨_, _, h5⟩ := World.cells?_some h1
        have hjl : j < L.length := by rw [← h3]; exact (List.getElem?_eq_some_iff.1 hj).1
        have hv := List.getElem?_eq_getElem (show j < ((key i).choose.1).length by omega)
        refine ⟨_, _, List.getElem?_eq_getElem hjl, ?_, hv, h4 j _ d _ hv hj (List.getElem?_eq_getElem hjl)⟩
        rw [← hv, ← h5 j hjl, hadd (by omega), add_plain', Nat.add_assoc]
      have hesl : es.length = len := by simp [es]
      have hmx : maxLen = lenB := by decide
      refine .one (d := .isl false L.length es) (.isl (b := a.block) (o := a.off) (fun i j => (((key i).choose.1)[j]?).getD undef) hesl.symm hl (by omega) (fun h => by cases h) (fun hne' => ?_) (fun i e hi => ?_) (fun i e j d hi hj => ?_) (fun i e j d hi hj => ?_)) (.sl (fun i e hi => ?_) (fun i e j d ty hi hj hty => ?_)) rfl (.isl (by rw [hesl, ← hlen]; rw [hxe] at hb0; exact Nat.le_trans (by simpa using bulk_len (elems.map (·.1))) (Nat.le_trans (bulk_elems _ _) hb0)) (fun i e j d hi hj => by obtain ⟨_, _, _, _, _, _, _, _, h7⟩ := hcell i e j d hi hj; exact h7))
      · have h0 : 0 < len := by
          rcases Nat.eq_zero_or_pos len with h | h
          · exact absurd (by simp [es, h]) hne'
          · exact h
        refine ⟨?_, (hspot h0).2⟩
        have := (hspot h0).1
        obtain ⟨b, o, s⟩ := a
        simp only at this
        subst this
        rfl
      · obtain ⟨hlt, rfl⟩ := hes i e hi; exact ((key i).choose_spec hlt).2.2.1
      · obtain ⟨v, ty, _, h2, h3, _, _, h6, _⟩ := hcell i e j d hi hj
        simp only [h3, Option.getD_some]
        exact ⟨h2, h6⟩
      · obtain ⟨v, ty, _, _, h3, h4, _⟩ := hcell i e j d hi hj
        simp only [h3, Option.getD_some]
        exact h4
      · obtain ⟨hlt, rfl⟩ := hes i e hi; exact ((key i).choose_spec hlt).2.2.1
      · obtain ⟨v, ty', h1, _, _, _, h5, _⟩ := hcell i e j d hi hj
        rw [h1] at hty
        obtain rfl := Option.some.inj hty
        exact h5
  | @struct t fs Ls h hc hl hf ho ih =>
    intro fuel cs x hx hb0
    obtain ⟨xs, n, rfl, hxe, hlen, hxl, hx⟩ := DataW.trod_struct h hx
    refine ⟨hlen.trans hc, fun j v ty hv hty => ?_⟩
    obtain ⟨i, Li, q, h1, h2, rfl⟩ := flatten_find Ls j ty hty
    have hi : i < fs.size := by rw [← hl]; exact (List.getElem?_eq_some_iff.1 h1).1
    have hfi := Array.getElem?_eq_getElem hi
    obtain ⟨o1, o2⟩ := ho i _ Li hfi h1
    have h3 := hx i _ hfi
    rw [List.getElem?_eq_getElem (show i < xs.length by omega)] at h3
    have hbe : Rows.uptoBulk (xs[i]'(by omega)).1 ≤ N := by
      rw [hxe] at hb0
      exact Nat.le_trans (bulk_part (List.mem_map.2 ⟨_, List.getElem_mem _, rfl⟩)) (Nat.le_trans (bulk_agg _) hb0)
    obtain ⟨_, h4⟩ := ih i _ Li hfi h1 n _ _ h3 hbe
    have hql : q < Li.length := (List.getElem?_eq_some_iff.1 h2).1
    exact h4 q v ty (by rw [List.getElem?_take, if_pos (by omega), List.getElem?_drop, o1]; exact hv) h2

/-- An argument of one cell. -/
theorem arg_repS {N : Nat} {H : Type} {enc : TypeId × Value → H} {P : Program} {w : World} {sp : Nat → Bool} {held : Bool} {t : TypeId} {ty : DTy} {v : Value} {d : DataW H} {p : List MemPlace} (hT : TyIs P t [ty]) (h : DataW.Trod enc P w 0 sp held t v d p) (hv : v.cells = #[v]) (hb : Rows.uptoBulk d ≤ N) : ∃ dv, Rep w (AllF w) v dv ∧ HasD ty dv ∧ SmallD N dv := by
  obtain ⟨fuel, h⟩ := h
  rw [hv] at h
  obtain ⟨ds, h1, h2, h3⟩ := (pws_trod hT fuel _ _ h hb).cells
  match ds, h2 with
  | [dv], _ => exact ⟨dv, (h3 0 v dv ty rfl rfl rfl).1, (h3 0 v dv ty rfl rfl rfl).2.1, (h3 0 v dv ty rfl rfl rfl).2.2.2⟩
/-- An argument of several cells. -/
theorem arg_repAS {N : Nat} {H : Type} {enc : TypeId × Value → H} {P : Program} {w : World} {sp : Nat → Bool} {held : Bool} {t : TypeId} {L : List DTy} {us : Array Value} {d : DataW H} {p : List MemPlace} (hT : TyIs P t L) (h : DataW.Trod enc P w 0 sp held t (.agg us) d p) (hb : Rows.uptoBulk d ≤ N) : ∃ ds, Rep w (AllF w) (.agg us) (.agg ds) ∧ ElemIs L ds ∧ ∀ d ∈ ds, SmallD N d := by
  obtain ⟨fuel, h⟩ := h
  obtain ⟨ds, h1, h2, h3⟩ := (pws_trod hT fuel _ _ h hb).cells
  have hus : us.size = ds.length := by rw [h2, ← h1]; rfl
  refine ⟨ds, .agg hus (fun j x dd hx hd => ?_), ⟨h2, fun j dd ty hd ht => ?_⟩, fun dd hdd => ?_⟩
  · have hlt : j < L.length := by rw [← h2]; exact (List.getElem?_eq_some_iff.1 hd).1
    exact (h3 j x dd _ (by show us.toList[j]? = some x; simpa using hx) hd (List.getElem?_eq_getElem hlt)).1
  · have hlt : j < us.size := by rw [hus]; exact (List.getElem?_eq_some_iff.1 hd).1
    exact (h3 j us[j] dd ty (by show us.toList[j]? = some us[j]; simp [hlt]) hd ht).2.1
  · obtain ⟨j, hj⟩ := List.mem_iff_getElem?.1 hdd
    have hlt : j < us.size := by rw [hus]; exact (List.getElem?_eq_some_iff.1 hj).1
    have hlL : j < L.length := by rw [← h2]; exact (List.getElem?_eq_some_iff.1 hj).1
    exact (h3 j us[j] dd _ (by show us.toList[j]? = some us[j]; simp [hlt]) hj (List.getElem?_eq_getElem hlL)).2.2.2
end Go.GH
