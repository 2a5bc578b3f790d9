/-
  Part 5 of the texts behind the walks of this claim: an own layer over the kit's wp, plain laws, and walks. No conditions.
-/
import Derived.Test.YtkhohgmmgipfbaaDoorMb4
set_option linter.unusedVariables false
set_option linter.unusedSimpArgs false
set_option linter.deprecated false
namespace Go.GH
open Go Go.Proofs
variable {E : Env}
theorem sJoin (l : List Ln) (hk : ∀ x ∈ l, LnOK x) (hl : l.length ≤ 1000) : GCall Tryd.prog E 32 [DLns l] [] (fun d H => d = DStrs (joinL l) ∧ H = []) := by
  refine GCall.body (C := ⟨Tryd.prog, E, true⟩) Tryd.func32 rfl (fun _ => rfl) (by kernel_rfl) rfl ?_
  refine SCode.seqR ?_
  refine SOps.assign rfl ?_
  refine SOps.nil ?_
  refine SCode.seqR ?_
  refine SOps.assign rfl ?_
  refine SOps.nil ?_
  refine SCode.seq ?_
  refine SCode.seqR ?_
  refine SOps.move rfl ?_
  refine SOps.lenM rfl sliceB_25_48_2 ?_
  refine SOps.move rfl ?_
  refine SOps.nil ?_
  refine SCode.block ?_
  refine SCode.loop2 (fun (i : Nat) (b : Nat) => (⟨58, [(0, DLns l), (3, accD 1 b ((joinI l i).map encS)), (8, DLns l), (9, .v (.int .i64 (l.length : Int))), (10, .v (.int .i64 (i : Int)))], accH 9 1 b ((joinI l i).map encS) ++ []⟩ : St)) (fun (i : Nat) (b : Nat) => i ≤ l.length) (fun (i : Nat) (b : Nat) => l.length - i) (0) (0) (by exact Nat.zero_le _) (St.Le.of ⟨(by first | rfl | (show some _ = some _; simp)), (by first | rfl | (show some _ = some _; simp)), (by first | rfl | (show some _ = some _; simp)), (by first | rfl | (show some _ = some _; simp)), (by first | rfl | (show some _ = some _; simp)), trivial⟩ rfl (by first | rfl | (simp))) ?_
  rintro i b hin
  refine SCode.seqR ?_
  refine SOps.bin rfl rfl rfl ?_
  refine SOps.nil ?_
  refine SCode.seq ?_
  refine SCode.cond rfl (fun hc1 => ?_) (fun hc1 => ?_)
  · try simp only [decide_eq_true_eq, decide_eq_false_iff_not, Bool.not_eq_true', Bool.not_eq_false', beq_iff_eq, bne_iff_ne, ne_eq, beq_eq_false_iff_ne, bne_eq_false_iff_eq, Int.not_lt, Int.not_le, Nat.not_lt, Nat.not_le, Int.ofNat_lt, Int.ofNat_le, Bool.not_eq_eq_eq_not, Bool.not_true, Bool.not_false] at hc1
    refine SCode.skip ?_
    show SCode _ _ _ _
    refine SCode.seq ?_
    refine SCode.block ?_
    refine SCode.seqR ?_
    refine SOps.move rfl ?_
    refine SOps.indexM (i) rfl rfl sliceB_25_48_2 (by first | omega | (simp only [lenB] <;> omega)) (by first | omega | (simp only [lenB] <;> omega)) ?_
    refine SOps.loadPinA rfl aggB_48_2 (Nat.le_of_ble_eq_true rfl) ?_
    refine SOps.alloc (sz := 2) zeroIs_48 (fun b0 hb_0 => ?_)
    refine SOps.assign rfl ?_
    refine SOps.storeAM 0 rfl rfl aggB_48_2 rfl ?_
    refine SOps.freezeRef (t := 5) 0 0 rfl rfl rfl rfl rfl ?_
    refine SOps.nil ?_
    refine SCode.seqR ?_
    have hil : i < l.length := by omega
    have hki := hk _ (List.getElem_mem hil)
    have hjb := joinI_bound hk i (by omega)
    have hli := lnAt_lt hil
    refine SOps.fieldPin rfl fieldB_48_0_0 ?_
    refine SOps.loadPin rfl flatB_46 ?_
    refine SOps.lenM rfl sliceB_46_9_1 ?_
    refine SOps.move rfl ?_
    refine SOps.nil ?_
    refine SCode.block ?_
    refine SCode.loop2 (fun (k : Nat) (c : Nat) => (⟨58, [(0, DLns l), (3, accD 1 c ((joinK (joinI l i) (prevH l i) (l[i]).words k).map encS)), (4, .v (.int .i64 (i : Int))), (5, .ipin (encLn (l[i]))), (8, DLns l), (9, .v (.int .i64 (l.length : Int))), (10, .v (.int .i64 (i : Int))), (16, DStrs (l[i]).words), (17, .v (.int .i64 ((l[i]).words.length : Int))), (18, .v (.int .i64 (k : Int)))], accH 9 1 c ((joinK (joinI l i) (prevH l i) (l[i]).words k).map encS) ++ []⟩ : St)) (fun (k : Nat) (c : Nat) => k ≤ (l[i]).words.length) (fun (k : Nat) (c : Nat) => (l[i]).words.length - k) (0) (b) (by exact Nat.zero_le _) (St.Le.of ⟨(by first | rfl | (show some _ = some _; simp)), (by first | rfl | (show some _ = some _; simp)), (by first | rfl | (show some _ = some _; simp)), (by first | rfl | (show some _ = some _; simp)), (by first | rfl | (show some _ = some _; simp)), (by first | rfl | (show some _ = some _; simp)), (by first | rfl | (show some _ = some _; simp)), (by first | rfl | (show some _ = some _; simp)), (by first | rfl | (show some _ = some _; simp)), (by first | rfl | (show some _ = some _; simp)), trivial⟩ rfl (by first | rfl | (simp))) ?_
    rintro k c hkn
    refine SCode.seqR ?_
    refine SOps.bin rfl rfl rfl ?_
    refine SOps.nil ?_
    refine SCode.seq ?_
    refine SCode.cond rfl (fun hc2 => ?_) (fun hc2 => ?_)
    · try simp only [decide_eq_true_eq, decide_eq_false_iff_not, Bool.not_eq_true', Bool.not_eq_false', beq_iff_eq, bne_iff_ne, ne_eq, beq_eq_false_iff_ne, bne_eq_false_iff_eq, Int.not_lt, Int.not_le, Nat.not_lt, Nat.not_le, Int.ofNat_lt, Int.ofNat_le, Bool.not_eq_eq_eq_not, Bool.not_true, Bool.not_false] at hc2
      refine SCode.skip ?_
      show SCode _ _ _ _
      refine SCode.seq ?_
      refine SCode.block ?_
      refine SCode.seqR ?_
      refine SOps.move rfl ?_
      refine SOps.indexM (k) rfl rfl sliceB_46_9_1 (by first | omega | (simp only [lenB] <;> omega)) (by first | omega | (simp only [lenB] <;> omega)) ?_
      refine SOps.loadPin rfl flatB_9 ?_
      refine SOps.assign rfl ?_
      refine SOps.assign rfl ?_
      refine SOps.nil ?_
      refine SCode.seqR ?_
      have hkw : k < (l[i]).words.length := by omega
      have hww := hki.2 _ (List.getElem_mem hkw)
      have hkb := joinK_bound (h := prevH l i) hjb.2 hki.2 k
      have hki1 := hki.1
      have hml : (List.map encS (joinK (joinI l i) (prevH l i) (l[i]).words k)).length = (joinK (joinI l i) (prevH l i) (l[i]).words k).length := List.length_map ..
      have hJs : (joinK (joinI l i) (prevH l i) (l[i]).words (k + 1)) = addW (joinK (joinI l i) (prevH l i) (l[i]).words k) (decide (k = 0) && prevH l i) ((l[i]).words[k]) := by rw [joinK, getD_lt hkw]
      refine SOps.move rfl ?_
      refine SOps.bin rfl rfl rfl ?_
      refine SOps.move rfl ?_
      refine SOps.caseB 25 rfl (fun hb3 => ?_) (fun hb3 => ?_)
      · try simp only [decide_eq_true_eq, decide_eq_false_iff_not, Bool.not_eq_true', Bool.not_eq_false', beq_iff_eq, bne_iff_ne, ne_eq, beq_eq_false_iff_ne, bne_eq_false_iff_eq, Int.not_lt, Int.not_le, Nat.not_lt, Nat.not_le, Int.ofNat_lt, Int.ofNat_le, Bool.not_eq_eq_eq_not, Bool.not_true, Bool.not_false] at hb3
        refine SOps.move rfl ?_
        refine SOps.bin rfl rfl rfl ?_
        refine SOps.pick rfl rfl ?_
        refine SOps.move rfl ?_
        refine SOps.caseB 29 rfl (fun hb4 => ?_) (fun hb4 => ?_)
        · try simp only [decide_eq_true_eq, decide_eq_false_iff_not, Bool.not_eq_true', Bool.not_eq_false', beq_iff_eq, bne_iff_ne, ne_eq, beq_eq_false_iff_ne, bne_eq_false_iff_eq, Int.not_lt, Int.not_le, Nat.not_lt, Nat.not_le, Int.ofNat_lt, Int.ofNat_le, Bool.not_eq_eq_eq_not, Bool.not_true, Bool.not_false] at hb4
          refine SOps.move rfl ?_
          refine SOps.move rfl ?_
          refine SOps.subI rfl rfl (by first | omega | (simp only [lenB] <;> omega)) (by first | omega | (simp only [lenB] <;> omega)) ?_
          refine SOps.indexM ((i - 1)) rfl rfl sliceB_25_48_2 (by first | omega | (simp only [lenB] <;> omega)) (by first | omega | (simp only [lenB] <;> omega)) ?_
          refine SOps.fieldPin rfl fieldB_48_1_1 ?_
          refine SOps.loadPin rfl flatB_4 ?_
          refine SOps.pick rfl rfl ?_
          refine SOps.move rfl ?_
          refine SOps.caseB 37 rfl (fun hb5 => ?_) (fun hb5 => ?_)
          · try simp only [decide_eq_true_eq, decide_eq_false_iff_not, Bool.not_eq_true', Bool.not_eq_false', beq_iff_eq, bne_iff_ne, ne_eq, beq_eq_false_iff_ne, bne_eq_false_iff_eq, Int.not_lt, Int.not_le, Nat.not_lt, Nat.not_le, Int.ofNat_lt, Int.ofNat_le, Bool.not_eq_eq_eq_not, Bool.not_true, Bool.not_false] at hb5
            refine SOps.move rfl ?_
            refine SOps.lenAcc rfl sliceB_46_9_1 ?_
            refine SOps.bin rfl rfl rfl ?_
            refine SOps.pick rfl rfl ?_
            refine SOps.nil ?_
            refine SCode.cond rfl (fun hc6 => ?_) (fun hc6 => ?_)
            · try simp only [decide_eq_true_eq, decide_eq_false_iff_not, Bool.not_eq_true', Bool.not_eq_false', beq_iff_eq, bne_iff_ne, ne_eq, beq_eq_false_iff_ne, bne_eq_false_iff_eq, Int.not_lt, Int.not_le, Nat.not_lt, Nat.not_le, Int.ofNat_lt, Int.ofNat_le, Bool.not_eq_eq_eq_not, Bool.not_true, Bool.not_false] at hc6
              have hJp : 0 < (joinK (joinI l i) (prevH l i) (l[i]).words k).length := by omega
              have hJl : ((joinK (joinI l i) (prevH l i) (l[i]).words k).length - 1) < (joinK (joinI l i) (prevH l i) (l[i]).words k).length := by omega
              have hJb := hkb.2 _ (List.getElem_mem hJl)
              have hJa : (joinK (joinI l i) (prevH l i) (l[i]).words (k + 1)) = (joinK (joinI l i) (prevH l i) (l[i]).words k).set ((joinK (joinI l i) (prevH l i) (l[i]).words k).length - 1) ((joinK (joinI l i) (prevH l i) (l[i]).words k)[((joinK (joinI l i) (prevH l i) (l[i]).words k).length - 1)] ++ (l[i]).words[k]) := by rw [hJs, show (decide (k = 0) && prevH l i) = true from by rw [decide_eq_true (show k = 0 by omega), prevH, decide_eq_true (show 0 < i by omega), lnAt_lt (show i - 1 < l.length by omega)]; simp_all, addW_set hJp, getD_lt hJl]
              refine SCode.region ?_
              refine SOps.reSlot (t := 3) rfl (show _ = DV.sl c 1 0 (((joinK (joinI l i) (prevH l i) (l[i]).words k).map encS)).length from accD_ne (by rw [List.length_map]; omega)) ?_
              refine SOps.reHeap (H' := [(c, DO.row 9 1 ((joinK (joinI l i) (prevH l i) (l[i]).words k).map encS))]) (by rw [accH_ne (by rw [List.length_map]; omega)] <;> rfl) ?_
              refine SOps.move rfl ?_
              refine SOps.move rfl ?_
              refine SOps.lenSl rfl sliceB_46_9_1 ?_
              refine SOps.subI rfl rfl (by first | omega | (simp only [lenB] <;> omega)) (by first | omega | (simp only [lenB] <;> omega)) ?_
              refine SOps.indexS (((joinK (joinI l i) (prevH l i) (l[i]).words k).length - 1)) rfl rfl sliceB_46_9_1 (by first | omega | (simp only [lenB] <;> omega)) (by first | omega | (simp only [lenB] <;> omega)) ?_
              refine SOps.loadK 0 (((joinK (joinI l i) (prevH l i) (l[i]).words k).length - 1)) rfl flatB_9 rfl (by first | omega | (simp only [lenB] <;> omega)) (by first | omega | (simp; done) | (simp; omega)) rfl ?_
              refine SOps.move rfl ?_
              refine SOps.concat rfl rfl (by simp only [lenB]; omega) ?_
              refine SOps.indexS (((joinK (joinI l i) (prevH l i) (l[i]).words k).length - 1)) rfl rfl sliceB_46_9_1 (by first | omega | (simp only [lenB] <;> omega)) (by first | omega | (simp only [lenB] <;> omega)) ?_
              refine SOps.storeK 0 (((joinK (joinI l i) (prevH l i) (l[i]).words k).length - 1)) (v := ((joinK (joinI l i) (prevH l i) (l[i]).words k)[((joinK (joinI l i) (prevH l i) (l[i]).words k).length - 1)] ++ (l[i]).words[k])) rfl rfl oneB_9 rfl (by first | omega | (simp only [lenB] <;> omega)) (by first | omega | (simp; done) | (simp; omega)) rfl (fun _ => rfl) ?_
              refine SOps.nil ?_
              show SCode _ _ _ _
              refine SCode.region ?_
              refine SOps.addI rfl rfl (by first | omega | (simp only [lenB] <;> omega)) (by first | omega | (simp only [lenB] <;> omega)) ?_
              refine SOps.move rfl ?_
              refine SOps.nil ?_
              exact ⟨k + 1, c, by omega, by omega, St.Le.of ⟨rfl, (by show some _ = some _; rw [hJa, accD_ne (by rw [List.length_map, List.length_set]; omega)]; simp only [List.length_map, List.length_set]), rfl, rfl, rfl, rfl, rfl, rfl, rfl, rfl, trivial⟩ rfl (by rw [hJa, accH_ne (by rw [List.length_map, List.length_set]; omega)] <;> rfl)⟩
            · try simp only [decide_eq_true_eq, decide_eq_false_iff_not, Bool.not_eq_true', Bool.not_eq_false', beq_iff_eq, bne_iff_ne, ne_eq, beq_eq_false_iff_ne, bne_eq_false_iff_eq, Int.not_lt, Int.not_le, Nat.not_lt, Nat.not_le, Int.ofNat_lt, Int.ofNat_le, Bool.not_eq_eq_eq_not, Bool.not_true, Bool.not_false] at hc6
              have hJa : (joinK (joinI l i) (prevH l i) (l[i]).words (k + 1)) = (joinK (joinI l i) (prevH l i) (l[i]).words k) ++ [(l[i]).words[k]] := by rw [hJs]; exact addW_app (.inr (by omega))
              refine SCode.region ?_
              refine SOps.move rfl ?_
              refine SOps.move rfl ?_
              refine SOps.litF rfl sliceB_46_9_1 zeroIs_9 rfl ?_
              refine SOps.appendAcc [] [] sliceB_46_9_1 elemB_9_1_16 rfl rfl rfl SrcD.isl (by simp) (by first | (simp [lenB] <;> (first | omega | (simp only [lenB] <;> omega))) | (simp only [lenB]; (first | omega | (simp only [lenB] <;> omega)))) (by first | (simp <;> (first | omega | (simp only [lenB] <;> omega))) | (first | omega | (simp only [lenB] <;> omega))) (fun b1 => ?_)
              refine SOps.assign rfl ?_
              refine SOps.nil ?_
              show SCode _ _ _ _
              refine SCode.region ?_
              refine SOps.addI rfl rfl (by first | omega | (simp only [lenB] <;> omega)) (by first | omega | (simp only [lenB] <;> omega)) ?_
              refine SOps.move rfl ?_
              refine SOps.nil ?_
              exact ⟨k + 1, b1, by omega, by omega, St.Le.of ⟨rfl, (by show some _ = some _; rw [hJa, List.map_append] <;> rfl), rfl, rfl, rfl, rfl, rfl, rfl, rfl, rfl, trivial⟩ rfl (by rw [hJa, List.map_append] <;> rfl)⟩
          · try simp only [decide_eq_true_eq, decide_eq_false_iff_not, Bool.not_eq_true', Bool.not_eq_false', beq_iff_eq, bne_iff_ne, ne_eq, beq_eq_false_iff_ne, bne_eq_false_iff_eq, Int.not_lt, Int.not_le, Nat.not_lt, Nat.not_le, Int.ofNat_lt, Int.ofNat_le, Bool.not_eq_eq_eq_not, Bool.not_true, Bool.not_false] at hb5
            have hJa : (joinK (joinI l i) (prevH l i) (l[i]).words (k + 1)) = (joinK (joinI l i) (prevH l i) (l[i]).words k) ++ [(l[i]).words[k]] := by rw [hJs]; exact addW_app (.inl (by rw [prevH, lnAt_lt (show i - 1 < l.length by omega)]; simp_all))
            refine SOps.skip rfl ?_
            refine SOps.skip rfl ?_
            refine SOps.skip rfl ?_
            refine SOps.pick rfl rfl ?_
            refine SOps.nil ?_
            refine SCode.cond rfl (fun h => by cases h) (fun _ => ?_)
            refine SCode.region ?_
            refine SOps.move rfl ?_
            refine SOps.move rfl ?_
            refine SOps.litF rfl sliceB_46_9_1 zeroIs_9 rfl ?_
            refine SOps.appendAcc [] [] sliceB_46_9_1 elemB_9_1_16 rfl rfl rfl SrcD.isl (by simp) (by first | (simp [lenB] <;> (first | omega | (simp only [lenB] <;> omega))) | (simp only [lenB]; (first | omega | (simp only [lenB] <;> omega)))) (by first | (simp <;> (first | omega | (simp only [lenB] <;> omega))) | (first | omega | (simp only [lenB] <;> omega))) (fun b2 => ?_)
            refine SOps.assign rfl ?_
            refine SOps.nil ?_
            show SCode _ _ _ _
            refine SCode.region ?_
            refine SOps.addI rfl rfl (by first | omega | (simp only [lenB] <;> omega)) (by first | omega | (simp only [lenB] <;> omega)) ?_
            refine SOps.move rfl ?_
            refine SOps.nil ?_
            exact ⟨k + 1, b2, by omega, by omega, St.Le.of ⟨rfl, (by show some _ = some _; rw [hJa, List.map_append] <;> rfl), rfl, rfl, rfl, rfl, rfl, rfl, rfl, rfl, trivial⟩ rfl (by rw [hJa, List.map_append] <;> rfl)⟩
        · try simp only [decide_eq_true_eq, decide_eq_false_iff_not, Bool.not_eq_true', Bool.not_eq_false', beq_iff_eq, bne_iff_ne, ne_eq, beq_eq_false_iff_ne, bne_eq_false_iff_eq, Int.not_lt, Int.not_le, Nat.not_lt, Nat.not_le, Int.ofNat_lt, Int.ofNat_le, Bool.not_eq_eq_eq_not, Bool.not_true, Bool.not_false] at hb4
          have hJa : (joinK (joinI l i) (prevH l i) (l[i]).words (k + 1)) = (joinK (joinI l i) (prevH l i) (l[i]).words k) ++ [(l[i]).words[k]] := by rw [hJs]; exact addW_app (.inl (by rw [prevH, decide_eq_false (show ¬ 0 < i by omega), Bool.false_and, Bool.and_false]))
          refine SOps.skip rfl ?_
          refine SOps.skip rfl ?_
          refine SOps.skip rfl ?_
          refine SOps.skip rfl ?_
          refine SOps.skip rfl ?_
          refine SOps.skip rfl ?_
          refine SOps.pick rfl rfl ?_
          refine SOps.move rfl ?_
          refine SOps.skip rfl ?_
          refine SOps.skip rfl ?_
          refine SOps.skip rfl ?_
          refine SOps.pick rfl rfl ?_
          refine SOps.nil ?_
          refine SCode.cond rfl (fun h => by cases h) (fun _ => ?_)
          refine SCode.region ?_
          refine SOps.move rfl ?_
          refine SOps.move rfl ?_
          refine SOps.litF rfl sliceB_46_9_1 zeroIs_9 rfl ?_
          refine SOps.appendAcc [] [] sliceB_46_9_1 elemB_9_1_16 rfl rfl rfl SrcD.isl (by simp) (by first | (simp [lenB] <;> (first | omega | (simp only [lenB] <;> omega))) | (simp only [lenB]; (first | omega | (simp only [lenB] <;> omega)))) (by first | (simp <;> (first | omega | (simp only [lenB] <;> omega))) | (first | omega | (simp only [lenB] <;> omega))) (fun b3 => ?_)
          refine SOps.assign rfl ?_
          refine SOps.nil ?_
          show SCode _ _ _ _
          refine SCode.region ?_
          refine SOps.addI rfl rfl (by first | omega | (simp only [lenB] <;> omega)) (by first | omega | (simp only [lenB] <;> omega)) ?_
          refine SOps.move rfl ?_
          refine SOps.nil ?_
          exact ⟨k + 1, b3, by omega, by omega, St.Le.of ⟨rfl, (by show some _ = some _; rw [hJa, List.map_append] <;> rfl), rfl, rfl, rfl, rfl, rfl, rfl, rfl, rfl, trivial⟩ rfl (by rw [hJa, List.map_append] <;> rfl)⟩
      · try simp only [decide_eq_true_eq, decide_eq_false_iff_not, Bool.not_eq_true', Bool.not_eq_false', beq_iff_eq, bne_iff_ne, ne_eq, beq_eq_false_iff_ne, bne_eq_false_iff_eq, Int.not_lt, Int.not_le, Nat.not_lt, Nat.not_le, Int.ofNat_lt, Int.ofNat_le, Bool.not_eq_eq_eq_not, Bool.not_true, Bool.not_false] at hb3
        have hJa : (joinK (joinI l i) (prevH l i) (l[i]).words (k + 1)) = (joinK (joinI l i) (prevH l i) (l[i]).words k) ++ [(l[i]).words[k]] := by rw [hJs]; exact addW_app (.inl (by rw [decide_eq_false (by omega), Bool.false_and]))
        refine SOps.skip rfl ?_
        refine SOps.skip rfl ?_
        refine SOps.pick rfl rfl ?_
        refine SOps.move rfl ?_
        refine SOps.skip rfl ?_
        refine SOps.skip rfl ?_
        refine SOps.skip rfl ?_
        refine SOps.skip rfl ?_
        refine SOps.skip rfl ?_
        refine SOps.skip rfl ?_
        refine SOps.pick rfl rfl ?_
        refine SOps.move rfl ?_
        refine SOps.skip rfl ?_
        refine SOps.skip rfl ?_
        refine SOps.skip rfl ?_
        refine SOps.pick rfl rfl ?_
        refine SOps.nil ?_
        refine SCode.cond rfl (fun h => by cases h) (fun _ => ?_)
        refine SCode.region ?_
        refine SOps.move rfl ?_
        refine SOps.move rfl ?_
        refine SOps.litF rfl sliceB_46_9_1 zeroIs_9 rfl ?_
        refine SOps.appendAcc [] [] sliceB_46_9_1 elemB_9_1_16 rfl rfl rfl SrcD.isl (by simp) (by first | (simp [lenB] <;> (first | omega | (simp only [lenB] <;> omega))) | (simp only [lenB]; (first | omega | (simp only [lenB] <;> omega)))) (by first | (simp <;> (first | omega | (simp only [lenB] <;> omega))) | (first | omega | (simp only [lenB] <;> omega))) (fun b4 => ?_)
        refine SOps.assign rfl ?_
        refine SOps.nil ?_
        show SCode _ _ _ _
        refine SCode.region ?_
        refine SOps.addI rfl rfl (by first | omega | (simp only [lenB] <;> omega)) (by first | omega | (simp only [lenB] <;> omega)) ?_
        refine SOps.move rfl ?_
        refine SOps.nil ?_
        exact ⟨k + 1, b4, by omega, by omega, St.Le.of ⟨rfl, (by show some _ = some _; rw [hJa, List.map_append] <;> rfl), rfl, rfl, rfl, rfl, rfl, rfl, rfl, rfl, trivial⟩ rfl (by rw [hJa, List.map_append] <;> rfl)⟩
    · try simp only [decide_eq_true_eq, decide_eq_false_iff_not, Bool.not_eq_true', Bool.not_eq_false', beq_iff_eq, bne_iff_ne, ne_eq, beq_eq_false_iff_ne, bne_eq_false_iff_eq, Int.not_lt, Int.not_le, Nat.not_lt, Nat.not_le, Int.ofNat_lt, Int.ofNat_le, Bool.not_eq_eq_eq_not, Bool.not_true, Bool.not_false] at hc2
      refine SCode.exit ?_
      show SCode _ _ _ _
      refine SCode.region ?_
      refine SOps.addI rfl rfl (by first | omega | (simp only [lenB] <;> omega)) (by first | omega | (simp only [lenB] <;> omega)) ?_
      refine SOps.move rfl ?_
      refine SOps.nil ?_
      have hJe : (joinI l (i + 1)) = (joinK (joinI l i) (prevH l i) (l[i]).words k) := by rw [joinI, hli, show k = (l[i]).words.length by omega]
      exact ⟨i + 1, c, by omega, by omega, St.Le.of ⟨rfl, (by show some _ = some _; rw [hJe] <;> rfl), rfl, rfl, rfl, trivial⟩ rfl (by rw [hJe] <;> rfl)⟩
  · try simp only [decide_eq_true_eq, decide_eq_false_iff_not, Bool.not_eq_true', Bool.not_eq_false', beq_iff_eq, bne_iff_ne, ne_eq, beq_eq_false_iff_ne, bne_eq_false_iff_eq, Int.not_lt, Int.not_le, Nat.not_lt, Nat.not_le, Int.ofNat_lt, Int.ofNat_le, Bool.not_eq_eq_eq_not, Bool.not_true, Bool.not_false] at hc1
    refine SCode.exit ?_
    show SCode _ _ _ _
    refine SCode.seqR ?_
    refine SOps.freezeAcc (t := 3) [] [] rfl rfl rfl ?_
    refine SOps.move rfl ?_
    refine SOps.assign rfl ?_
    refine SOps.nil ?_
    refine SCode.ret ?_
    exact ⟨_, Res.one (.tmp rfl), by rw [joinL, show l.length = i by omega], rfl⟩
theorem qJoin (l : List Ln) (hk : ∀ x ∈ l, LnOK x) (hl : l.length ≤ 1000) : GCall Tryd.prog E 33 [DLns l] [] (fun d H => d = DStrs (joinL l) ∧ H = []) := by
  refine GCall.body (C := ⟨Tryd.prog, E, true⟩) Tryd.func33 rfl (fun _ => rfl) (by kernel_rfl) rfl ?_
  refine SCode.seqR ?_
  refine SOps.assign rfl ?_
  refine SOps.nil ?_
  refine SCode.seqR ?_
  refine SOps.assign rfl ?_
  refine SOps.nil ?_
  refine SCode.seqR ?_
  refine SOps.assign rfl ?_
  refine SOps.nil ?_
  refine SCode.seq ?_
  refine SCode.seqR ?_
  refine SOps.move rfl ?_
  refine SOps.lenM rfl sliceB_25_48_2 ?_
  refine SOps.move rfl ?_
  refine SOps.nil ?_
  refine SCode.block ?_
  refine SCode.loop2 (fun (i : Nat) (b : Nat) => (⟨55, [(0, DLns l), (3, accD 1 b ((joinI l i).map encS)), (4, .v (.bool (prevH l i))), (9, DLns l), (10, .v (.int .i64 (l.length : Int))), (11, .v (.int .i64 (i : Int)))], accH 9 1 b ((joinI l i).map encS) ++ []⟩ : St)) (fun (i : Nat) (b : Nat) => i ≤ l.length) (fun (i : Nat) (b : Nat) => l.length - i) (0) (0) (by exact Nat.zero_le _) (St.Le.of ⟨(by first | rfl | (show some _ = some _; simp)), (by first | rfl | (show some _ = some _; simp)), (by first | rfl | (show some _ = some _; simp)), (by first | rfl | (show some _ = some _; simp)), (by first | rfl | (show some _ = some _; simp)), (by first | rfl | (show some _ = some _; simp)), trivial⟩ rfl (by first | rfl | (simp))) ?_
  rintro i b hin
  refine SCode.seqR ?_
  refine SOps.bin rfl rfl rfl ?_
  refine SOps.nil ?_
  refine SCode.seq ?_
  refine SCode.cond rfl (fun hc1 => ?_) (fun hc1 => ?_)
  · try simp only [decide_eq_true_eq, decide_eq_false_iff_not, Bool.not_eq_true', Bool.not_eq_false', beq_iff_eq, bne_iff_ne, ne_eq, beq_eq_false_iff_ne, bne_eq_false_iff_eq, Int.not_lt, Int.not_le, Nat.not_lt, Nat.not_le, Int.ofNat_lt, Int.ofNat_le, Bool.not_eq_eq_eq_not, Bool.not_true, Bool.not_false] at hc1
    refine SCode.skip ?_
    show SCode _ _ _ _
    refine SCode.seq ?_
    refine SCode.block ?_
    refine SCode.seqR ?_
    refine SOps.indexM (i) rfl rfl sliceB_25_48_2 (by first | omega | (simp only [lenB] <;> omega)) (by first | omega | (simp only [lenB] <;> omega)) ?_
    refine SOps.loadPinA rfl aggB_48_2 (Nat.le_of_ble_eq_true rfl) ?_
    refine SOps.alloc (sz := 2) zeroIs_48 (fun b0 hb_0 => ?_)
    refine SOps.storeAM 0 rfl rfl aggB_48_2 rfl ?_
    refine SOps.freezeRef (t := 6) 0 0 rfl rfl rfl rfl rfl ?_
    refine SOps.nil ?_
    refine SCode.seq ?_
    refine SCode.seqR ?_
    have hil : i < l.length := by omega
    have hki := hk _ (List.getElem_mem hil)
    have hjb := joinI_bound hk i (by omega)
    have hli := lnAt_lt hil
    refine SOps.fieldPin rfl fieldB_48_0_0 ?_
    refine SOps.loadPin rfl flatB_46 ?_
    refine SOps.lenM rfl sliceB_46_9_1 ?_
    refine SOps.move rfl ?_
    refine SOps.nil ?_
    refine SCode.block ?_
    refine SCode.loop2 (fun (k : Nat) (c : Nat) => (⟨55, [(0, DLns l), (3, accD 1 c ((joinK (joinI l i) (prevH l i) (l[i]).words k).map encS)), (4, .v (.bool (prevH l i))), (6, .ipin (encLn (l[i]))), (9, DLns l), (10, .v (.int .i64 (l.length : Int))), (11, .v (.int .i64 (i : Int))), (16, DStrs (l[i]).words), (17, .v (.int .i64 ((l[i]).words.length : Int))), (18, .v (.int .i64 (k : Int)))], accH 9 1 c ((joinK (joinI l i) (prevH l i) (l[i]).words k).map encS) ++ []⟩ : St)) (fun (k : Nat) (c : Nat) => k ≤ (l[i]).words.length) (fun (k : Nat) (c : Nat) => (l[i]).words.length - k) (0) (b) (by exact Nat.zero_le _) (St.Le.of ⟨(by first | rfl | (show some _ = some _; simp)), (by first | rfl | (show some _ = some _; simp)), (by first | rfl | (show some _ = some _; simp)), (by first | rfl | (show some _ = some _; simp)), (by first | rfl | (show some _ = some _; simp)), (by first | rfl | (show some _ = some _; simp)), (by first | rfl | (show some _ = some _; simp)), (by first | rfl | (show some _ = some _; simp)), (by first | rfl | (show some _ = some _; simp)), (by first | rfl | (show some _ = some _; simp)), trivial⟩ rfl (by first | rfl | (simp))) ?_
    rintro k c hkn
    refine SCode.seqR ?_
    refine SOps.bin rfl rfl rfl ?_
    refine SOps.nil ?_
    refine SCode.seq ?_
    refine SCode.cond rfl (fun hc2 => ?_) (fun hc2 => ?_)
    · try simp only [decide_eq_true_eq, decide_eq_false_iff_not, Bool.not_eq_true', Bool.not_eq_false', beq_iff_eq, bne_iff_ne, ne_eq, beq_eq_false_iff_ne, bne_eq_false_iff_eq, Int.not_lt, Int.not_le, Nat.not_lt, Nat.not_le, Int.ofNat_lt, Int.ofNat_le, Bool.not_eq_eq_eq_not, Bool.not_true, Bool.not_false] at hc2
      refine SCode.skip ?_
      show SCode _ _ _ _
      refine SCode.seq ?_
      refine SCode.block ?_
      refine SCode.seqR ?_
      refine SOps.move rfl ?_
      refine SOps.indexM (k) rfl rfl sliceB_46_9_1 (by first | omega | (simp only [lenB] <;> omega)) (by first | omega | (simp only [lenB] <;> omega)) ?_
      refine SOps.loadPin rfl flatB_9 ?_
      refine SOps.assign rfl ?_
      refine SOps.assign rfl ?_
      refine SOps.nil ?_
      refine SCode.seq ?_
      refine SCode.seqR ?_
      have hkw : k < (l[i]).words.length := by omega
      have hww := hki.2 _ (List.getElem_mem hkw)
      have hkb := joinK_bound (h := prevH l i) hjb.2 hki.2 k
      have hki1 := hki.1
      have hml : (List.map encS (joinK (joinI l i) (prevH l i) (l[i]).words k)).length = (joinK (joinI l i) (prevH l i) (l[i]).words k).length := List.length_map ..
      have hJs : (joinK (joinI l i) (prevH l i) (l[i]).words (k + 1)) = addW (joinK (joinI l i) (prevH l i) (l[i]).words k) (decide (k = 0) && prevH l i) ((l[i]).words[k]) := by rw [joinK, getD_lt hkw]
      refine SOps.move rfl ?_
      refine SOps.bin rfl rfl rfl ?_
      refine SOps.move rfl ?_
      refine SOps.caseB 25 rfl (fun hb3 => ?_) (fun hb3 => ?_)
      · try simp only [decide_eq_true_eq, decide_eq_false_iff_not, Bool.not_eq_true', Bool.not_eq_false', beq_iff_eq, bne_iff_ne, ne_eq, beq_eq_false_iff_ne, bne_eq_false_iff_eq, Int.not_lt, Int.not_le, Nat.not_lt, Nat.not_le, Int.ofNat_lt, Int.ofNat_le, Bool.not_eq_eq_eq_not, Bool.not_true, Bool.not_false] at hb3
        refine SOps.move rfl ?_
        refine SOps.pick rfl rfl ?_
        refine SOps.move rfl ?_
        refine SOps.caseB 28 rfl (fun hb4 => ?_) (fun hb4 => ?_)
        · try simp only [decide_eq_true_eq, decide_eq_false_iff_not, Bool.not_eq_true', Bool.not_eq_false', beq_iff_eq, bne_iff_ne, ne_eq, beq_eq_false_iff_ne, bne_eq_false_iff_eq, Int.not_lt, Int.not_le, Nat.not_lt, Nat.not_le, Int.ofNat_lt, Int.ofNat_le, Bool.not_eq_eq_eq_not, Bool.not_true, Bool.not_false] at hb4
          refine SOps.move rfl ?_
          refine SOps.lenAcc rfl sliceB_46_9_1 ?_
          refine SOps.bin rfl rfl rfl ?_
          refine SOps.pick rfl rfl ?_
          refine SOps.nil ?_
          refine SCode.cond rfl (fun hc5 => ?_) (fun hc5 => ?_)
          · try simp only [decide_eq_true_eq, decide_eq_false_iff_not, Bool.not_eq_true', Bool.not_eq_false', beq_iff_eq, bne_iff_ne, ne_eq, beq_eq_false_iff_ne, bne_eq_false_iff_eq, Int.not_lt, Int.not_le, Nat.not_lt, Nat.not_le, Int.ofNat_lt, Int.ofNat_le, Bool.not_eq_eq_eq_not, Bool.not_true, Bool.not_false] at hc5
            have hJp : 0 < (joinK (joinI l i) (prevH l i) (l[i]).words k).length := by omega
            have hJl : ((joinK (joinI l i) (prevH l i) (l[i]).words k).length - 1) < (joinK (joinI l i) (prevH l i) (l[i]).words k).length := by omega
            have hJb := hkb.2 _ (List.getElem_mem hJl)
            have hJa : (joinK (joinI l i) (prevH l i) (l[i]).words (k + 1)) = (joinK (joinI l i) (prevH l i) (l[i]).words k).set ((joinK (joinI l i) (prevH l i) (l[i]).words k).length - 1) ((joinK (joinI l i) (prevH l i) (l[i]).words k)[((joinK (joinI l i) (prevH l i) (l[i]).words k).length - 1)] ++ (l[i]).words[k]) := by rw [hJs, show (decide (k = 0) && prevH l i) = true from by rw [decide_eq_true (show k = 0 by omega), hb4]; rfl, addW_set hJp, getD_lt hJl]
            refine SCode.seqR ?_
            refine SOps.reSlot (t := 3) rfl (show _ = DV.sl c 1 0 (((joinK (joinI l i) (prevH l i) (l[i]).words k).map encS)).length from accD_ne (by rw [List.length_map]; omega)) ?_
            refine SOps.reHeap (H' := [(c, DO.row 9 1 ((joinK (joinI l i) (prevH l i) (l[i]).words k).map encS))]) (by rw [accH_ne (by rw [List.length_map]; omega)] <;> rfl) ?_
            refine SOps.move rfl ?_
            refine SOps.move rfl ?_
            refine SOps.lenSl rfl sliceB_46_9_1 ?_
            refine SOps.subI rfl rfl (by first | omega | (simp only [lenB] <;> omega)) (by first | omega | (simp only [lenB] <;> omega)) ?_
            refine SOps.move rfl ?_
            refine SOps.move rfl ?_
            refine SOps.lenSl rfl sliceB_46_9_1 ?_
            refine SOps.subI rfl rfl (by first | omega | (simp only [lenB] <;> omega)) (by first | omega | (simp only [lenB] <;> omega)) ?_
            refine SOps.indexS (((joinK (joinI l i) (prevH l i) (l[i]).words k).length - 1)) rfl rfl sliceB_46_9_1 (by first | omega | (simp only [lenB] <;> omega)) (by first | omega | (simp only [lenB] <;> omega)) ?_
            refine SOps.loadK 0 (((joinK (joinI l i) (prevH l i) (l[i]).words k).length - 1)) rfl flatB_9 rfl (by first | omega | (simp only [lenB] <;> omega)) (by first | omega | (simp; done) | (simp; omega)) rfl ?_
            refine SOps.move rfl ?_
            refine SOps.concat rfl rfl (by simp only [lenB]; omega) ?_
            refine SOps.indexS (((joinK (joinI l i) (prevH l i) (l[i]).words k).length - 1)) rfl rfl sliceB_46_9_1 (by first | omega | (simp only [lenB] <;> omega)) (by first | omega | (simp only [lenB] <;> omega)) ?_
            refine SOps.storeK 0 (((joinK (joinI l i) (prevH l i) (l[i]).words k).length - 1)) (v := ((joinK (joinI l i) (prevH l i) (l[i]).words k)[((joinK (joinI l i) (prevH l i) (l[i]).words k).length - 1)] ++ (l[i]).words[k])) rfl rfl oneB_9 rfl (by first | omega | (simp only [lenB] <;> omega)) (by first | omega | (simp; done) | (simp; omega)) rfl (fun _ => rfl) ?_
            refine SOps.nil ?_
            refine SCode.exit ?_
            show SCode _ _ _ _
            refine SCode.region ?_
            refine SOps.addI rfl rfl (by first | omega | (simp only [lenB] <;> omega)) (by first | omega | (simp only [lenB] <;> omega)) ?_
            refine SOps.move rfl ?_
            refine SOps.nil ?_
            exact ⟨k + 1, c, by omega, by omega, St.Le.of ⟨rfl, (by show some _ = some _; rw [hJa, accD_ne (by rw [List.length_map, List.length_set]; omega)]; simp only [List.length_map, List.length_set]), rfl, rfl, rfl, rfl, rfl, rfl, rfl, rfl, trivial⟩ rfl (by rw [hJa, accH_ne (by rw [List.length_map, List.length_set]; omega)] <;> rfl)⟩
          · try simp only [decide_eq_true_eq, decide_eq_false_iff_not, Bool.not_eq_true', Bool.not_eq_false', beq_iff_eq, bne_iff_ne, ne_eq, beq_eq_false_iff_ne, bne_eq_false_iff_eq, Int.not_lt, Int.not_le, Nat.not_lt, Nat.not_le, Int.ofNat_lt, Int.ofNat_le, Bool.not_eq_eq_eq_not, Bool.not_true, Bool.not_false] at hc5
            have hJa : (joinK (joinI l i) (prevH l i) (l[i]).words (k + 1)) = (joinK (joinI l i) (prevH l i) (l[i]).words k) ++ [(l[i]).words[k]] := by rw [hJs]; exact addW_app (.inr (by omega))
            refine SCode.skip ?_
            show SCode _ _ _ _
            refine SCode.region ?_
            refine SOps.move rfl ?_
            refine SOps.move rfl ?_
            refine SOps.litF rfl sliceB_46_9_1 zeroIs_9 rfl ?_
            refine SOps.appendAcc [] [] sliceB_46_9_1 elemB_9_1_16 rfl rfl rfl SrcD.isl (by simp) (by first | (simp [lenB] <;> (first | omega | (simp only [lenB] <;> omega))) | (simp only [lenB]; (first | omega | (simp only [lenB] <;> omega)))) (by first | (simp <;> (first | omega | (simp only [lenB] <;> omega))) | (first | omega | (simp only [lenB] <;> omega))) (fun b1 => ?_)
            refine SOps.assign rfl ?_
            refine SOps.nil ?_
            show SCode _ _ _ _
            refine SCode.region ?_
            refine SOps.addI rfl rfl (by first | omega | (simp only [lenB] <;> omega)) (by first | omega | (simp only [lenB] <;> omega)) ?_
            refine SOps.move rfl ?_
            refine SOps.nil ?_
            exact ⟨k + 1, b1, by omega, by omega, St.Le.of ⟨rfl, (by show some _ = some _; rw [hJa, List.map_append] <;> rfl), rfl, rfl, rfl, rfl, rfl, rfl, rfl, rfl, trivial⟩ rfl (by rw [hJa, List.map_append] <;> rfl)⟩
        · try simp only [decide_eq_true_eq, decide_eq_false_iff_not, Bool.not_eq_true', Bool.not_eq_false', beq_iff_eq, bne_iff_ne, ne_eq, beq_eq_false_iff_ne, bne_eq_false_iff_eq, Int.not_lt, Int.not_le, Nat.not_lt, Nat.not_le, Int.ofNat_lt, Int.ofNat_le, Bool.not_eq_eq_eq_not, Bool.not_true, Bool.not_false] at hb4
          have hJa : (joinK (joinI l i) (prevH l i) (l[i]).words (k + 1)) = (joinK (joinI l i) (prevH l i) (l[i]).words k) ++ [(l[i]).words[k]] := by rw [hJs]; exact addW_app (.inl (by rw [hb4, Bool.and_false]))
          refine SOps.skip rfl ?_
          refine SOps.skip rfl ?_
          refine SOps.skip rfl ?_
          refine SOps.pick rfl rfl ?_
          refine SOps.nil ?_
          refine SCode.cond rfl (fun h => by cases h) (fun _ => ?_)
          refine SCode.skip ?_
          show SCode _ _ _ _
          refine SCode.region ?_
          refine SOps.move rfl ?_
          refine SOps.move rfl ?_
          refine SOps.litF rfl sliceB_46_9_1 zeroIs_9 rfl ?_
          refine SOps.appendAcc [] [] sliceB_46_9_1 elemB_9_1_16 rfl rfl rfl SrcD.isl (by simp) (by first | (simp [lenB] <;> (first | omega | (simp only [lenB] <;> omega))) | (simp only [lenB]; (first | omega | (simp only [lenB] <;> omega)))) (by first | (simp <;> (first | omega | (simp only [lenB] <;> omega))) | (first | omega | (simp only [lenB] <;> omega))) (fun b2 => ?_)
          refine SOps.assign rfl ?_
          refine SOps.nil ?_
          show SCode _ _ _ _
          refine SCode.region ?_
          refine SOps.addI rfl rfl (by first | omega | (simp only [lenB] <;> omega)) (by first | omega | (simp only [lenB] <;> omega)) ?_
          refine SOps.move rfl ?_
          refine SOps.nil ?_
          exact ⟨k + 1, b2, by omega, by omega, St.Le.of ⟨rfl, (by show some _ = some _; rw [hJa, List.map_append] <;> rfl), rfl, rfl, rfl, rfl, rfl, rfl, rfl, rfl, trivial⟩ rfl (by rw [hJa, List.map_append] <;> rfl)⟩
      · try simp only [decide_eq_true_eq, decide_eq_false_iff_not, Bool.not_eq_true', Bool.not_eq_false', beq_iff_eq, bne_iff_ne, ne_eq, beq_eq_false_iff_ne, bne_eq_false_iff_eq, Int.not_lt, Int.not_le, Nat.not_lt, Nat.not_le, Int.ofNat_lt, Int.ofNat_le, Bool.not_eq_eq_eq_not, Bool.not_true, Bool.not_false] at hb3
        have hJa : (joinK (joinI l i) (prevH l i) (l[i]).words (k + 1)) = (joinK (joinI l i) (prevH l i) (l[i]).words k) ++ [(l[i]).words[k]] := by rw [hJs]; exact addW_app (.inl (by rw [decide_eq_false (by omega), Bool.false_and]))
        refine SOps.skip rfl ?_
        refine SOps.pick rfl rfl ?_
        refine SOps.move rfl ?_
        refine SOps.skip rfl ?_
        refine SOps.skip rfl ?_
        refine SOps.skip rfl ?_
        refine SOps.pick rfl rfl ?_
        refine SOps.nil ?_
        refine SCode.cond rfl (fun h => by cases h) (fun _ => ?_)
        refine SCode.skip ?_
        show SCode _ _ _ _
        refine SCode.region ?_
        refine SOps.move rfl ?_
        refine SOps.move rfl ?_
        refine SOps.litF rfl sliceB_46_9_1 zeroIs_9 rfl ?_
        refine SOps.appendAcc [] [] sliceB_46_9_1 elemB_9_1_16 rfl rfl rfl SrcD.isl (by simp) (by first | (simp [lenB] <;> (first | omega | (simp only [lenB] <;> omega))) | (simp only [lenB]; (first | omega | (simp only [lenB] <;> omega)))) (by first | (simp <;> (first | omega | (simp only [lenB] <;> omega))) | (first | omega | (simp only [lenB] <;> omega))) (fun b3 => ?_)
        refine SOps.assign rfl ?_
        refine SOps.nil ?_
        show SCode _ _ _ _
        refine SCode.region ?_
        refine SOps.addI rfl rfl (by first | omega | (simp only [lenB] <;> omega)) (by first | omega | (simp only [lenB] <;> omega)) ?_
        refine SOps.move rfl ?_
        refine SOps.nil ?_
        exact ⟨k + 1, b3, by omega, by omega, St.Le.of ⟨rfl, (by show some _ = some _; rw [hJa, List.map_append] <;> rfl), rfl, rfl, rfl, rfl, rfl, rfl, rfl, rfl, trivial⟩ rfl (by rw [hJa, List.map_append] <;> rfl)⟩
    · try simp only [decide_eq_true_eq, decide_eq_false_iff_not, Bool.not_eq_true', Bool.not_eq_false', beq_iff_eq, bne_iff_ne, ne_eq, beq_eq_false_iff_ne, bne_eq_false_iff_eq, Int.not_lt, Int.not_le, Nat.not_lt, Nat.not_le, Int.ofNat_lt, Int.ofNat_le, Bool.not_eq_eq_eq_not, Bool.not_true, Bool.not_false] at hc2
      refine SCode.exit ?_
      show SCode _ _ _ _
      refine SCode.region ?_
      refine SOps.fieldPin rfl fieldB_48_1_1 ?_
      refine SOps.loadPin rfl flatB_4 ?_
      refine SOps.assign rfl ?_
      refine SOps.nil ?_
      show SCode _ _ _ _
      refine SCode.region ?_
      refine SOps.addI rfl rfl (by first | omega | (simp only [lenB] <;> omega)) (by first | omega | (simp only [lenB] <;> omega)) ?_
      refine SOps.move rfl ?_
      refine SOps.nil ?_
      have hJe : (joinI l (i + 1)) = (joinK (joinI l i) (prevH l i) (l[i]).words k) := by rw [joinI, hli, show k = (l[i]).words.length by omega]
      have hph : prevH l (i + 1) = (l[i]).hyph := by rw [prevH, decide_eq_true (Nat.succ_pos _), Nat.add_sub_cancel, hli]; rfl
      exact ⟨i + 1, c, by omega, by omega, St.Le.of ⟨rfl, (by show some _ = some _; rw [hJe] <;> rfl), (by show some _ = some _; rw [hph] <;> rfl), rfl, rfl, rfl, trivial⟩ rfl (by rw [hJe] <;> rfl)⟩
  · try simp only [decide_eq_true_eq, decide_eq_false_iff_not, Bool.not_eq_true', Bool.not_eq_false', beq_iff_eq, bne_iff_ne, ne_eq, beq_eq_false_iff_ne, bne_eq_false_iff_eq, Int.not_lt, Int.not_le, Nat.not_lt, Nat.not_le, Int.ofNat_lt, Int.ofNat_le, Bool.not_eq_eq_eq_not, Bool.not_true, Bool.not_false] at hc1
    refine SCode.exit ?_
    show SCode _ _ _ _
    refine SCode.seqR ?_
    refine SOps.freezeAcc (t := 3) [] [] rfl rfl rfl ?_
    refine SOps.move rfl ?_
    refine SOps.assign rfl ?_
    refine SOps.nil ?_
    refine SCode.ret ?_
    exact ⟨_, Res.one (.tmp rfl), by rw [joinL, show l.length = i by omega], rfl⟩
end Go.GH
namespace Go.GH
open Go Go.Lib
def colP (l : List Bx) (i : Nat) : Int := (pt3 l i).2.2
def hyP (l : List Bx) (i : Nat) : Bool := decide (0 < (pt3 l i).2.1)
def endP (l : List Bx) (i : Nat) : Int := colP l i + if hyP l i then 1 else -1
theorem lenP_eq (l : List Bx) (i k : Nat) : lenP l i k = endP l k - colP l i := by
  unfold lenP endP colP hyP
  by_cases h : 0 < (pt3 l k).2.1
  · rw [if_pos h, if_pos (by simpa using h)]; omega
  · rw [if_neg h, if_neg (by simpa using h)]; omega
theorem colP_eq {l : List Bx} {i : Nat} (h : i < ptN l) : colP l i = (stB l (ptQ l i).1 : Int) + (ptQ l i).2 ∧ hyP l i = decide (0 < (ptQ l i).2) := by
  unfold colP hyP
  rw [pt3_eq h]
  exact ⟨rfl, rfl⟩
theorem pts_step2 {l : List Bx} {i k : Nat} (h : boxesB l = true) (hik : i < k) (hk : k < ptN l) : colP l i < colP l k ∧ endP l i ≤ endP l k ∧ colP l i + 1 ≤ endP l k := by
  obtain ⟨c1, y1⟩ := colP_eq (show i < ptN l by omega)
  obtain ⟨c2, y2⟩ := colP_eq hk
  have h1 := ptQ_ltP h hik hk
  have h2 := ptQ_small h (show i < ptN l - 1 by omega)
  have h3 := ptQ_ok h hk
  unfold endP
  rw [c1, c2, y1, y2]
  generalize ptQ l i = a at *
  generalize ptQ l k = b at *
  obtain ⟨h21, h22, h23⟩ := h2
  rw [wAt_lt h21] at h23
  have hb0 : 0 ≤ b.2 := by
    rcases h3 with h3 | h3
    · exact h3.2.1
    · rw [h3]; exact Int.le_refl _
  have hb1 : b.1 ≤ l.length := by
    rcases h3 with h3 | h3
    · exact Nat.le_of_lt h3.1
    · rw [h3]; exact Nat.le_refl _
  simp only [decide_eq_true_eq]
  rcases h1 with h1 | ⟨h1, h4⟩
  · have h5 := stB_succ h21
    have h6 := stB_mono (l := l) (i := a.1 + 1) (k := b.1) (by omega) hb1
    unfold wlen at h5
    split <;> split <;> omega
  · rw [h1]
    split <;> split <;> omega
theorem lenP_mono {l : List Bx} {i j k n : Nat} (h : boxesB l = true) (h1 : i ≤ j) (h2 : k ≤ n) (hj : j < ptN l) (hn : n < ptN l) : lenP l j k ≤ lenP l i n := by
  rw [lenP_eq, lenP_eq]
  have h3 : colP l i ≤ colP l j := by
    rcases Nat.lt_or_ge i j with h4 | h4
    · have := (pts_step2 h h4 hj).1; omega
    · obtain rfl : i = j := by omega
      exact Int.le_refl _
  have h5 : endP l k ≤ endP l n := by
    rcases Nat.lt_or_ge k n with h4 | h4
    · exact (pts_step2 h h4 hn).2.1
    · obtain rfl : k = n := by omega
      exact Int.le_refl _
  omega
theorem lenP_pos {l : List Bx} {i k : Nat} (h : boxesB l = true) (hik : i < k) (hk : k < ptN l) : 1 ≤ lenP l i k := by
  rw [lenP_eq]
  have := (pts_step2 h hik hk).2.2
  omega
theorem stop_iff {l : List Bx} {w : Int} {i n : Nat} (h : boxesB l = true) (h1 : i < n) (hn : n < ptN l) : n < stopP l w i ↔ lenP l i n ≤ w := by
  refine ⟨stopP_fit h1, fun h2 => ?_⟩
  rcases Nat.lt_or_ge n (stopP l w i) with h3 | h3
  · exact h3
  · rcases stopP_stop (l := l) (w := w) (i := i) (by omega) with h4 | ⟨h4, h5⟩
    · omega
    · have := lenP_mono h (Nat.le_refl i) h3 (by omega) hn
      omega
/-- From a to z by lines that fit. -/
def Fit (l : List Bx) (w : Int) : Nat → List Nat → Nat → Prop
  | a, [], z => a = z
  | a, k :: ks, z => a < k ∧ k < ptN l ∧ lenP l a k ≤ w ∧ Fit l w k ks z
theorem Fit.le {l : List Bx} {w : Int} : ∀ {a z : Nat} {ks : List Nat}, Fit l w a ks z → a ≤ z
  | _, _, [], h => Nat.le_of_eq h
  | _, _, k :: ks, ⟨h1, _, _, h2⟩ => by have := h2.le; omega
theorem Fit.wider {l : List Bx} {w v : Int} (hw : w ≤ v) : ∀ {a z : Nat} {ks : List Nat}, Fit l w a ks z → Fit l v a ks z
  | _, _, [], h => h
  | _, _, k :: ks, ⟨h1, h2, h3, h4⟩ => ⟨h1, h2, by omega, h4.wider hw⟩
theorem Fit.piece {l : List Bx} {w : Int} (h : boxesB l = true) {z : Nat} (hz : z < ptN l) : ∀ {a : Nat} {ks : List Nat}, Fit l w a ks z → ∀ i, a ≤ i → i < z → lenP l i (i + 1) ≤ w
  | a, [], hf, i, h1, h2 => by have : a = z := hf; omega
  | a, k :: ks, ⟨f1, f2, f3, f4⟩, i, h1, h2 => by
    rcases Nat.lt_or_ge i k with h3 | h3
    · have := lenP_mono h (i := a) (j := i) (k := i + 1) (n := k) h1 (by omega) (by omega) f2
      omega
    · exact f4.piece h hz i h3 h2
def AllFit (l : List Bx) (w : Int) : Prop := ∀ i, i < ptN l - 1 → lenP l i (i + 1) ≤ w
theorem Fit.steps {l : List Bx} {w : Int} {z : Nat} (hz : z < ptN l) : ∀ (d a : Nat), a + d = z → (∀ i, a ≤ i → i < z → lenP l i (i + 1) ≤ w) → ∃ ks, Fit l w a ks z
  | 0, a, h, _ => ⟨[], by show a = z; omega⟩
  | d + 1, a, h, hf => by
    obtain ⟨ks, hks⟩ := Fit.steps hz d (a + 1) (by omega) (fun i h1 h2 => hf i (by omega) h2)
    exact ⟨(a + 1) :: ks, by omega, by omega, hf a (Nat.le_refl _) (by omega), hks⟩
theorem fit_iff {l : List Bx} {w : Int} (h : boxesB l = true) : (∃ ks, Fit l w 0 ks (ptN l - 1)) ↔ AllFit l w := by
  have := ptN_pos l
  refine ⟨fun ⟨ks, hk⟩ i hi => hk.piece h (by omega) i (Nat.zero_le _) hi, fun hf => ?_⟩
  exact Fit.steps (by omega) (ptN l - 1) 0 (by omega) (fun i _ hi => hf i hi)
/-- What a line costs. -/
def stepC (l : List Bx) (w pen : Int) (a k : Nat) : Int := (if k < ptN l - 1 then (w - lenP l a k) * (w - lenP l a k) else 0) + (if hyP l k then pen else 0)
def costP (l : List Bx) (w pen : Int) : Nat → List Nat → Int
  | _, [] => 0
  | a, k :: ks => stepC l w pen a k + costP l w pen k ks
theorem lineC_eq (l : List Bx) (w pen : Int) (i n : Nat) (b : Int) : lineC l w pen i n b = b + stepC l w pen i n := by
  unfold lineC stepC hyP
  simp only [decide_eq_true_eq]
  omega
theorem sq_nonneg (x : Int) : 0 ≤ x * x := by
  rcases Int.le_total 0 x with h | h
  · exact Int.mul_nonneg h h
  · exact Int.mul_nonneg_of_nonpos_of_nonpos h h
theorem stepC_nonneg {l : List Bx} {w pen : Int} {a k : Nat} (hp : 0 ≤ pen) : 0 ≤ stepC l w pen a k := by
  have := sq_nonneg (w - lenP l a k)
  unfold stepC
  split <;> split <;> omega
theorem costP_nonneg {l : List Bx} {w pen : Int} (hp : 0 ≤ pen) : ∀ {a : Nat} {ks : List Nat}, 0 ≤ costP l w pen a ks
  | _, [] => Int.le_refl _
  | a, k :: ks => by
    have := stepC_nonneg (l := l) (w := w) (a := a) (k := k) hp
    have := costP_nonneg (l := l) (w := w) hp (a := k) (ks := ks)
    show 0 ≤ stepC l w pen a k + costP l w pen k ks
    omega
/-! the search, one point at a time -/
theorem bstV_spec {l : List Bx} {w pen : Int} {i : Nat} {t : List (Int × Int)} (hp : 0 ≤ pen) (ht : ∀ d, -1 ≤ (t.getD d (0, 0)).1) : ∀ d,
    -1 ≤ (bstV l w pen i t d).1 ∧
    (∀ e, e < d → 0 ≤ (t.getD e (0, 0)).1 → 0 ≤ (bstV l w pen i t d).1 ∧ (bstV l w pen i t d).1 ≤ (t.getD e (0, 0)).1 + stepC l w pen i (i + 1 + e)) ∧
    (0 ≤ (bstV l w pen i t d).1 → ∃ e, e < d ∧ (bstV l w pen i t d).2 = ((i + 1 + e : Nat) : Int) ∧ 0 ≤ (t.getD e (0, 0)).1 ∧ (bstV l w pen i t d).1 = (t.getD e (0, 0)).1 + stepC l w pen i (i + 1 + e) ∧
      ∀ e2, e < e2 → e2 < d → 0 ≤ (t.getD e2 (0, 0)).1 → (bstV l w pen i t d).1 < (t.getD e2 (0, 0)).1 + stepC l w pen i (i + 1 + e2))
  | 0 => ⟨Int.le_refl _, fun e he => by omega, fun h => by have : (0 : Int) ≤ -1 := h; omega⟩
  | d + 1 => by
    obtain ⟨ih0, ih1, ih2⟩ := bstV_spec hp ht (l := l) (w := w) (i := i) d
    have hst := stepC_nonneg (l := l) (w := w) (a := i) (k := i + 1 + d) hp
    rw [bstV]
    unfold stepB
    rw [lineC_eq]
    generalize bstV l w pen i t d = x at *
    generalize hq : (t.getD d (0, 0)).1 = q at *
    by_cases h1 : q < 0
    · rw [if_pos h1]
      refine ⟨ih0, fun e he h0 => ?_, fun h => ?_⟩
      · rcases Nat.lt_or_ge e d with h2 | h2
        · exact ih1 e h2 h0
        · obtain rfl : e = d := by omega
          omega
      · obtain ⟨e, e1, e2, e3, e4, e5⟩ := ih2 h
        refine ⟨e, by omega, e2, e3, e4, fun k k1 k2 k3 => ?_⟩
        rcases Nat.lt_or_ge k d with h2 | h2
        · exact e5 k k1 h2 k3
        · obtain rfl : k = d := by omega
          omega
    · rw [if_neg h1]
      by_cases h2 : x.1 < 0 ∨ q + stepC l w pen i (i + 1 + d) ≤ x.1
      · rw [if_pos h2]
        dsimp only
        refine ⟨by omega, fun e he h0 => ?_, fun h => ⟨d, by omega, rfl, by omega, by omega, fun k k1 k2 => by omega⟩⟩
        rcases Nat.lt_or_ge e d with h3 | h3
        · have := ih1 e h3 h0; omega
        · obtain rfl : e = d := by omega
          omega
      · rw [if_neg h2]
        refine ⟨ih0, fun e he h0 => ?_, fun h => ?_⟩
        · rcases Nat.lt_or_ge e d with h3 | h3
          · exact ih1 e h3 h0
          · obtain rfl : e = d := by omega
            omega
        · obtain ⟨e, e1, e2, e3, e4, e5⟩ := ih2 h
          refine ⟨e, by omega, e2, e3, e4, fun k k1 k2 k3 => ?_⟩
          rcases Nat.lt_or_ge k d with h3 | h3
          · exact e5 k k1 h3 k3
          · obtain rfl : k = d := by omega
            omega
/-- The cheapest from a point on, and the next point. -/
def bestP (l : List Bx) (w pen : Int) (i : Nat) : Int × Int := (bstL l w pen (ptN l - 1)).getD i (0, 0)
theorem bstL_shift (l : List Bx) (w pen : Int) : ∀ (j d i : Nat), (bstL l w pen (j + d)).getD (d + i) (0, 0) = (bstL l w pen j).getD i (0, 0)
  | j, 0, i => by rw [Nat.zero_add]; rfl
  | j, d + 1, i => by
    rw [← Nat.add_assoc, bstL, show d + 1 + i = (d + i) + 1 by omega, List.getD_cons_succ]
    exact bstL_shift l w pen j d i
theorem bestP_last (l : List Bx) (w pen : Int) : bestP l w pen (ptN l - 1) = (0, 0) := by
  unfold bestP
  have := bstL_shift l w pen 0 (ptN l - 1) 0
  rw [Nat.zero_add, Nat.add_zero] at this
  rw [this]; rfl
theorem bestP_step {l : List Bx} (w pen : Int) {i : Nat} (hi : i < ptN l - 1) : bestP l w pen i = bstV l w pen i (bstL l w pen (ptN l - 2 - i)) (stopP l w i - (i + 1)) ∧ ∀ d, i + 1 + d ≤ ptN l - 1 → (bstL l w pen (ptN l - 2 - i)).getD d (0, 0) = bestP l w pen (i + 1 + d) := by
  unfold bestP
  refine ⟨?_, fun d hd => ?_⟩
  · have := bstL_shift l w pen (ptN l - 1 - i) i 0
    rw [show ptN l - 1 - i + i = ptN l - 1 by omega, Nat.add_zero] at this
    rw [this, show ptN l - 1 - i = (ptN l - 2 - i) + 1 by omega, bstL, List.getD_cons_zero, show ptN l - 2 - (ptN l - 2 - i) = i by omega, show ptN l - 1 - (ptN l - 2 - i) = i + 1 by omega]
  · have := bstL_shift l w pen (ptN l - 2 - i) (i + 1) d
    rw [show ptN l - 2 - i + (i + 1) = ptN l - 1 by omega] at this
    rw [this]
theorem bstL_ge {l : List Bx} {w pen : Int} (hp : 0 ≤ pen) : ∀ j d, -1 ≤ ((bstL l w pen j).getD d (0, 0)).1
  | 0, d => by
    cases d with
    | zero => show (-1 : Int) ≤ 0; omega
    | succ d => show (-1 : Int) ≤ 0; omega
  | j + 1, d => by
    rw [bstL]
    cases d with
    | zero => rw [List.getD_cons_zero]; exact (bstV_spec hp (bstL_ge hp j) _).1
    | succ d => rw [List.getD_cons_succ]; exact bstL_ge hp j d
theorem bestP_spec {l : List Bx} {w pen : Int} (hb : boxesB l = true) (hp : 0 ≤ pen) {i : Nat} (hi : i < ptN l - 1) :
    (∀ n, i < n → n < ptN l → lenP l i n ≤ w → 0 ≤ (bestP l w pen n).1 → 0 ≤ (bestP l w pen i).1 ∧ (bestP l w pen i).1 ≤ (bestP l w pen n).1 + stepC l w pen i n) ∧
    (0 ≤ (bestP l w pen i).1 → ∃ n, i < n ∧ n < ptN l ∧ lenP l i n ≤ w ∧ (bestP l w pen i).2 = (n : Int) ∧ 0 ≤ (bestP l w pen n).1 ∧ (bestP l w pen i).1 = (bestP l w pen n).1 + stepC l w pen i n ∧
      ∀ m, n < m → m < ptN l → lenP l i m ≤ w → 0 ≤ (bestP l w pen m).1 → (bestP l w pen i).1 < (bestP l w pen m).1 + stepC l w pen i m) := by
  obtain ⟨h1, h2⟩ := bestP_step w pen hi
  obtain ⟨_, h3, h4⟩ := bstV_spec (l := l) (w := w) (i := i) hp (bstL_ge hp (ptN l - 2 - i)) (stopP l w i - (i + 1))
  have hsl := stopP_le (l := l) (w := w) (i := i) (by omega)
  rw [← h1] at h3 h4
  refine ⟨fun n n1 n2 n3 n4 => ?_, fun h0 => ?_⟩
  · have h5 := (stop_iff hb n1 n2).2 n3
    have h6 := h2 (n - (i + 1)) (by omega)
    rw [show i + 1 + (n - (i + 1)) = n by omega] at h6
    have h7 := h3 (n - (i + 1)) (by omega) (by rw [h6]; exact n4)
    rw [h6, show i + 1 + (n - (i + 1)) = n by omega] at h7
    exact h7
  · obtain ⟨e, e1, e2, e3, e4, e5⟩ := h4 h0
    have h6 := h2 e (by omega)
    rw [h6] at e3 e4
    refine ⟨i + 1 + e, by omega, by omega, stopP_fit (by omega) (by omega), e2, e3, e4, fun m m1 m2 m3 m4 => ?_⟩
    have h5 := (stop_iff hb (show i < m by omega) m2).2 m3
    have h7 := h2 (m - (i + 1)) (by omega)
    rw [show i + 1 + (m - (i + 1)) = m by omega] at h7
    have h8 := e5 (m - (i + 1)) (by omega) (by omega) (by rw [h7]; exact m4)
    rw [h7, show i + 1 + (m - (i + 1)) = m by omega] at h8
    exact h8
end Go.GH
namespace Go.GH
open Go Go.Lib
def Prp (s : ByteArray) : Prop := encs (runes s) = s
theorem prp_encs {rs : List Int} (h : ∀ r ∈ rs, Utf8.valid r = true) : Prp (encs rs) := by unfold Prp; rw [runes_encs h]
theorem prp_app {x y : ByteArray} (hx : Prp x) (hy : Prp y) : runes (x ++ y) = runes x ++ runes y ∧ Prp (x ++ y) := by
  have e : x ++ y = encs (runes x ++ runes y) := by rw [encs_append, hx, hy]
  have h : runes (x ++ y) = runes x ++ runes y := by
    rw [e]
    exact runes_encs (fun r hr => (List.mem_append.1 hr).elim runes_valid runes_valid)
  exact ⟨h, by unfold Prp; rw [h]; exact e.symm⟩
theorem wlen_app {x y : ByteArray} (hx : Prp x) (hy : Prp y) : wlen (x ++ y) = wlen x + wlen y := by
  unfold wlen; rw [(prp_app hx hy).1, List.length_append]
theorem prp_sp1 : Prp sp1 ∧ wlen sp1 = 1 := ⟨by unfold Prp; decide +kernel, by decide +kernel⟩
theorem prp_hy1 : Prp hy1 ∧ wlen hy1 = 1 := ⟨by unfold Prp; decide +kernel, by decide +kernel⟩
def sumW (ws : List ByteArray) : Nat := (ws.map (fun w => wlen w + 1)).sum
theorem sumW_app (x y : List ByteArray) : sumW (x ++ y) = sumW x + sumW y := by unfold sumW; rw [List.map_append, List.sum_append]
theorem sumW_one (x : ByteArray) : sumW [x] = wlen x + 1 := by unfold sumW; simp
theorem foldl_len : ∀ (ws : List ByteArray) (w : ByteArray), Prp w → (∀ x ∈ ws, Prp x) → wlen (ws.foldl (fun a x => a ++ sp1 ++ x) w) = wlen w + sumW ws ∧ Prp (ws.foldl (fun a x => a ++ sp1 ++ x) w)
  | [], w, hw, _ => ⟨rfl, hw⟩
  | x :: ws, w, hw, h => by
    have hx := h x (List.mem_cons_self ..)
    have h1 := (prp_app hw prp_sp1.1).2
    have h2 := (prp_app h1 hx).2
    have ih := foldl_len ws (w ++ sp1 ++ x) h2 (fun y hy => h y (List.mem_cons_of_mem _ hy))
    rw [List.foldl_cons]
    refine ⟨?_, ih.2⟩
    rw [ih.1, wlen_app h1 hx, wlen_app hw prp_sp1.1, prp_sp1.2]
    unfold sumW
    rw [List.map_cons, List.sum_cons]
    omega
theorem catW_len {ws : List ByteArray} (hne : ws ≠ []) (h : ∀ x ∈ ws, Prp x) : wlen (catW ws) + 1 = sumW ws ∧ Prp (catW ws) := by
  cases ws with
  | nil => exact absurd rfl hne
  | cons w ws =>
    have := foldl_len ws w (h w (List.mem_cons_self ..)) (fun y hy => h y (List.mem_cons_of_mem _ hy))
    refine ⟨?_, this.2⟩
    show wlen (ws.foldl _ w) + 1 = _
    rw [this.1]
    unfold sumW
    rw [List.map_cons, List.sum_cons]
    omega
theorem textL_len {ln : Ln} (hne : ln.words ≠ []) (h : ∀ x ∈ ln.words, Prp x) : wlen (textL ln) + 1 = sumW ln.words + if ln.hyph then 1 else 0 := by
  have h1 := catW_len hne h
  unfold textL
  split
  · rw [wlen_app h1.2 prp_hy1.1, prp_hy1.2]; omega
  · omega
theorem sumW_wsA {l : List Bx} {a : Nat} : ∀ {b : Nat}, a ≤ b → b ≤ l.length → sumW (wsA l a b) + stB l a = stB l b
  | 0, h, _ => by
    obtain rfl : a = 0 := by omega
    rw [wsA_zero]; rfl
  | b + 1, h, hb => by
    rcases Nat.lt_or_ge b a with h1 | h1
    · obtain rfl : a = b + 1 := by omega
      rw [wsA_zero]; exact Nat.zero_add _
    · have ih := sumW_wsA (l := l) (a := a) (b := b) h1 (by omega)
      have e : wlen (encs (runes (l[b]).word)) = wlen (l[b]).word := by unfold wlen; rw [runes_encs (fun r hr => runes_valid hr)]
      rw [wsA_succ h1 (by omega), sumW_app, sumW_one, stB_succ (show b < l.length by omega), e]
      omega
theorem wsA_cons {l : List Bx} {a b : Nat} (h : a < b) (hb : b ≤ l.length) : wsA l a b = encs (wAt l a) :: wsA l (a + 1) b := by
  unfold wsA
  rw [List.drop_eq_getElem_cons (show a < (l.take b).length by simp; omega), List.map_cons, wAt_lt (show a < l.length by omega)]
  simp
theorem wAt_valid {l : List Bx} {j : Nat} {r : Int} (h : r ∈ wAt l j) : Utf8.valid r = true := by
  unfold wAt at h
  split at h
  · exact runes_valid h
  · cases h
theorem runes_wAt (l : List Bx) (j : Nat) : runes (encs (wAt l j)) = wAt l j := runes_encs (fun r hr => wAt_valid hr)
/-- The words between two break points. -/
def pcW (l : List Bx) (a b : Nat × Int) : List ByteArray :=
  if a.1 = b.1 then [encs (((wAt l a.1).take b.2.toNat).drop a.2.toNat)] else encs ((wAt l a.1).drop a.2.toNat) :: (wsA l (a.1 + 1) b.1 ++ if 0 < b.2 then [encs ((wAt l b.1).take b.2.toNat)] else [])
theorem wsC_eq {l : List Bx} {a b : Nat × Int} (ha : PtOK l a) (hb : b.1 ≤ l.length) (hab : ltP a b) : wsC l (up3 l a) (up3 l b) = pcW l a b := by
  obtain ⟨a1, a2, a3⟩ := ha
  show (if 0 < a.2 then ((if 0 < b.2 then wsA l a.1 b.1 ++ [encs ((wAt l b.1).take b.2.toNat)] else wsA l a.1 b.1)).set 0 (encs ((runes (((if 0 < b.2 then wsA l a.1 b.1 ++ [encs ((wAt l b.1).take b.2.toNat)] else wsA l a.1 b.1)).getD 0 .empty)).drop a.2.toNat)) else (if 0 < b.2 then wsA l a.1 b.1 ++ [encs ((wAt l b.1).take b.2.toNat)] else wsA l a.1 b.1)) = _
  unfold pcW
  rcases hab with h | ⟨h, h2⟩
  · rw [if_neg (show ¬ a.1 = b.1 by omega), wsA_cons h hb]
    by_cases h0 : 0 < a.2
    · rw [if_pos h0]
      split
      · rw [List.cons_append, List.getD_cons_zero, runes_wAt, List.set_cons_zero]
      · rw [List.getD_cons_zero, runes_wAt, List.set_cons_zero, List.append_nil]
    · rw [if_neg h0, show a.2.toNat = 0 by omega, List.drop_zero]
      split
      · rfl
      · rw [List.append_nil]
  · rw [if_pos h, if_pos (show 0 < b.2 by omega), ← h, wsA_zero, List.nil_append]
    have e : runes (encs ((wAt l a.1).take b.2.toNat)) = (wAt l a.1).take b.2.toNat := runes_encs (fun r hr => wAt_valid (List.mem_of_mem_take hr))
    by_cases h0 : 0 < a.2
    · rw [if_pos h0, List.getD_cons_zero, e, List.set_cons_zero]
    · rw [if_neg h0, show a.2.toNat = 0 by omega, List.drop_zero]
theorem line_words {l : List Bx} {i k : Nat} (hb : boxesB l = true) (hik : i < k) (hk : k < ptN l) : (lineP l i k).words = pcW l (ptQ l i) (ptQ l k) ∧ (lineP l i k).hyph = hyP l k := by
  refine ⟨?_, rfl⟩
  show wsC l (pt3 l i) (pt3 l k) = _
  rw [pt3_eq (show i < ptN l by omega), pt3_eq hk]
  refine wsC_eq (ptQ_small hb (by omega)) ?_ (ptQ_ltP hb hik hk)
  rcases ptQ_ok hb hk with h | h
  · exact Nat.le_of_lt h.1
  · rw [h]; exact Nat.le_refl _
/-- A piece of a box's word. -/
def Gd (l : List Bx) (s : ByteArray) : Prop := ∃ (rs : List Int) (j : Nat), s = encs rs ∧ rs ≠ [] ∧ j < l.length ∧ (∀ r ∈ rs, r ∈ wAt l j) ∧ rs.length ≤ (wAt l j).length
theorem Gd.prp {l : List Bx} {s : ByteArray} (h : Gd l s) : Prp s := by
  obtain ⟨rs, j, rfl, _, _, h, _⟩ := h
  exact prp_encs (fun r hr => wAt_valid (h r hr))
theorem Gd.word {l : List Bx} {s : ByteArray} (hb : boxesB l = true) (h : Gd l s) : wordB s = true ∧ wlen s ≠ 0 := by
  have hp := h.prp
  obtain ⟨rs, j, rfl, hne, hj, h, _⟩ := h
  have hv : ∀ r ∈ rs, Utf8.valid r = true := fun r hr => wAt_valid (h r hr)
  have hl : wlen (encs rs) = rs.length := by unfold wlen; rw [runes_encs hv]
  have hpos : rs.length ≠ 0 := fun e => hne (List.length_eq_zero_iff.1 e)
  refine ⟨wordB_iff.2 ⟨fun e => ?_, (utf8R_iff _).2 hp, ?_⟩, by rw [hl]; exact hpos⟩
  · have e2 : wlen (encs rs) = 0 := by rw [e]; rfl
    omega
  · unfold anySp
    rw [runes_encs hv, List.any_eq_false]
    intro r hr
    have h1 := (wordB_iff.1 (boxB_iff.1 ((boxesB_iff.1 hb).2 _ (List.getElem_mem hj))).1).2.2
    have h2 := h r hr
    rw [wAt_lt hj] at h2
    unfold anySp at h1
    rw [List.any_eq_false] at h1
    exact h1 r h2
theorem Gd.size {l : List Bx} {s : ByteArray} (hb : boxesB l = true) (h : Gd l s) : s.size ≤ 800 := by
  obtain ⟨rs, j, rfl, _, hj, _, h⟩ := h
  have h1 := encs_size4 rs
  have h2 := (bnds_of hb).wlen _ (List.getElem_mem hj)
  rw [wAt_lt hj] at h
  unfold wlen at h2
  omega
theorem wAt_ne {l : List Bx} (hb : boxesB l = true) {j : Nat} (hj : j < l.length) : wAt l j ≠ [] := by
  intro e
  have h3 := (bnds_of hb).cor _ (List.getElem_mem hj)
  rw [wAt_lt hj] at e
  rw [e] at h3
  exact (wordB_iff.1 (boxB_iff.1 ((boxesB_iff.1 hb).2 _ (List.getElem_mem hj))).1).1 h3.symm
theorem wsA_gd {l : List Bx} (hb : boxesB l = true) {a b : Nat} (hbl : b ≤ l.length) : ∀ s ∈ wsA l a b, Gd l s := by
  intro s hs
  unfold wsA at hs
  obtain ⟨x, hx, rfl⟩ := List.mem_map.1 hs
  obtain ⟨j, hj, rfl⟩ := List.mem_iff_getElem.1 (List.mem_of_mem_take (List.mem_of_mem_drop hx))
  exact ⟨runes (l[j]).word, j, rfl, by have := wAt_ne hb hj; rw [wAt_lt hj] at this; exact this, hj, fun r hr => by rw [wAt_lt hj]; exact hr, by rw [wAt_lt hj]; exact Nat.le_refl _⟩
theorem pcW_gd {l : List Bx} (hb : boxesB l = true) {a b : Nat × Int} (ha : PtOK l a) (hbo : PtOK l b ∨ b = (l.length, 0)) (hab : ltP a b) : pcW l a b ≠ [] ∧ ∀ s ∈ pcW l a b, Gd l s := by
  obtain ⟨a1, a2, a3⟩ := ha
  unfold pcW
  rcases hab with h | ⟨h, h2⟩
  · rw [if_neg (show ¬ a.1 = b.1 by omega)]
    refine ⟨by simp, fun s hs => ?_⟩
    rcases List.mem_cons.1 hs with rfl | hs
    · refine ⟨_, a.1, rfl, ?_, a1, fun r hr => List.mem_of_mem_drop hr, by rw [List.length_drop]; omega⟩
      intro e
      have := congrArg List.length e
      rw [List.length_drop, List.length_nil] at this
      omega
    · rcases List.mem_append.1 hs with hs | hs
      · exact wsA_gd hb (by rcases hbo with h3 | h3; exact Nat.le_of_lt h3.1; rw [h3]; exact Nat.le_refl _) s hs
      · split at hs
        · rename_i h4
          rw [List.mem_singleton] at hs
          subst hs
          have hbl : b.1 < l.length := by
            rcases hbo with h5 | h5
            · exact h5.1
            · rw [h5] at h4; simp at h4
          refine ⟨_, b.1, rfl, ?_, hbl, fun r hr => List.mem_of_mem_take hr, by rw [List.length_take]; omega⟩
          intro e
          have := congrArg List.length e
          have hne := wAt_ne hb hbl
          have : (wAt l b.1).length ≠ 0 := fun e => hne (List.length_eq_zero_iff.1 e)
          rw [List.length_take, List.length_nil] at *
          omega
        · cases hs
  · rw [if_pos h]
    refine ⟨by simp, fun s hs => ?_⟩
    rw [List.mem_singleton] at hs
    subst hs
    have hb3 : b.2 < ((wAt l b.1).length : Int) := by
      rcases hbo with h5 | h5
      · exact h5.2.2
      · rw [h5] at h2; dsimp only at h2; omega
    refine ⟨_, a.1, rfl, ?_, a1, fun r hr => List.mem_of_mem_take (List.mem_of_mem_drop hr), by rw [List.length_drop, List.length_take]; omega⟩
    intro e
    have := congrArg List.length e
    rw [List.length_drop, List.length_take, List.length_nil] at this
    rw [h] at this
    omega
theorem line_gd {l : List Bx} {i k : Nat} (hb : boxesB l = true) (hik : i < k) (hk : k < ptN l) : (lineP l i k).words ≠ [] ∧ ∀ s ∈ (lineP l i k).words, Gd l s := by
  rw [(line_words hb hik hk).1]
  exact pcW_gd hb (ptQ_small hb (by omega)) (ptQ_ok hb hk) (ptQ_ltP hb hik hk)
theorem pcW_length {l : List Bx} {a b : Nat × Int} (hb : b.1 ≤ l.length) : (pcW l a b).length ≤ l.length + 2 := by
  unfold pcW
  split
  · simp
  · rw [List.length_cons, List.length_append, wsA_len hb]
    split
    · rw [List.length_singleton]; omega
    · rw [List.length_nil]; omega
theorem line_ok {l : List Bx} {i k : Nat} (hb : boxesB l = true) (hik : i < k) (hk : k < ptN l) : LnOK (lineP l i k) := by
  have h1 := line_gd hb hik hk
  have h2 := bnds_of hb
  refine ⟨?_, fun s hs => by have := (h1.2 s hs).size hb; omega⟩
  rw [(line_words hb hik hk).1]
  have h3 : (ptQ l k).1 ≤ l.length := by
    rcases ptQ_ok hb hk with h | h
    · exact Nat.le_of_lt h.1
    · rw [h]; exact Nat.le_refl _
  have := pcW_length (l := l) (a := ptQ l i) h3
  have := h2.len
  omega
theorem wlen_encs {rs : List Int} (h : ∀ r ∈ rs, Utf8.valid r = true) : wlen (encs rs) = rs.length := by unfold wlen; rw [runes_encs h]
theorem pcW_sum {l : List Bx} {a b : Nat × Int} (ha : PtOK l a) (hbo : PtOK l b ∨ b = (l.length, 0)) (hab : ltP a b) : (sumW (pcW l a b) : Int) = (stB l b.1 : Int) + b.2 - ((stB l a.1 : Int) + a.2) + if 0 < b.2 then 1 else 0 := by
  obtain ⟨a1, a2, a3⟩ := ha
  have hs := stB_succ a1
  have hw : wlen (l[a.1]).word = (wAt l a.1).length := by rw [wAt_lt a1]; rfl
  unfold pcW
  rcases hab with h | ⟨h, h2⟩
  · have hbl : b.1 ≤ l.length := by
      rcases hbo with h3 | h3
      · exact Nat.le_of_lt h3.1
      · rw [h3]; exact Nat.le_refl _
    have hA := sumW_wsA (l := l) (a := a.1 + 1) (b := b.1) (by omega) hbl
    rw [if_neg (show ¬ a.1 = b.1 by omega), ← List.singleton_append, sumW_app, sumW_app, sumW_one, wlen_encs (fun r hr => wAt_valid (List.mem_of_mem_drop hr)), List.length_drop]
    by_cases h0 : 0 < b.2
    · have hb3 : b.2 < ((wAt l b.1).length : Int) := by
        rcases hbo with h5 | h5
        · exact h5.2.2
        · rw [h5] at h0; simp at h0
      rw [if_pos h0, if_pos h0, sumW_one, wlen_encs (fun r hr => wAt_valid (List.mem_of_mem_take hr)), List.length_take]
      omega
    · have hb0 : b.2 = 0 := by
        rcases hbo with h5 | h5
        · have := h5.2.1; omega
        · rw [h5]
      have e0 : sumW [] = 0 := rfl
      rw [if_neg h0, if_neg h0, e0]
      omega
  · have hb3 : b.2 < ((wAt l b.1).length : Int) := by
      rcases hbo with h5 | h5
      · exact h5.2.2
      · rw [h5] at h2; dsimp only at h2; omega
    rw [if_pos h, if_pos (show 0 < b.2 by omega), sumW_one, wlen_encs (fun r hr => wAt_valid (List.mem_of_mem_take (List.mem_of_mem_drop hr))), List.length_drop, List.length_take, ← h]
    rw [← h] at hb3
    omega
/-- The text of a line is as long as the columns between its points say. -/
theorem line_len {l : List Bx} {i k : Nat} (hb : boxesB l = true) (hik : i < k) (hk : k < ptN l) : (wlen (textL (lineP l i k)) : Int) = lenP l i k := by
  have h1 := line_gd hb hik hk
  have h2 := textL_len h1.1 (fun x hx => (h1.2 x hx).prp)
  rw [(line_words hb hik hk).2, (line_words hb hik hk).1] at h2
  have h3 := pcW_sum (ptQ_small hb (show i < ptN l - 1 by omega)) (ptQ_ok hb hk) (ptQ_ltP hb hik hk)
  obtain ⟨c1, _⟩ := colP_eq (show i < ptN l by omega)
  obtain ⟨c2, y2⟩ := colP_eq hk
  rw [lenP_eq]
  unfold endP
  rw [c1, c2, y2]
  rw [y2] at h2
  simp only [decide_eq_true_eq] at h2 ⊢
  by_cases h0 : 0 < (ptQ l k).2
  · rw [if_pos h0] at h2 h3 ⊢; omega
  · rw [if_neg h0] at h2 h3 ⊢; omega
theorem free_line {l : List Bx} {w : Int} {i k : Nat} (hb : boxesB l = true) (hik : i < k) (hk : k < ptN l) : freeL w (lineP l i k) = w - lenP l i k := by
  unfold freeL; rw [line_len hb hik hk]
/-! what the reference builds -/
def btwW (l : List Bx) (a b : Nat × Int) (w : Nat) : List ByteArray :=
  if (if w = a.1 then a.2 else 0) < (if w = b.1 then b.2 else ((wAt l w).length : Int)) then [encs (((wAt l w).drop (if w = a.1 then a.2 else 0).toNat).take ((if w = b.1 then b.2 else ((wAt l w).length : Int)).toNat - (if w = a.1 then a.2 else 0).toNat))] else []
def btwN (l : List Bx) (a b : Nat × Int) : Nat → List ByteArray
  | 0 => []
  | j + 1 => btwN l a b j ++ btwW l a b (a.1 + j)
theorem btwN_len (l : List Bx) (a b : Nat × Int) : ∀ j, (btwN l a b j).length ≤ j
  | 0 => Nat.le_refl _
  | j + 1 => by
    have ih := btwN_len l a b j
    have h : (btwW l a b (a.1 + j)).length ≤ 1 := by
      have key : ∀ (p : Prop) [Decidable p] (x : ByteArray), (if p then [x] else []).length ≤ 1 := fun p _ x => by
        split
        · exact Nat.le_refl _
        · exact Nat.zero_le _
      exact key _ _
    show (btwN l a b j ++ btwW l a b (a.1 + j)).length ≤ _
    rw [List.length_append]
    omega
theorem btw_mid {l : List Bx} (hb : boxesB l = true) {a b : Nat × Int} (ha : PtOK l a) (hbl : b.1 ≤ l.length) (h : a.1 < b.1) : ∀ j, 0 < j → j ≤ b.1 - a.1 → btwN l a b j = encs ((wAt l a.1).drop a.2.toNat) :: wsA l (a.1 + 1) (a.1 + j)
  | 0, h0, _ => absurd h0 (Nat.lt_irrefl _)
  | 1, _, _ => by
    obtain ⟨a1, a2, a3⟩ := ha
    show [] ++ btwW l a b (a.1 + 0) = _
    rw [List.nil_append, Nat.add_zero, wsA_zero]
    unfold btwW
    rw [if_pos rfl, if_neg (show ¬ a.1 = b.1 by omega), if_pos a3, List.take_of_length_le (by rw [List.length_drop]; omega)]
  | j + 2, _, hj => by
    have ih := btw_mid hb ha hbl h (j + 1) (by omega) (by omega)
    have hjl : a.1 + (j + 1) < l.length := by omega
    show btwN l a b (j + 1) ++ btwW l a b (a.1 + (j + 1)) = _
    have hne := wAt_ne hb hjl
    have hpos : 0 < (wAt l (a.1 + (j + 1))).length := List.length_pos_iff.2 hne
    rw [ih, show a.1 + (j + 2) = a.1 + (j + 1) + 1 by omega, wsA_succ (show a.1 + 1 ≤ a.1 + (j + 1) by omega) hjl, ← wAt_lt hjl]
    unfold btwW
    rw [if_neg (show ¬ a.1 + (j + 1) = a.1 by omega), if_neg (show ¬ a.1 + (j + 1) = b.1 by omega), if_pos (by omega), List.cons_append]
    congr 1
    simp
def btwL (l : List Bx) (a b : Nat × Int) : Nat := min (b.1 + 1) l.length - a.1
theorem btw_eq {l : List Bx} (hb : boxesB l = true) {a b : Nat × Int} (ha : PtOK l a) (hbo : PtOK l b ∨ b = (l.length, 0)) (hab : ltP a b) : btwN l a b (btwL l a b) = pcW l a b := by
  have ha' := ha
  obtain ⟨a1, a2, a3⟩ := ha
  unfold btwL
  rcases hab with h | ⟨h, h2⟩
  · unfold pcW
    rw [if_neg (show ¬ a.1 = b.1 by omega)]
    rcases hbo with hbo | hbo
    · have hbl := hbo.1
      rw [show min (b.1 + 1) l.length - a.1 = (b.1 - a.1) + 1 by omega]
      show btwN l a b (b.1 - a.1) ++ btwW l a b (a.1 + (b.1 - a.1)) = _
      rw [btw_mid hb ha' (by omega) h _ (by omega) (Nat.le_refl _), show a.1 + (b.1 - a.1) = b.1 by omega, List.cons_append]
      unfold btwW
      rw [if_neg (show ¬ b.1 = a.1 by omega), if_pos rfl]
      congr 2
    · rw [hbo] at h ⊢
      dsimp only at h ⊢
      rw [show min (l.length + 1) l.length - a.1 = l.length - a.1 by omega, btw_mid hb ha' (Nat.le_refl _) h _ (by omega) (by omega), show a.1 + (l.length - a.1) = l.length by omega]
      simp
  · unfold pcW
    have hbl : b.1 < l.length := by omega
    rw [if_pos h, show min (b.1 + 1) l.length - a.1 = 1 by omega]
    show [] ++ btwW l a b (a.1 + 0) = _
    unfold btwW
    rw [List.nil_append, Nat.add_zero, if_pos rfl, if_pos h, if_pos h2, List.drop_take]
end Go.GH
namespace Go.GH
open Go Go.Lib
theorem best_le {l : List Bx} {w pen : Int} (hb : boxesB l = true) (hp : 0 ≤ pen) : ∀ {i : Nat} {ks : List Nat}, Fit l w i ks (ptN l - 1) → 0 ≤ (bestP l w pen i).1 ∧ (bestP l w pen i).1 ≤ costP l w pen i ks
  | i, [], h => by
    have h1 : i = ptN l - 1 := h
    rw [h1, bestP_last]
    exact ⟨Int.le_refl _, Int.le_refl _⟩
  | i, k :: ks, ⟨h1, h2, h3, h4⟩ => by
    have ih := best_le hb hp h4
    have h5 := (bestP_spec (w := w) hb hp (show i < ptN l - 1 by have := h4.le; omega)).1 k h1 h2 h3 ih.1
    refine ⟨h5.1, ?_⟩
    show _ ≤ stepC l w pen i k + costP l w pen k ks
    omega
def nextL (l : List Bx) (w pen : Int) : List Int := (bstL l w pen (ptN l - 1)).map (·.2)
theorem nextL_at (l : List Bx) (w pen : Int) (i : Nat) : (nextL l w pen).getD i 0 = (bestP l w pen i).2 := by
  unfold nextL bestP
  rw [List.getD_eq_getElem?_getD, List.getD_eq_getElem?_getD, List.getElem?_map]
  cases (bstL l w pen (ptN l - 1))[i]? <;> rfl
theorem best_way {l : List Bx} {w pen : Int} (hb : boxesB l = true) (hp : 0 ≤ pen) : ∀ (f i : Nat), i ≤ ptN l - 1 → ptN l - 1 < f + i → 0 ≤ (bestP l w pen i).1 →
    Fit l w i (pathF (ptN l - 1) (nextL l w pen) f i) (ptN l - 1) ∧ costP l w pen i (pathF (ptN l - 1) (nextL l w pen) f i) = (bestP l w pen i).1
  | 0, i, h1, h2, _ => by omega
  | f + 1, i, h1, h2, h0 => by
    rw [pathF]
    by_cases hi : i < ptN l - 1
    · rw [if_pos hi]
      obtain ⟨n, n1, n2, n3, n4, n5, n6, _⟩ := (bestP_spec (w := w) hb hp hi).2 h0
      have ih := best_way hb hp f n (by omega) (by omega) n5
      rw [nextL_at, n4, Int.toNat_natCast]
      refine ⟨⟨n1, n2, n3, ih.1⟩, ?_⟩
      show stepC l w pen i n + costP l w pen n _ = _
      rw [ih.2, n6]; omega
    · rw [if_neg hi]
      have h3 : i = ptN l - 1 := by omega
      refine ⟨h3, ?_⟩
      rw [h3, bestP_last]; rfl
theorem best_iff {l : List Bx} {w pen : Int} (hb : boxesB l = true) (hp : 0 ≤ pen) : 0 ≤ (bestP l w pen 0).1 ↔ AllFit l w := by
  have h1 := ptN_pos l
  refine ⟨fun h => (fit_iff hb).1 ⟨_, (best_way hb hp (ptN l) 0 (Nat.zero_le _) (by omega) h).1⟩, fun h => ?_⟩
  obtain ⟨ks, hk⟩ := (fit_iff hb).2 h
  exact (best_le hb hp hk).1
/-! greedy -/
theorem greedy_fit {l : List Bx} {w : Int} (hb : boxesB l = true) : ∀ (f i : Nat) (ks : List Nat), i ≤ ptN l - 1 → ptN l - 1 < f + i → greedyF l w f i = some ks → Fit l w i ks (ptN l - 1)
  | 0, i, ks, h1, h2, _ => by omega
  | f + 1, i, ks, h1, h2, h => by
    have hsg := stopP_gt l w i
    by_cases hi : i < ptN l - 1
    · have hsl := stopP_le (l := l) (w := w) (i := i) (by omega)
      by_cases hs : stopP l w i - 1 = i
      · rw [greedyF_none hi hs (by omega)] at h; cases h
      · rw [greedyF_go hi hs (by omega)] at h
        obtain ⟨ks2, h3, rfl⟩ := Option.map_eq_some_iff.1 h
        exact ⟨by omega, by omega, stopP_fit (by omega) (by omega), greedy_fit hb f _ ks2 (by omega) (by omega) h3⟩
    · rw [greedyF_end hi] at h
      obtain rfl := Option.some.inj h
      show i = _
      omega
theorem greedy_ex {l : List Bx} {w : Int} (hb : boxesB l = true) (hf : AllFit l w) : ∀ (f i : Nat), ∃ ks, greedyF l w f i = some ks
  | 0, i => ⟨[], rfl⟩
  | f + 1, i => by
    have hsg := stopP_gt l w i
    by_cases hi : i < ptN l - 1
    · have h1 := (stop_iff hb (show i < i + 1 by omega) (by omega)).2 (hf i hi)
      obtain ⟨ks, hk⟩ := greedy_ex hb hf f (stopP l w i - 1)
      rw [greedyF_go hi (by omega) (by omega)]
      exact ⟨_, by rw [show f + 1 - 1 = f from rfl, hk]; rfl⟩
    · exact ⟨[], greedyF_end hi⟩
theorem greedy_min {l : List Bx} {w : Int} (hb : boxesB l = true) : ∀ (f i j : Nat) (ks qs : List Nat), i ≤ ptN l - 1 → j ≤ i → greedyF l w f i = some ks → Fit l w j qs (ptN l - 1) → ks.length ≤ qs.length
  | 0, i, j, ks, qs, h1, h2, h, _ => by
    obtain rfl := Option.some.inj (show some [] = some ks from h)
    exact Nat.zero_le _
  | f + 1, i, j, ks, qs, h1, h2, h, hq => by
    have hsg := stopP_gt l w i
    by_cases hi : i < ptN l - 1
    · have hsl := stopP_le (l := l) (w := w) (i := i) (by omega)
      by_cases hs : stopP l w i - 1 = i
      · rw [greedyF_none hi hs (by omega)] at h; cases h
      · rw [greedyF_go hi hs (by omega)] at h
        obtain ⟨ks2, h3, rfl⟩ := Option.map_eq_some_iff.1 h
        cases qs with
        | nil => have h4 : j = ptN l - 1 := hq; omega
        | cons k qs =>
          obtain ⟨q1, q2, q3, q4⟩ := hq
          have h5 : k ≤ stopP l w i - 1 := by
            rcases Nat.lt_or_ge k (stopP l w i) with h6 | h6
            · omega
            · have h7 := lenP_mono hb (i := j) (j := i) (k := k) (n := k) h2 (Nat.le_refl _) (by omega) q2
              have h8 := (stop_iff (w := w) hb (show i < k by omega) q2).2 (by omega)
              omega
          have := greedy_min hb f _ k ks2 qs (by omega) h5 h3 q4
          rw [List.length_cons, List.length_cons]; omega
    · rw [greedyF_end hi] at h
      obtain rfl := Option.some.inj h
      exact Nat.zero_le _
theorem greedy_some {l : List Bx} {w : Int} (hb : boxesB l = true) : (∃ ks, greedyF l w (ptN l) 0 = some ks) ↔ AllFit l w := by
  have h1 := ptN_pos l
  exact ⟨fun ⟨ks, h⟩ => (fit_iff hb).1 ⟨ks, greedy_fit hb _ _ _ (Nat.zero_le _) (by omega) h⟩, fun h => greedy_ex hb h _ _⟩
/-! counting -/
def cntP (l : List Bx) (w : Int) (i : Nat) : Int := (brkL l w (ptN l - 1)).getD i 0
theorem brkL_shift (l : List Bx) (w : Int) : ∀ (j d i : Nat), (brkL l w (j + d)).getD (d + i) 0 = (brkL l w j).getD i 0
  | j, 0, i => by rw [Nat.zero_add]; rfl
  | j, d + 1, i => by
    rw [← Nat.add_assoc, brkL, show d + 1 + i = (d + i) + 1 by omega, List.getD_cons_succ]
    exact brkL_shift l w j d i
theorem cntP_last (l : List Bx) (w : Int) : cntP l w (ptN l - 1) = 1 := by
  unfold cntP
  have := brkL_shift l w 0 (ptN l - 1) 0
  rw [Nat.zero_add, Nat.add_zero] at this
  rw [this]; rfl
theorem cntP_step {l : List Bx} (w : Int) {i : Nat} (hi : i < ptN l - 1) : cntP l w i = brkV (brkL l w (ptN l - 2 - i)) (stopP l w i - (i + 1)) ∧ ∀ d, i + 1 + d ≤ ptN l - 1 → (brkL l w (ptN l - 2 - i)).getD d 0 = cntP l w (i + 1 + d) := by
  unfold cntP
  refine ⟨?_, fun d hd => ?_⟩
  · have := brkL_shift l w (ptN l - 1 - i) i 0
    rw [show ptN l - 1 - i + i = ptN l - 1 by omega, Nat.add_zero] at this
    rw [this, show ptN l - 1 - i = (ptN l - 2 - i) + 1 by omega, brkL, List.getD_cons_zero, show ptN l - 2 - (ptN l - 2 - i) = i by omega, show ptN l - 1 - (ptN l - 2 - i) = i + 1 by omega]
  · have := brkL_shift l w (ptN l - 2 - i) (i + 1) d
    rw [show ptN l - 2 - i + (i + 1) = ptN l - 1 by omega] at this
    rw [this]
theorem brkL_nn (l : List Bx) (w : Int) (j d : Nat) : 0 ≤ (brkL l w j).getD d 0 := by
  rw [List.getD_eq_getElem?_getD]
  rcases Nat.lt_or_ge d (brkL l w j).length with h | h
  · rw [List.getElem?_eq_getElem h]; exact (brkL_bound l w j _ (List.getElem_mem h)).1
  · rw [List.getElem?_eq_none h]; exact Int.le_refl _
theorem minC_mono {x y : Int} (h : x ≤ y) : minC x ≤ minC y := by unfold minC; split <;> split <;> omega
theorem brkV_nn {t : List Int} (h : ∀ d, 0 ≤ t.getD d 0) : ∀ d, 0 ≤ brkV t d
  | 0 => Int.le_refl _
  | d + 1 => by
    have := brkV_nn h d
    have := h d
    exact (minC_bound (by omega)).1
theorem brkV_mono {t u : List Int} (h : ∀ d, 0 ≤ t.getD d 0 ∧ t.getD d 0 ≤ u.getD d 0) : ∀ d e, d ≤ e → brkV t d ≤ brkV u e
  | 0, e, _ => brkV_nn (fun d => by have := h d; omega) e
  | d + 1, 0, he => by omega
  | d + 1, e + 1, he => by
    rcases Nat.lt_or_ge d e with h1 | h1
    · have h2 := brkV_mono h (d + 1) e (by omega)
      have h3 := h e
      have h4 : minC (brkV u e + 0) ≤ minC (brkV u e + u.getD e 0) := minC_mono (by omega)
      have h5 : brkV t (d + 1) = minC (brkV t (d + 1)) := by
        show minC _ = minC (minC _)
        unfold minC
        split <;> simp_all
      show brkV t (d + 1) ≤ minC (brkV u e + u.getD e 0)
      rw [h5]
      exact Int.le_trans (minC_mono (show brkV t (d + 1) ≤ brkV u e + 0 by omega)) h4
    · obtain rfl : d = e := by omega
      have h2 := brkV_mono h d d (Nat.le_refl _)
      have h3 := h d
      exact minC_mono (by omega)
theorem stopP_wider {l : List Bx} {w v : Int} (hb : boxesB l = true) (hw : w ≤ v) {i : Nat} (hi : i < ptN l) : stopP l w i ≤ stopP l v i := by
  have h1 := stopP_gt l v i
  have h2 := stopP_le (l := l) (w := w) hi
  rcases Nat.lt_or_ge (stopP l v i) (stopP l w i) with h3 | h3
  · have h4 := stopP_fit (l := l) (w := w) (i := i) (n := stopP l v i) h1 h3
    have h5 := (stop_iff (w := v) hb h1 (by omega)).2 (by omega)
    omega
  · exact h3
theorem brkL_wider {l : List Bx} {w v : Int} (hb : boxesB l = true) (hw : w ≤ v) : ∀ j, j ≤ ptN l - 1 → ∀ d, (brkL l w j).getD d 0 ≤ (brkL l v j).getD d 0
  | 0, _, d => Int.le_refl _
  | j + 1, hj, d => by
    have h1 := ptN_pos l
    rw [brkL, brkL]
    cases d with
    | zero =>
      rw [List.getD_cons_zero, List.getD_cons_zero]
      have h2 := stopP_wider hb hw (i := ptN l - 2 - j) (by omega)
      exact brkV_mono (fun d => ⟨brkL_nn l w j d, brkL_wider hb hw j (by omega) d⟩) _ _ (by omega)
    | succ d =>
      rw [List.getD_cons_succ, List.getD_cons_succ]
      exact brkL_wider hb hw j (by omega) d
theorem brkV_pos {t : List Int} (h : ∀ d, 0 ≤ t.getD d 0) : ∀ d, 0 < brkV t d ↔ ∃ e, e < d ∧ 0 < t.getD e 0
  | 0 => ⟨fun h => absurd h (Int.lt_irrefl _), fun ⟨e, h, _⟩ => by omega⟩
  | d + 1 => by
    have ih := brkV_pos h d
    have h1 := brkV_nn h d
    have h2 := h d
    have h3 : 0 < brkV t (d + 1) ↔ 0 < brkV t d + t.getD d 0 := by
      show 0 < minC _ ↔ _
      unfold minC
      split <;> omega
    rw [h3]
    constructor
    · intro h4
      rcases Int.lt_or_le 0 (t.getD d 0) with h5 | h5
      · exact ⟨d, by omega, h5⟩
      · obtain ⟨e, h6, h7⟩ := ih.1 (by omega)
        exact ⟨e, by omega, h7⟩
    · rintro ⟨e, h6, h7⟩
      rcases Nat.lt_or_ge e d with h8 | h8
      · have := ih.2 ⟨e, h8, h7⟩; omega
      · obtain rfl : e = d := by omega
        omega
theorem cnt_fit {l : List Bx} {w : Int} (hb : boxesB l = true) : ∀ {i : Nat} {ks : List Nat}, Fit l w i ks (ptN l - 1) → 0 < cntP l w i
  | i, [], h => by
    have h1 : i = ptN l - 1 := h
    rw [h1, cntP_last]; omega
  | i, k :: ks, ⟨h1, h2, h3, h4⟩ => by
    have ih := cnt_fit hb h4
    obtain ⟨c1, c2⟩ := cntP_step w (show i < ptN l - 1 by have := h4.le; omega)
    rw [c1]
    refine (brkV_pos (brkL_nn l w _) _).2 ⟨k - (i + 1), ?_, ?_⟩
    · have := (stop_iff hb h1 h2).2 h3; omega
    · rw [c2 _ (by omega), show i + 1 + (k - (i + 1)) = k by omega]; exact ih
theorem fit_cnt {l : List Bx} {w : Int} (hb : boxesB l = true) : ∀ (f i : Nat), i ≤ ptN l - 1 → ptN l - 1 < f + i → 0 < cntP l w i → ∃ ks, Fit l w i ks (ptN l - 1)
  | 0, i, h1, h2, _ => by omega
  | f + 1, i, h1, h2, h => by
    by_cases hi : i < ptN l - 1
    · obtain ⟨c1, c2⟩ := cntP_step w hi
      have hsl := stopP_le (l := l) (w := w) (i := i) (by omega)
      rw [c1] at h
      obtain ⟨e, e1, e2⟩ := (brkV_pos (brkL_nn l w _) _).1 h
      rw [c2 _ (by omega)] at e2
      obtain ⟨ks, hk⟩ := fit_cnt hb f (i + 1 + e) (by omega) (by omega) e2
      exact ⟨(i + 1 + e) :: ks, by omega, by omega, stopP_fit (by omega) (by omega), hk⟩
    · exact ⟨[], by show i = _; omega⟩
theorem cnt_iff {l : List Bx} {w : Int} (hb : boxesB l = true) : 0 < cntP l w 0 ↔ AllFit l w := by
  have h1 := ptN_pos l
  refine ⟨fun h => (fit_iff hb).1 (fit_cnt hb (ptN l) 0 (Nat.zero_le _) (by omega) h), fun h => ?_⟩
  obtain ⟨ks, hk⟩ := (fit_iff hb).2 h
  exact cnt_fit hb hk
theorem cnt_wider {l : List Bx} {w v : Int} (hb : boxesB l = true) (hw : w ≤ v) : cntP l w 0 ≤ cntP l v 0 := brkL_wider hb hw _ (Nat.le_refl _) 0
theorem AllFit.wider {l : List Bx} {w v : Int} (hw : w ≤ v) (h : AllFit l w) : AllFit l v := fun i hi => by have := h i hi; omega
end Go.GH
namespace Go.GH
open Go Go.Lib
theorem linesOf_len (l : List Bx) : ∀ (a : Nat) (ks : List Nat), (linesOf l a ks).length = ks.length
  | _, [] => rfl
  | a, k :: ks => by rw [linesOf, List.length_cons, List.length_cons, linesOf_len l k ks]
theorem valid_of {l : List Bx} {w : Int} (h : validL l w = true) : (1 ≤ w ∧ w ≤ 200) ∧ boxesB l = true := by
  unfold validL at h
  rw [Bool.and_eq_true, wideB_iff] at h
  exact h
theorem valid_mk {l : List Bx} {w : Int} (h1 : 1 ≤ w) (h2 : w ≤ 200) (h : boxesB l = true) : validL l w = true := by
  unfold validL; rw [Bool.and_eq_true, wideB_iff]; exact ⟨⟨h1, h2⟩, h⟩
theorem greedyR_ok {l : List Bx} {w : Int} (hv : validL l w = true) :
    ((greedyR l w).2 = 0 ∧ AllFit l w ∧ ∃ ks, Fit l w 0 ks (ptN l - 1) ∧ (greedyR l w).1 = linesOf l 0 ks ∧ ∀ qs, Fit l w 0 qs (ptN l - 1) → ks.length ≤ qs.length) ∨ ((greedyR l w).2 = 2 ∧ ¬ AllFit l w ∧ (greedyR l w).1 = []) := by
  have hb := (valid_of hv).2
  have hpos := ptN_pos l
  unfold greedyR
  rw [if_pos hv]
  cases h : greedyF l w (ptN l) 0 with
  | none =>
    have hn : ¬ AllFit l w := fun h2 => by
      obtain ⟨ks, h3⟩ := (greedy_some hb).2 h2
      rw [h] at h3; cases h3
    exact .inr ⟨rfl, hn, rfl⟩
  | some ks => exact .inl ⟨rfl, (greedy_some hb).1 ⟨ks, h⟩, ks, greedy_fit hb _ _ _ (Nat.zero_le _) (by omega) h, rfl, fun qs hq => greedy_min hb _ _ _ _ _ (Nat.zero_le _) (Nat.le_refl _) h hq⟩
theorem greedyR_bad {l : List Bx} {w : Int} (hv : validL l w = false) : greedyR l w = ([], 1) := by unfold greedyR; rw [if_neg (by rw [hv]; simp)]
theorem breaksR_ok {l : List Bx} {w : Int} (hv : validL l w = true) : breaksR l w = (cntP l w 0, 0) := by unfold breaksR; rw [if_pos hv]; rfl
theorem breaksR_bad {l : List Bx} {w : Int} (hv : validL l w = false) : breaksR l w = (0, 1) := by unfold breaksR; rw [if_neg (by rw [hv]; simp)]
theorem linesR_ok {l : List Bx} {w pen : Int} (hv : validL l w = true) (hp : penB pen = true) :
    ((linesR l w pen).2.2 = 0 ∧ AllFit l w ∧ ∃ ks, Fit l w 0 ks (ptN l - 1) ∧ (linesR l w pen).1 = linesOf l 0 ks ∧ costP l w pen 0 ks = (linesR l w pen).2.1 ∧ ∀ qs, Fit l w 0 qs (ptN l - 1) → (linesR l w pen).2.1 ≤ costP l w pen 0 qs) ∨ ((linesR l w pen).2.2 = 2 ∧ ¬ AllFit l w ∧ (linesR l w pen).2.1 = 0 ∧ (linesR l w pen).1 = []) := by
  have hb := (valid_of hv).2
  have hp0 := (penB_iff.1 hp).1
  have hpos := ptN_pos l
  have hbi := best_iff (w := w) hb hp0
  have hbp : ((bstL l w pen (ptN l - 1)).getD 0 (0, 0)).1 = (bestP l w pen 0).1 := rfl
  unfold linesR
  rw [if_pos (by rw [hv, hp]; rfl), hbp]
  by_cases h : (bestP l w pen 0).1 < 0
  · rw [if_pos h]
    exact .inr ⟨rfl, fun h2 => by have := hbi.2 h2; omega, rfl, rfl⟩
  · rw [if_neg h]
    have hw := best_way hb hp0 (ptN l) 0 (Nat.zero_le _) (by omega) (show 0 ≤ (bestP l w pen 0).1 by omega)
    exact .inl ⟨rfl, hbi.1 (by omega), _, hw.1, rfl, hw.2, fun qs hq => (best_le hb hp0 hq).2⟩
theorem linesR_bad {l : List Bx} {w pen : Int} (hv : validL l w = false ∨ penB pen = false) : linesR l w pen = ([], 0, 1) := by
  unfold linesR
  rw [if_neg (by rcases hv with h | h <;> rw [h] <;> simp)]
/-! penalties -/
def hysP (l : List Bx) (ks : List Nat) : Nat := (ks.filter (hyP l)).length
theorem hyphN_lines (l : List Bx) : ∀ (a : Nat) (ks : List Nat), hyphN (linesOf l a ks) = hysP l ks
  | _, [] => rfl
  | a, k :: ks => by
    have ih := hyphN_lines l k ks
    unfold hyphN hysP at *
    rw [linesOf, List.filter_cons, List.filter_cons]
    have e : (lineP l a k).hyph = hyP l k := rfl
    rw [e]
    split
    · rw [List.length_cons, List.length_cons, ih]
    · exact ih
theorem costP_more (l : List Bx) (w pen more : Int) : ∀ (a : Nat) (ks : List Nat), costP l w (pen + more) a ks = costP l w pen a ks + more * (hysP l ks : Int)
  | _, [] => by show (0 : Int) = 0 + more * ((0 : Nat) : Int); rw [show ((0 : Nat) : Int) = 0 from rfl, Int.mul_zero]; rfl
  | a, k :: ks => by
    have ih := costP_more l w pen more k ks
    show stepC l w (pen + more) a k + costP l w (pen + more) k ks = stepC l w pen a k + costP l w pen k ks + more * _
    have e : (hysP l (k :: ks) : Int) = (if hyP l k then 1 else 0) + (hysP l ks : Int) := by
      unfold hysP
      rw [List.filter_cons]
      split
      · rw [List.length_cons]; omega
      · omega
    rw [ih, e, Int.mul_add]
    unfold stepC
    cases hyP l k
    · simp; omega
    · simp; omega
theorem hys_le (l : List Bx) (ks : List Nat) : hysP l ks ≤ ks.length := List.length_filter_le _ _
theorem Fit.len {l : List Bx} {w : Int} : ∀ {a z : Nat} {ks : List Nat}, Fit l w a ks z → ks.length ≤ z - a
  | _, _, [], _ => Nat.zero_le _
  | a, z, k :: ks, ⟨h1, _, _, h2⟩ => by
    have := h2.len
    have := h2.le
    rw [List.length_cons]; omega
theorem mul_le_cases {m a b : Int} (hm : 0 < m) (h : m * a ≤ m * b) : a ≤ b := Int.le_of_mul_le_mul_left h hm
theorem penalty_facts {l : List Bx} {w pen more : Int} (hp0 : 0 ≤ pen) (hp1 : pen ≤ 1000000) (hm : 0 ≤ more) (hs : pen + more ≤ 1000000) :
    (linesR l w pen).2.2 = (linesR l w (pen + more)).2.2 ∧ ((linesR l w pen).2.2 = 0 → (linesR l w pen).2.1 ≤ (linesR l w (pen + more)).2.1 ∧ (more ≠ 0 → hyphN (linesR l w (pen + more)).1 ≤ hyphN (linesR l w pen).1) ∧ (linesR l w (pen + more)).2.1 ≤ (linesR l w pen).2.1 + more * (hyphN (linesR l w pen).1 : Int) ∧ hyphN (linesR l w pen).1 ≤ 1000000 ∧
      0 ≤ (linesR l w pen).2.1 ∧ (linesR l w pen).2.1 ≤ 1210001000000 * 300000) := by
  have q1 : penB pen = true := penB_iff.2 ⟨hp0, hp1⟩
  have q2 : penB (pen + more) = true := penB_iff.2 ⟨by omega, hs⟩
  by_cases hv : validL l w = true
  · rcases linesR_ok hv q1 with ⟨a1, a2, ks, a3, a4, a5, a6⟩ | ⟨a1, a2, _⟩ <;> rcases linesR_ok hv q2 with ⟨b1, b2, qs, b3, b4, b5, b6⟩ | ⟨b1, b2, _⟩
    · refine ⟨by rw [a1, b1], fun _ => ?_⟩
      have e1 := costP_more l w pen more 0 ks
      have e2 := costP_more l w pen more 0 qs
      have c1 := a6 qs b3
      have c2 := b6 ks a3
      have h0 := Int.mul_nonneg hm (Int.natCast_nonneg (hysP l qs))
      have hb := (valid_of hv).2
      rw [a4, b4, hyphN_lines, hyphN_lines]
      have hl := a3.len
      have hN := ptN_le hb
      have hh := hys_le l ks
      have hbok := (bstL_ok (pen := pen) hb ⟨by have := (valid_of hv).1; omega, (valid_of hv).1.2⟩ ⟨hp0, hp1⟩ (ptN l - 1) (Nat.le_refl _)).1
      have hmem : (bestP l w pen 0) ∈ bstL l w pen (ptN l - 1) := by
        unfold bestP
        rw [getD_lt (by rw [bstL_len]; omega)]
        exact List.getElem_mem _
      have hbb := hbok _ hmem
      have hbe : (linesR l w pen).2.1 = (bestP l w pen 0).1 := by
        unfold linesR
        rw [if_pos (by rw [hv, q1]; rfl)]
        have hnn := (best_iff (w := w) hb hp0).2 a2
        rw [if_neg (by show ¬ (bestP l w pen 0).1 < 0; omega)]; rfl
      refine ⟨by omega, fun hne => ?_, by omega, by omega, ?_, ?_⟩
      · have h9 := mul_le_cases (m := more) (a := (hysP l qs : Int)) (b := (hysP l ks : Int)) (by omega) (by omega)
        omega
      · have := costP_nonneg (l := l) (w := w) hp0 (a := 0) (ks := ks); omega
      · rw [hbe]; omega
    · exact absurd a2 b2
    · exact absurd b2 a2
    · exact ⟨by rw [a1, b1], fun h => by rw [a1] at h; cases h⟩
  · rw [Bool.not_eq_true] at hv
    rw [linesR_bad (.inl hv), linesR_bad (.inl hv)]
    exact ⟨rfl, fun h => by cases h⟩
/-! smallest pieces -/
def chainL {α : Type} (R : α → α → Bool) : List α → Bool
  | x :: y :: t => R x y && chainL R (y :: t)
  | _ => true
theorem chainL_app {α : Type} {R : α → α → Bool} : ∀ (s : List α) (x : α) (t : List α), chainL R (s ++ x :: t) = (chainL R (s ++ [x]) && chainL R (x :: t))
  | [], x, t => rfl
  | [y], x, t => by show (R y x && _) = ((R y x && true) && _); rw [Bool.and_true]
  | y :: z :: s, x, t => by
    have ih := chainL_app (R := R) (z :: s) x t
    show (R y z && chainL R ((z :: s) ++ x :: t)) = ((R y z && chainL R ((z :: s) ++ [x])) && chainL R (x :: t))
    rw [ih, Bool.and_assoc]
theorem chainL_iff {α : Type} {R : α → α → Bool} : ∀ (s : List α), chainL R s = true ↔ ∀ (i : Nat) (h : i + 1 < s.length), R (s[i]'(by omega)) s[i + 1] = true
  | [] => ⟨fun _ i h => by simp at h, fun _ => rfl⟩
  | [x] => ⟨fun _ i h => by simp at h, fun _ => rfl⟩
  | x :: y :: s => by
    have ih := chainL_iff (R := R) (y :: s)
    show (R x y && chainL R (y :: s)) = true ↔ _
    rw [Bool.and_eq_true, ih]
    constructor
    · rintro ⟨h1, h2⟩ i hi
      cases i with
      | zero => exact h1
      | succ i => exact h2 i (by simpa using hi)
    · intro h
      exact ⟨h 0 (by simp), fun i hi => h (i + 1) (by simpa using hi)⟩
def relP (l : List Bx) (w : Int) (x y : Nat × Int) : Bool := decide ((stB l y.1 : Int) + y.2 + (if 0 < y.2 then 1 else -1) - ((stB l x.1 : Int) + x.2) ≤ w)
def smF (w : Int) (n : Nat) : Int → List Int → Bool
  | at_, [] => decide ((n : Int) - at_ ≤ w)
  | at_, h :: t => decide (h - at_ + 1 ≤ w) && smF w n h t
def smA (w : Int) (l : List Bx) : Bool := l.all (fun b => smF w (wlen b.word) 0 b.pts)
theorem chain_box {l : List Bx} {w : Int} {k : Nat} (hk : k < l.length) : ∀ (ps : List Int) (at_ : Int), (∀ q ∈ ps, 1 ≤ q) → chainL (relP l w) ((k, at_) :: (ps.map (fun q => (k, q)) ++ [(k + 1, 0)])) = smF w (wlen (l[k]).word) at_ ps
  | [], at_, _ => by
    have hs := stB_succ hk
    show (relP l w (k, at_) (k + 1, 0) && true) = decide _
    rw [Bool.and_true]
    unfold relP
    rw [decide_eq_decide]
    simp only [Int.lt_irrefl, if_false]
    omega
  | h :: t, at_, hp => by
    have ih := chain_box (w := w) hk t h (fun q hq => hp q (List.mem_cons_of_mem _ hq))
    have h1 := hp h (List.mem_cons_self ..)
    show (relP l w (k, at_) (k, h) && chainL (relP l w) ((k, h) :: (t.map (fun q => (k, q)) ++ [(k + 1, 0)]))) = (decide _ && _)
    rw [ih]
    congr 1
    unfold relP
    rw [decide_eq_decide]
    dsimp only
    rw [if_pos (by omega)]
    omega
theorem chain_pts {l : List Bx} {w : Int} (hb : boxesB l = true) : ∀ k, k ≤ l.length → chainL (relP l w) (ptsF (l.take k) ++ [(k, 0)]) = smA w (l.take k)
  | 0, _ => by rw [List.take_zero]; rfl
  | k + 1, hk => by
    have hkl : k < l.length := by omega
    have ih := chain_pts hb k (by omega) (w := w)
    have hp := (boxB_pts ((boxesB_iff.1 hb).2 _ (List.getElem_mem hkl))).1
    rw [ptsF_take hkl, List.append_assoc, List.cons_append, chainL_app, ih, chain_box hkl _ _ (fun q hq => (hp q hq).1)]
    unfold smA
    rw [List.take_add_one, List.getElem?_eq_getElem hkl, List.all_append]
    simp
theorem allFit_iff {l : List Bx} {w : Int} (hb : boxesB l = true) : smA w l = true ↔ AllFit l w := by
  have h1 := chain_pts hb l.length (Nat.le_refl _) (w := w)
  rw [List.take_length] at h1
  rw [← h1, chainL_iff]
  have hlen : ptN l = (ptsF l ++ [(l.length, (0 : Int))]).length := ptN_eq l
  have key : ∀ i (h : i + 1 < (ptsF l ++ [(l.length, (0 : Int))]).length), relP l w ((ptsF l ++ [(l.length, (0 : Int))])[i]'(by omega)) (ptsF l ++ [(l.length, (0 : Int))])[i + 1] = decide (lenP l i (i + 1) ≤ w) := fun i h => by
    obtain ⟨c1, y1⟩ := colP_eq (l := l) (i := i) (by omega)
    obtain ⟨c2, y2⟩ := colP_eq (l := l) (i := i + 1) (by omega)
    have e1 : (ptsF l ++ [(l.length, (0 : Int))])[i]'(by omega) = ptQ l i := (ptQ_lt (by omega)).symm
    have e2 : (ptsF l ++ [(l.length, (0 : Int))])[i + 1] = ptQ l (i + 1) := (ptQ_lt (by omega)).symm
    rw [e1, e2, lenP_eq, c1]
    unfold endP
    rw [c2, y2]
    unfold relP
    rw [decide_eq_decide]
    simp only [decide_eq_true_eq]
  constructor
  · intro h i hi
    have := h i (by omega)
    rw [key i (by omega)] at this
    exact of_decide_eq_true this
  · intro h i hi
    rw [key i hi]
    exact decide_eq_true (h i (by omega))
end Go.GH
namespace Go.GH
open Go Go.Lib
theorem wider_facts {l : List Bx} {w v : Int} (h1 : 1 ≤ w) (hw : w ≤ v) (h2 : v ≤ 200) :
    (breaksR l w).2 = (breaksR l v).2 ∧ (breaksR l w).1 ≤ (breaksR l v).1 ∧ ((breaksR l w).2 ≠ 0 → (greedyR l w).2 = (breaksR l w).2 ∧ (greedyR l v).2 = (breaksR l w).2) ∧
      ((breaksR l w).2 = 0 → ((greedyR l w).2 = 0 ↔ 0 < (breaksR l w).1) ∧ ((greedyR l v).2 = 0 ↔ 0 < (breaksR l v).1) ∧ ((greedyR l w).2 = 0 → (greedyR l v).1.length ≤ (greedyR l w).1.length)) := by
  by_cases hb : boxesB l = true
  · have v1 := valid_mk h1 (by omega) hb
    have v2 := valid_mk (l := l) (w := v) (by omega) h2 hb
    rw [breaksR_ok v1, breaksR_ok v2]
    refine ⟨rfl, cnt_wider hb hw, fun h => absurd rfl h, fun _ => ?_⟩
    dsimp only
    rw [cnt_iff hb, cnt_iff hb]
    rcases greedyR_ok v1 with ⟨a1, a2, ks, a3, a4, a5⟩ | ⟨a1, a2, _⟩ <;> rcases greedyR_ok v2 with ⟨b1, b2, qs, b3, b4, b5⟩ | ⟨b1, b2, _⟩
    · rw [a1, b1, a4, b4, linesOf_len, linesOf_len]
      exact ⟨⟨fun _ => a2, fun _ => rfl⟩, ⟨fun _ => b2, fun _ => rfl⟩, fun _ => b5 ks (a3.wider hw)⟩
    · exact absurd (a2.wider hw) b2
    · rw [a1, b1]
      exact ⟨⟨fun h => (by cases h), fun h => absurd h a2⟩, ⟨fun _ => b2, fun _ => rfl⟩, fun h => by cases h⟩
    · rw [a1, b1]
      exact ⟨⟨fun h => (by cases h), fun h => absurd h a2⟩, ⟨fun h => (by cases h), fun h => absurd h b2⟩, fun h => by cases h⟩
  · rw [Bool.not_eq_true] at hb
    have v1 : validL l w = false := by unfold validL; rw [hb, Bool.and_false]
    have v2 : validL l v = false := by unfold validL; rw [hb, Bool.and_false]
    rw [breaksR_bad v1, breaksR_bad v2, greedyR_bad v1, greedyR_bad v2]
    exact ⟨rfl, Int.le_refl _, fun _ => ⟨rfl, rfl⟩, fun h => by cases h⟩
theorem smallest_facts {l : List Bx} {w : Int} (hv : validL l w = true) : (breaksR l w).2 = 0 ∧ (0 < (breaksR l w).1 ↔ smA w l = true) ∧ ((linesR l w 0).2.2 = 0 ↔ smA w l = true) := by
  have hb := (valid_of hv).2
  rw [breaksR_ok hv, allFit_iff hb]
  refine ⟨rfl, cnt_iff hb, ?_⟩
  rcases linesR_ok (pen := 0) hv (by decide) with ⟨a1, a2, _⟩ | ⟨a1, a2, _⟩
  · rw [a1]; exact ⟨fun _ => a2, fun _ => rfl⟩
  · rw [a1]; exact ⟨fun h => (by cases h), fun h => absurd h a2⟩
theorem smF_step {w : Int} {n : Nat} {at_ : Int} {ps : List Int} {i : Nat} (h : i < ps.length) : smF w n at_ (ps.drop i) = (decide (ps[i] - at_ + 1 ≤ w) && smF w n ps[i] (ps.drop (i + 1))) := by
  rw [List.drop_eq_getElem_cons h]; rfl
theorem smF_end {w : Int} {n : Nat} {at_ : Int} {ps : List Int} {i : Nat} (h : ps.length ≤ i) : smF w n at_ (ps.drop i) = decide ((n : Int) - at_ ≤ w) := by
  rw [List.drop_eq_nil_of_le h]; rfl
theorem smA_step {w : Int} {l : List Bx} {k : Nat} (h : k < l.length) : smA w (l.drop k) = (smF w (wlen (l[k]).word) 0 (l[k]).pts && smA w (l.drop (k + 1))) := by
  rw [List.drop_eq_getElem_cons h]; rfl
theorem many_sz {l : List Bx} (h : manyB l = false) : ∀ x ∈ l, x.word.size ≤ 1048576 := fun x hx => by have := ((many_ok h).2 x hx).1; omega
end Go.GH
namespace Go.GH
open Go Go.Proofs
variable {E : Env}
theorem fieldB_80_0_0 : fieldB Tryd.prog 80 0 0 = true := by kernel_rfl
theorem fieldB_80_1_1 : fieldB Tryd.prog 80 1 1 = true := by kernel_rfl
theorem qBetween0 (l : List Bx) (pa pb : Nat × Int) (hb : boxesB l = true) (ha : PtOK l pa) (hbo : PtOK l pb ∨ pb = (l.length, 0)) : GCall Tryd.prog E 54 [DBxs l, .agg (encK pa), .agg (encK pb)] [] (fun d H => d = .agg (encLn ⟨btwN l pa pb (btwL l pa pb), decide (0 < pb.2)⟩)) := by
  obtain ⟨ha1, ha2, ha3⟩ := ha
  have hbn := bnds_of hb
  have hbl : pb.1 ≤ l.length ∧ 0 ≤ pb.2 := by rcases hbo with h | h; exact ⟨Nat.le_of_lt h.1, h.2.1⟩; rw [h]; exact ⟨Nat.le_refl _, Int.le_refl _⟩
  have hb2 : pb.1 < l.length → pb.2 ≤ ((wAt l pb.1).length : Int) := fun h3 => by rcases hbo with h | h; exact Int.le_of_lt h.2.2; rw [h] at h3; exact absurd h3 (Nat.lt_irrefl _)
  have hln := hbn.len
  have hbtl : ∀ j, (btwN l pa pb j).length ≤ j := btwN_len l pa pb
  refine GCall.body (C := ⟨Tryd.prog, E, true⟩) Tryd.func54 rfl (fun _ => rfl) (by kernel_rfl) rfl ?_
  refine SCode.seqR ?_
  refine SOps.boxAM rfl rfl ?_
  refine SOps.boxAM rfl rfl ?_
  refine SOps.alloc (sz := 2) zeroIs_48 (fun b0 hb_0 => ?_)
  refine SOps.nil ?_
  refine SCode.seqR ?_
  refine SOps.alloc (sz := 2) zeroIs_48 (fun b9 hb_9 => ?_)
  refine SOps.swap01 ?_
  refine SOps.nil ?_
  refine SCode.seq ?_
  refine SCode.seqR ?_
  refine SOps.fieldPin rfl fieldB_80_0_0 ?_
  refine SOps.loadPin rfl flatB_3 ?_
  refine SOps.assign rfl ?_
  refine SOps.nil ?_
  refine SCode.block ?_
  refine SCode.loop2 (fun (j : Nat) (kw : Nat) => (⟨64, [(0, DBxs l), (4, .ipin (encK pa)), (5, .ipin (encK pb)), (6, .ref b0 0), (7, .ref b9 0), (8, .v (.int .i64 (((pa.1 + j) : Nat) : Int)))], [(b0, DO.row 48 2 [[.v (.slice none 0 0), .v (.bool false)]])] ++ (((b9, DO.row 48 2 [[accD 1 kw ((btwN l pa pb j).map encS), .v (.bool false)]]) :: accH 9 1 kw ((btwN l pa pb j).map encS)) ++ [])⟩ : St)) (fun (j : Nat) (kw : Nat) => j ≤ btwL l pa pb) (fun (j : Nat) (kw : Nat) => l.length + 1 - j) (0) (0) (by exact Nat.zero_le _) (St.Le.of ⟨(by first | rfl | (show some _ = some _; simp)), (by first | rfl | (show some _ = some _; simp)), (by first | rfl | (show some _ = some _; simp)), (by first | rfl | (show some _ = some _; simp)), (by first | rfl | (show some _ = some _; simp)), (by first | rfl | (show some _ = some _; simp)), trivial⟩ rfl (by first | rfl | (simp))) ?_
  rintro j kw hjn
  refine SCode.seq ?_
  refine SCode.seqR ?_
  refine SOps.move rfl ?_
  refine SOps.fieldPin rfl fieldB_80_0_0 ?_
  refine SOps.loadPin rfl flatB_3 ?_
  refine SOps.bin rfl rfl rfl ?_
  refine SOps.move rfl ?_
  refine SOps.caseB 18 rfl (fun hb1 => ?_) (fun hb1 => ?_)
  · try simp only [decide_eq_true_eq, decide_eq_false_iff_not, Bool.not_eq_true', Bool.not_eq_false', beq_iff_eq, bne_iff_ne, ne_eq, beq_eq_false_iff_ne, bne_eq_false_iff_eq, Int.not_lt, Int.not_le, Nat.not_lt, Nat.not_le, Int.ofNat_lt, Int.ofNat_le, Bool.not_eq_eq_eq_not, Bool.not_true, Bool.not_false] at hb1
    refine SOps.move rfl ?_
    refine SOps.move rfl ?_
    refine SOps.lenM rfl sliceB_22_43_2 ?_
    refine SOps.bin rfl rfl rfl ?_
    refine SOps.pick rfl rfl ?_
    refine SOps.nil ?_
    refine SCode.cond rfl (fun hc2 => ?_) (fun hc2 => ?_)
    · try simp only [decide_eq_true_eq, decide_eq_false_iff_not, Bool.not_eq_true', Bool.not_eq_false', beq_iff_eq, bne_iff_ne, ne_eq, beq_eq_false_iff_ne, bne_eq_false_iff_eq, Int.not_lt, Int.not_le, Nat.not_lt, Nat.not_le, Int.ofNat_lt, Int.ofNat_le, Bool.not_eq_eq_eq_not, Bool.not_true, Bool.not_false] at hc2
      refine SCode.skip ?_
      show SCode _ _ _ _
      refine SCode.seq ?_
      refine SCode.block ?_
      refine SCode.seqR ?_
      refine SOps.move rfl ?_
      refine SOps.move rfl ?_
      refine SOps.indexM ((pa.1 + j)) rfl rfl sliceB_22_43_2 (by first | omega | (simp only [lenB] <;> omega)) (by first | omega | (simp only [lenB] <;> omega)) ?_
      refine SOps.fieldPin rfl fieldB_43_0_0 ?_
      refine SOps.loadPin rfl flatB_9 ?_
      refine SOps.runesF rfl rfl strB_9 sliceB_70_21_1 intB_21_i32 ?_
      refine SOps.assign rfl ?_
      refine SOps.nil ?_
      refine SCode.seqR ?_
      have hul : pa.1 + j < l.length := by omega
      have hwl := hbn.wlen _ (List.getElem_mem hul)
      have hwe := wAt_lt hul
      have hwl2 : (wAt l (pa.1 + j)).length ≤ 200 := by rw [hwe]; exact hwl
      refine SOps.reSlot (t := 9) rfl (show _ = DRunes (wAt l (pa.1 + j)) by rw [hwe] <;> rfl) ?_
      refine SOps.move rfl ?_
      refine SOps.lenM rfl sliceB_70_21_1 ?_
      refine SOps.assign rfl ?_
      refine SOps.assign rfl ?_
      refine SOps.nil ?_
      refine SCode.seqJ (fun (_ : Nat) => (⟨64, [(0, DBxs l), (4, .ipin (encK pa)), (5, .ipin (encK pb)), (6, .ref b0 0), (7, .ref b9 0), (8, .v (.int .i64 (((pa.1 + j) : Nat) : Int))), (9, DRunes (wAt l (pa.1 + j))), (10, .v (.int .i64 (if pa.1 + j = pa.1 then pa.2 else 0))), (11, .v (.int .i64 (((wAt l (pa.1 + j)).length : Nat) : Int)))], [(b0, DO.row 48 2 [[.v (.slice none 0 0), .v (.bool false)]])] ++ (((b9, DO.row 48 2 [[accD 1 kw ((btwN l pa pb j).map encS), .v (.bool false)]]) :: accH 9 1 kw ((btwN l pa pb j).map encS)) ++ [])⟩ : St)) ?_ ?_
      · refine SCode.seqR ?_
        refine SOps.move rfl ?_
        refine SOps.fieldPin rfl fieldB_80_0_0 ?_
        refine SOps.loadPin rfl flatB_3 ?_
        refine SOps.bin rfl rfl rfl ?_
        refine SOps.nil ?_
        refine SCode.cond rfl (fun hc3 => ?_) (fun hc3 => ?_)
        · try simp only [decide_eq_true_eq, decide_eq_false_iff_not, Bool.not_eq_true', Bool.not_eq_false', beq_iff_eq, bne_iff_ne, ne_eq, beq_eq_false_iff_ne, bne_eq_false_iff_eq, Int.not_lt, Int.not_le, Nat.not_lt, Nat.not_le, Int.ofNat_lt, Int.ofNat_le, Bool.not_eq_eq_eq_not, Bool.not_true, Bool.not_false] at hc3
          refine SCode.region ?_
          refine SOps.fieldPin rfl fieldB_80_1_1 ?_
          refine SOps.loadPin rfl flatB_3 ?_
          refine SOps.assign rfl ?_
          refine SOps.nil ?_
          first
            | exact ⟨0, St.Le.of ⟨rfl, rfl, rfl, rfl, rfl, rfl, rfl, (congrArg (fun z => some (DV.v (.int .i64 z))) (if_pos (by omega)).symm), rfl, trivial⟩⟩
            | exact ⟨0, St.Le.of ⟨rfl, rfl, rfl, rfl, rfl, rfl, rfl, (congrArg (fun z => some (DV.v (.int .i64 z))) (if_neg (by omega)).symm), rfl, trivial⟩⟩
        · try simp only [decide_eq_true_eq, decide_eq_false_iff_not, Bool.not_eq_true', Bool.not_eq_false', beq_iff_eq, bne_iff_ne, ne_eq, beq_eq_false_iff_ne, bne_eq_false_iff_eq, Int.not_lt, Int.not_le, Nat.not_lt, Nat.not_le, Int.ofNat_lt, Int.ofNat_le, Bool.not_eq_eq_eq_not, Bool.not_true, Bool.not_false] at hc3
          refine SCode.skip ?_
          first
            | exact ⟨0, St.Le.of ⟨rfl, rfl, rfl, rfl, rfl, rfl, rfl, (congrArg (fun z => some (DV.v (.int .i64 z))) (if_pos (by omega)).symm), rfl, trivial⟩⟩
            | exact ⟨0, St.Le.of ⟨rfl, rfl, rfl, rfl, rfl, rfl, rfl, (congrArg (fun z => some (DV.v (.int .i64 z))) (if_neg (by omega)).symm), rfl, trivial⟩⟩
      · intro _
        refine SCode.seqJ (fun (_ : Nat) => (⟨64, [(0, DBxs l), (4, .ipin (encK pa)), (5, .ipin (encK pb)), (6, .ref b0 0), (7, .ref b9 0), (8, .v (.int .i64 (((pa.1 + j) : Nat) : Int))), (9, DRunes (wAt l (pa.1 + j))), (10, .v (.int .i64 (if pa.1 + j = pa.1 then pa.2 else 0))), (11, .v (.int .i64 (if pa.1 + j = pb.1 then pb.2 else ((wAt l (pa.1 + j)).length : Int))))], [(b0, DO.row 48 2 [[.v (.slice none 0 0), .v (.bool false)]])] ++ (((b9, DO.row 48 2 [[accD 1 kw ((btwN l pa pb j).map encS), .v (.bool false)]]) :: accH 9 1 kw ((btwN l pa pb j).map encS)) ++ [])⟩ : St)) ?_ ?_
        · refine SCode.seqR ?_
          refine SOps.move rfl ?_
          refine SOps.fieldPin rfl fieldB_80_0_0 ?_
          refine SOps.loadPin rfl flatB_3 ?_
          refine SOps.bin rfl rfl rfl ?_
          refine SOps.nil ?_
          refine SCode.cond rfl (fun hc4 => ?_) (fun hc4 => ?_)
          · try simp only [decide_eq_true_eq, decide_eq_false_iff_not, Bool.not_eq_true', Bool.not_eq_false', beq_iff_eq, bne_iff_ne, ne_eq, beq_eq_false_iff_ne, bne_eq_false_iff_eq, Int.not_lt, Int.not_le, Nat.not_lt, Nat.not_le, Int.ofNat_lt, Int.ofNat_le, Bool.not_eq_eq_eq_not, Bool.not_true, Bool.not_false] at hc4
            refine SCode.region ?_
            refine SOps.fieldPin rfl fieldB_80_1_1 ?_
            refine SOps.loadPin rfl flatB_3 ?_
            refine SOps.assign rfl ?_
            refine SOps.nil ?_
            first
              | exact ⟨0, St.Le.of ⟨rfl, rfl, rfl, rfl, rfl, rfl, rfl, rfl, (congrArg (fun z => some (DV.v (.int .i64 z))) (if_pos (by omega)).symm), trivial⟩⟩
              | exact ⟨0, St.Le.of ⟨rfl, rfl, rfl, rfl, rfl, rfl, rfl, rfl, (congrArg (fun z => some (DV.v (.int .i64 z))) (if_neg (by omega)).symm), trivial⟩⟩
          · try simp only [decide_eq_true_eq, decide_eq_false_iff_not, Bool.not_eq_true', Bool.not_eq_false', beq_iff_eq, bne_iff_ne, ne_eq, beq_eq_false_iff_ne, bne_eq_false_iff_eq, Int.not_lt, Int.not_le, Nat.not_lt, Nat.not_le, Int.ofNat_lt, Int.ofNat_le, Bool.not_eq_eq_eq_not, Bool.not_true, Bool.not_false] at hc4
            refine SCode.skip ?_
            first
              | exact ⟨0, St.Le.of ⟨rfl, rfl, rfl, rfl, rfl, rfl, rfl, rfl, (congrArg (fun z => some (DV.v (.int .i64 z))) (if_pos (by omega)).symm), trivial⟩⟩
              | exact ⟨0, St.Le.of ⟨rfl, rfl, rfl, rfl, rfl, rfl, rfl, rfl, (congrArg (fun z => some (DV.v (.int .i64 z))) (if_neg (by omega)).symm), trivial⟩⟩
        · intro _
          refine SCode.seqR ?_
          have hfr0 : 0 ≤ (if pa.1 + j = pa.1 then pa.2 else 0) := by split <;> omega
          have hto0 : (if pa.1 + j = pb.1 then pb.2 else ((wAt l (pa.1 + j)).length : Int)) ≤ ((wAt l (pa.1 + j)).length : Int) := by split; rename_i h9; have h8 := hb2 (by omega); rw [← h9] at h8; exact h8; exact Int.le_refl _
          refine SOps.move rfl ?_
          refine SOps.move rfl ?_
          refine SOps.bin rfl rfl rfl ?_
          refine SOps.nil ?_
          refine SCode.cond rfl (fun hc5 => ?_) (fun hc5 => ?_)
          · try simp only [decide_eq_true_eq, decide_eq_false_iff_not, Bool.not_eq_true', Bool.not_eq_false', beq_iff_eq, bne_iff_ne, ne_eq, beq_eq_false_iff_ne, bne_eq_false_iff_eq, Int.not_lt, Int.not_le, Nat.not_lt, Nat.not_le, Int.ofNat_lt, Int.ofNat_le, Bool.not_eq_eq_eq_not, Bool.not_true, Bool.not_false] at hc5
            have hbw : btwN l pa pb (j + 1) = btwN l pa pb j ++ [encs (((wAt l (pa.1 + j)).drop (if pa.1 + j = pa.1 then pa.2 else 0).toNat).take ((if pa.1 + j = pb.1 then pb.2 else ((wAt l (pa.1 + j)).length : Int)).toNat - (if pa.1 + j = pa.1 then pa.2 else 0).toNat))] := by show _ ++ btwW l pa pb (pa.1 + j) = _; unfold btwW; rw [if_pos (by assumption)]
            have hbl9 := hbtl j
            apply SCode.drawG 12 [some 49, some 50, some 51, some 52, some 53, some 54, some 55, some 56, some 57, some 58, none] [[.inr 7], [.inl 0], [.inr 9], [.inr 10], [.inr 11], [.inl 2, .inl 3, .inl 4], [.inl 5], [.inl 6], [.inl 1, .inl 7], [.inr 7], [.inl 9, .inl 8]] [[1, 8, 10]] [none, some (0, 0), none, none, none, none, none, none, some (0, 1), none, some (0, 2)] [[], [], [], [], [], [], [], [], [8], [], []] ([(b0, DO.row 48 2 [[.v (.slice none 0 0), .v (.bool false)]])]) [⟨[1, 8, 10], fun ids c => match c with | 0 => (b9, DO.row 48 2 [[accD 1 kw ((btwN l pa pb j).map encS), .v (.bool false)]]) :: accH 9 1 kw ((btwN l pa pb j).map encS) | 1 => (b9, DO.row 48 2 [[accD 1 kw ((btwN l pa pb j).map encS), .v (.bool false)]]) :: accH 9 1 kw ((btwN l pa pb j).map encS) | 2 => (b9, DO.row 48 2 [[accD 1 kw ((btwN l pa pb j).map encS), .v (.bool false)]]) :: accH 9 1 (ids.getD 1 0) (((btwN l pa pb j).map encS) ++ [encS (encs (((wAt l (pa.1 + j)).drop (if pa.1 + j = pa.1 then pa.2 else 0).toNat).take ((if pa.1 + j = pb.1 then pb.2 else ((wAt l (pa.1 + j)).length : Int)).toNat - (if pa.1 + j = pa.1 then pa.2 else 0).toNat)))]) | _ => (b9, DO.row 48 2 [[accD 1 (ids.getD 1 0) (((btwN l pa pb j).map encS) ++ [encS (encs (((wAt l (pa.1 + j)).drop (if pa.1 + j = pa.1 then pa.2 else 0).toNat).take ((if pa.1 + j = pb.1 then pb.2 else ((wAt l (pa.1 + j)).length : Int)).toNat - (if pa.1 + j = pa.1 then pa.2 else 0).toNat)))]), .v (.bool false)]]) :: accH 9 1 (ids.getD 1 0) (((btwN l pa pb j).map encS) ++ [encS (encs (((wAt l (pa.1 + j)).drop (if pa.1 + j = pa.1 then pa.2 else 0).toNat).take ((if pa.1 + j = pb.1 then pb.2 else ((wAt l (pa.1 + j)).length : Int)).toNat - (if pa.1 + j = pa.1 then pa.2 else 0).toNat)))])⟩] mixed_
            · kernel_rfl
            · rfl
            · exact fun _ => .refl _
            · apply GOk.rd 49
              · rfl
              · exact fun b => (NeedG.inr _ rfl NeedG.nil)
              · intro b rest ext
                refine SOps.fieldRef rfl fieldB_48_0_0 ?_
                exact SOps.nil rfl
              apply GOk.act [] (fun ids => some (50, accD 1 kw ((btwN l pa pb j).map encS)))
              · rfl
              · rfl
              · rfl
              · exact fun b => (NeedG.inl 0 _ _ rfl rfl rfl NeedG.nil)
              · intro b rest ext
                refine SOps.loadRef 1 0 0 rfl flatB_46 rfl rfl rfl rfl ?_
                exact SOps.nil ⟨b, fun _ _ => rfl, ⟨rfl, fun t d h => .inl h, _, .refl _, .refl _⟩⟩
              apply GOk.rd 51
              · rfl
              · exact fun b => (NeedG.inr _ rfl NeedG.nil)
              · intro b rest ext
                refine SOps.move rfl ?_
                exact SOps.nil rfl
              apply GOk.rd 52
              · rfl
              · exact fun b => (NeedG.inr _ rfl NeedG.nil)
              · intro b rest ext
                refine SOps.move rfl ?_
                exact SOps.nil rfl
              apply GOk.rd 53
              · rfl
              · exact fun b => (NeedG.inr _ rfl NeedG.nil)
              · intro b rest ext
                refine SOps.move rfl ?_
                exact SOps.nil rfl
              apply GOk.rd 54
              · rfl
              · exact fun b => (NeedG.inl 2 _ _ rfl rfl rfl (NeedG.inl 1 _ _ rfl rfl rfl (NeedG.inl 0 _ _ rfl rfl rfl NeedG.nil)))
              · intro b rest ext
                refine SOps.sliceM (n1 := 0) ((if pa.1 + j = pa.1 then pa.2 else 0).toNat) ((if pa.1 + j = pb.1 then pb.2 else ((wAt l (pa.1 + j)).length : Int)).toNat) sliceB_70_21_1 rfl (.at ((if pa.1 + j = pa.1 then pa.2 else 0).toNat) rfl (by first | omega | (simp only [lenB] <;> omega))) (.at ((if pa.1 + j = pb.1 then pb.2 else ((wAt l (pa.1 + j)).length : Int)).toNat) rfl (by first | omega | (simp only [lenB] <;> omega))) (by first | omega | (simp only [lenB] <;> omega)) (by first | omega | (simp only [lenB] <;> omega)) ?_
                exact SOps.nil rfl
              apply GOk.rd 55
              · rfl
              · exact fun b => (NeedG.inl 0 _ _ rfl rfl rfl NeedG.nil)
              · intro b rest ext
                refine SOps.convRunesStr rfl sliceB_70_21_1 intB_21_i32 strB_9 (by simp [lenB] <;> (first | omega | (simp only [lenB] <;> omega))) ?_
                exact SOps.nil rfl
              apply GOk.rd 56
              · rfl
              · exact fun b => (NeedG.inl 0 _ _ rfl rfl rfl NeedG.nil)
              · intro b rest ext
                refine SOps.litF rfl sliceB_46_9_1 zeroIs_9 rfl ?_
                exact SOps.nil rfl
              apply GOk.act [8] (fun ids => some (57, accD 1 (ids.getD 0 0) (((btwN l pa pb j).map encS) ++ [encS (encs (((wAt l (pa.1 + j)).drop (if pa.1 + j = pa.1 then pa.2 else 0).toNat).take ((if pa.1 + j = pb.1 then pb.2 else ((wAt l (pa.1 + j)).length : Int)).toNat - (if pa.1 + j = pa.1 then pa.2 else 0).toNat)))])))
              · rfl
              · rfl
              · rfl
              · exact fun b => (NeedG.inl 6 _ _ rfl rfl rfl (NeedG.inl 0 _ _ rfl rfl rfl NeedG.nil))
              · intro b rest ext
                refine SOps.appendAcc [_, _] _ sliceB_46_9_1 elemB_9_1_16 rfl rfl rfl SrcD.isl (by simp) (by first | (simp [lenB] <;> (first | omega | (simp only [lenB] <;> omega))) | (simp only [lenB]; (first | omega | (simp only [lenB] <;> omega)))) (by first | (simp <;> (first | omega | (simp only [lenB] <;> omega))) | (first | omega | (simp only [lenB] <;> omega))) (fun b2 => ?_)
                exact SOps.nil ⟨fun k => if k = 8 then b2 else b k, fun k hk => if_neg hk, ⟨rfl, fun t d h => .inl h, _, .refl _, .refl _⟩⟩
              apply GOk.rd 58
              · rfl
              · exact fun b => (NeedG.inr _ rfl NeedG.nil)
              · intro b rest ext
                refine SOps.fieldRef rfl fieldB_48_0_0 ?_
                exact SOps.nil rfl
              apply GOk.act [] (fun _ => none)
              · rfl
              · rfl
              · rfl
              · exact fun b => (NeedG.inl 0 _ _ rfl rfl rfl (NeedG.inl 1 _ _ rfl rfl rfl NeedG.nil))
              · intro b rest ext
                refine SOps.store 1 0 0 rfl rfl oneB_46 rfl rfl rfl (by decide) (by first | rfl | exact accD_one _ _ _) ?_
                exact SOps.nil ⟨b, fun _ _ => rfl, ⟨rfl, fun t d h => .inl h, _, .refl _, .refl _⟩⟩
              exact GOk.nil
            · exact fun _ => rfl
            · intro ids
              show SCode _ _ _ _
              refine SCode.region ?_
              refine SOps.move rfl ?_
              refine SOps.addI rfl rfl (by first | omega | (simp only [lenB] <;> omega)) (by first | omega | (simp only [lenB] <;> omega)) ?_
              refine SOps.assign rfl ?_
              refine SOps.nil ?_
              exact ⟨j + 1, ids 8, by unfold btwL at hjn ⊢; omega, by omega, St.Le.of ⟨rfl, rfl, rfl, rfl, rfl, rfl, trivial⟩ rfl (by rw [hbw, List.map_append] <;> rfl)⟩
          · try simp only [decide_eq_true_eq, decide_eq_false_iff_not, Bool.not_eq_true', Bool.not_eq_false', beq_iff_eq, bne_iff_ne, ne_eq, beq_eq_false_iff_ne, bne_eq_false_iff_eq, Int.not_lt, Int.not_le, Nat.not_lt, Nat.not_le, Int.ofNat_lt, Int.ofNat_le, Bool.not_eq_eq_eq_not, Bool.not_true, Bool.not_false] at hc5
            have hbw : btwN l pa pb (j + 1) = btwN l pa pb j := by show _ ++ btwW l pa pb (pa.1 + j) = _; unfold btwW; rw [if_neg (by omega), List.append_nil]
            refine SCode.skip ?_
            show SCode _ _ _ _
            refine SCode.region ?_
            refine SOps.move rfl ?_
            refine SOps.addI rfl rfl (by first | omega | (simp only [lenB] <;> omega)) (by first | omega | (simp only [lenB] <;> omega)) ?_
            refine SOps.assign rfl ?_
            refine SOps.nil ?_
            exact ⟨j + 1, kw, by unfold btwL at hjn ⊢; omega, by omega, St.Le.of ⟨rfl, rfl, rfl, rfl, rfl, rfl, trivial⟩ rfl (by rw [hbw] <;> rfl)⟩
    · try simp only [decide_eq_true_eq, decide_eq_false_iff_not, Bool.not_eq_true', Bool.not_eq_false', beq_iff_eq, bne_iff_ne, ne_eq, beq_eq_false_iff_ne, bne_eq_false_iff_eq, Int.not_lt, Int.not_le, Nat.not_lt, Nat.not_le, Int.ofNat_lt, Int.ofNat_le, Bool.not_eq_eq_eq_not, Bool.not_true, Bool.not_false] at hc2
      have hje : j = btwL l pa pb := by unfold btwL at hjn ⊢; omega
      refine SCode.exit ?_
      show SCode _ _ _ _
      refine SCode.seqR ?_
      refine SOps.fieldPin rfl fieldB_80_1_1 ?_
      refine SOps.loadPin rfl flatB_3 ?_
      refine SOps.bin rfl rfl rfl ?_
      refine SOps.fieldRef rfl fieldB_48_1_1 ?_
      refine SOps.store 1 0 1 rfl rfl oneB_4 rfl rfl rfl (by decide) (by first | rfl | exact accD_one _ _ _) ?_
      refine SOps.nil ?_
      refine SCode.seqR ?_
      refine SOps.freezeAccIn rfl rfl ?_
      refine SOps.loadRefA 1 0 0 rfl aggB_48_2 rfl rfl rfl (Nat.le_of_ble_eq_true rfl) ?_
      refine SOps.storeAM 0 rfl rfl aggB_48_2 rfl ?_
      refine SOps.nil ?_
      refine SCode.ret ?_
      exact ⟨_, Res.one (.agg (i := 0) (k := 0) (j := 0) rfl aggB_48_2 rfl rfl rfl (Nat.le_of_ble_eq_true rfl)), by rw [← hje] <;> rfl⟩
  · try simp only [decide_eq_true_eq, decide_eq_false_iff_not, Bool.not_eq_true', Bool.not_eq_false', beq_iff_eq, bne_iff_ne, ne_eq, beq_eq_false_iff_ne, bne_eq_false_iff_eq, Int.not_lt, Int.not_le, Nat.not_lt, Nat.not_le, Int.ofNat_lt, Int.ofNat_le, Bool.not_eq_eq_eq_not, Bool.not_true, Bool.not_false] at hb1
    have hje : j = btwL l pa pb := by unfold btwL at hjn ⊢; omega
    refine SOps.skip rfl ?_
    refine SOps.skip rfl ?_
    refine SOps.skip rfl ?_
    refine SOps.skip rfl ?_
    refine SOps.pick rfl rfl ?_
    refine SOps.nil ?_
    refine SCode.cond rfl (fun h => by cases h) (fun _ => ?_)
    refine SCode.exit ?_
    show SCode _ _ _ _
    refine SCode.seqR ?_
    refine SOps.fieldPin rfl fieldB_80_1_1 ?_
    refine SOps.loadPin rfl flatB_3 ?_
    refine SOps.bin rfl rfl rfl ?_
    refine SOps.fieldRef rfl fieldB_48_1_1 ?_
    refine SOps.store 1 0 1 rfl rfl oneB_4 rfl rfl rfl (by decide) (by first | rfl | exact accD_one _ _ _) ?_
    refine SOps.nil ?_
    refine SCode.seqR ?_
    refine SOps.freezeAccIn rfl rfl ?_
    refine SOps.loadRefA 1 0 0 rfl aggB_48_2 rfl rfl rfl (Nat.le_of_ble_eq_true rfl) ?_
    refine SOps.storeAM 0 rfl rfl aggB_48_2 rfl ?_
    refine SOps.nil ?_
    refine SCode.ret ?_
    exact ⟨_, Res.one (.agg (i := 0) (k := 0) (j := 0) rfl aggB_48_2 rfl rfl rfl (Nat.le_of_ble_eq_true rfl)), by rw [← hje] <;> rfl⟩
end Go.GH
namespace Go.GH
open Go Go.Lib
/-- Ways, longest first step first: what was collected after so many ends. -/
def wayN (l : List Bx) (w : Int) (i : Nat) (D : Nat → List (List Nat)) : Nat → List (List Nat)
  | 0 => []
  | d + 1 => wayN l w i D d ++ if lenP l i (ptN l - 1 - d) ≤ w then (D (ptN l - 1 - d)).map (fun x => (ptN l - 1 - d) :: x) else []
def wayF (l : List Bx) (w : Int) : Nat → Nat → List (List Nat)
  | 0, _ => []
  | f + 1, i => if i = ptN l - 1 then [[]] else wayN l w i (wayF l w f) (ptN l - 1 - i)
def divN (l : List Bx) (w : Int) (i : Nat) (D : Nat → List (List Ln)) : Nat → List (List Ln)
  | 0 => []
  | d + 1 => divN l w i D d ++ if lenP l i (ptN l - 1 - d) ≤ w then (D (ptN l - 1 - d)).map (fun x => lineP l i (ptN l - 1 - d) :: x) else []
theorem divN_way {l : List Bx} {w : Int} {i : Nat} {D : Nat → List (List Nat)} : ∀ d, divN l w i (fun n => (D n).map (linesOf l n)) d = (wayN l w i D d).map (linesOf l i)
  | 0 => rfl
  | d + 1 => by
    rw [divN, wayN, List.map_append, divN_way d]
    congr 1
    split
    · rw [List.map_map, List.map_map]; rfl
    · rfl
def divsR (l : List Bx) (w : Int) (i : Nat) : List (List Ln) := (wayF l w (ptN l) i).map (linesOf l i)
theorem wayF_fuel {l : List Bx} {w : Int} : ∀ (f g i : Nat), i ≤ ptN l - 1 → ptN l - 1 < f + i → ptN l - 1 < g + i → wayF l w f i = wayF l w g i
  | 0, g, i, h1, h2, _ => by omega
  | f + 1, 0, i, h1, _, h3 => by omega
  | f + 1, g + 1, i, h1, h2, h3 => by
    rw [wayF, wayF]
    split
    · rfl
    · rename_i hi
      have key : ∀ d, d ≤ ptN l - 1 - i → wayN l w i (wayF l w f) d = wayN l w i (wayF l w g) d := fun d => by
        induction d with
        | zero => intro _; rfl
        | succ d ih =>
          intro hd
          rw [wayN, wayN, ih (by omega), wayF_fuel f g (ptN l - 1 - d) (by omega) (by omega) (by omega)]
      exact key _ (Nat.le_refl _)
theorem wayF_len {l : List Bx} {w : Int} : ∀ (f i : Nat), i ≤ ptN l - 1 → (wayF l w f i).length ≤ 2 ^ (ptN l - 1 - i) ∧ ∀ x ∈ wayF l w f i, x.length ≤ f
  | 0, i, _ => ⟨Nat.zero_le _, fun x hx => by cases hx⟩
  | f + 1, i, hi => by
    rw [wayF]
    split
    · rename_i h
      rw [h, Nat.sub_self]
      exact ⟨Nat.le_refl _, fun x hx => by rw [List.mem_singleton.1 hx]; exact Nat.zero_le _⟩
    · rename_i h
      have key : ∀ d, d ≤ ptN l - 1 - i → (wayN l w i (wayF l w f) d).length + 1 ≤ 2 ^ d ∧ ∀ x ∈ wayN l w i (wayF l w f) d, x.length ≤ f + 1 := fun d => by
        induction d with
        | zero => intro _; exact ⟨Nat.le_refl _, fun x hx => by cases hx⟩
        | succ d ih =>
          intro hd
          obtain ⟨k1, k2⟩ := ih (by omega)
          obtain ⟨q1, q2⟩ := wayF_len (l := l) (w := w) f (ptN l - 1 - d) (by omega)
          rw [show ptN l - 1 - (ptN l - 1 - d) = d by omega] at q1
          rw [wayN, Nat.pow_succ]
          split
          · rw [List.length_append, List.length_map]
            refine ⟨by omega, fun x hx => ?_⟩
            rcases List.mem_append.1 hx with hx | hx
            · exact k2 x hx
            · obtain ⟨y, hy, rfl⟩ := List.mem_map.1 hx
              have := q2 y hy
              rw [List.length_cons]; omega
          · rw [List.append_nil]
            exact ⟨by omega, k2⟩
      have := key _ (Nat.le_refl _)
      exact ⟨by omega, this.2⟩
theorem wayF_fit {l : List Bx} {w : Int} : ∀ (f i : Nat), i ≤ ptN l - 1 → ∀ x ∈ wayF l w f i, Fit l w i x (ptN l - 1)
  | 0, i, _, x, hx => by cases hx
  | f + 1, i, hi, x, hx => by
    have hpos := ptN_pos l
    rw [wayF] at hx
    split at hx
    · rename_i h
      rw [List.mem_singleton.1 hx]
      exact h
    · rename_i h
      have key : ∀ d, d ≤ ptN l - 1 - i → ∀ x ∈ wayN l w i (wayF l w f) d, Fit l w i x (ptN l - 1) := fun d => by
        induction d with
        | zero => intro _ x hx; cases hx
        | succ d ih =>
          intro hd x hx
          rw [wayN] at hx
          rcases List.mem_append.1 hx with hx | hx
          · exact ih (by omega) x hx
          · split at hx
            · rename_i h2
              obtain ⟨y, hy, rfl⟩ := List.mem_map.1 hx
              exact ⟨by omega, by omega, h2, wayF_fit f _ (by omega) y hy⟩
            · cases hx
      exact key _ (Nat.le_refl _) x hx
/-! how many -/
theorem way_cnt {l : List Bx} {w : Int} (hb : boxesB l = true) (h11 : ptN l ≤ 30) : ∀ (f i : Nat), i ≤ ptN l - 1 → ptN l - 1 < f + i → ((wayF l w f i).length : Int) = cntP l w i
  | 0, i, h1, h2 => by omega
  | f + 1, i, h1, h2 => by
    have hpos := ptN_pos l
    have hlen := (wayF_len (w := w) (f + 1) i h1).1
    rw [wayF] at hlen ⊢
    split
    · rename_i h
      rw [h, cntP_last]; rfl
    · rename_i h
      rw [if_neg h] at hlen
      obtain ⟨c1, c2⟩ := cntP_step w (show i < ptN l - 1 by omega)
      have hsg := stopP_gt l w i
      have hsl := stopP_le (l := l) (w := w) (show i < ptN l by omega)
      -- the sum without the cap, from the end
      have hpow : 2 ^ (ptN l - 1 - i) ≤ 2 ^ 29 := Nat.pow_le_pow_right (by omega) (by omega)
      have key : ∀ d, d ≤ ptN l - 1 - i → ((wayN l w i (wayF l w f) (ptN l - 1 - i)).length : Int) = ((wayN l w i (wayF l w f) (ptN l - 1 - i - d)).length : Int) + brkV (brkL l w (ptN l - 2 - i)) (min d (stopP l w i - (i + 1))) := fun d => by
        induction d with
        | zero => intro _; rw [Nat.sub_zero, Nat.zero_min]; exact (Int.add_zero _).symm
        | succ d ih =>
          intro hd
          have e := ih (by omega)
          have hc := c2 d (by omega)
          have hw := way_cnt (w := w) hb h11 f (i + 1 + d) (by omega) (by omega)
          rw [← hc] at hw
          rw [show ptN l - 1 - i - d = (ptN l - 1 - i - (d + 1)) + 1 by omega, wayN, List.length_append] at e
          rw [show ptN l - 1 - (ptN l - 1 - i - (d + 1)) = i + 1 + d by omega] at e
          have hfit := stop_iff (w := w) hb (show i < i + 1 + d by omega) (show i + 1 + d < ptN l by omega)
          by_cases hs : i + 1 + d < stopP l w i
          · rw [if_pos (hfit.1 hs), List.length_map] at e
            rw [show min (d + 1) (stopP l w i - (i + 1)) = d + 1 by omega]
            rw [show min d (stopP l w i - (i + 1)) = d by omega] at e
            show _ = _ + minC (brkV (brkL l w (ptN l - 2 - i)) d + (brkL l w (ptN l - 2 - i)).getD d 0)
            have hb1 := brkV_nn (brkL_nn l w (ptN l - 2 - i)) d
            have hle : brkV (brkL l w (ptN l - 2 - i)) d + (brkL l w (ptN l - 2 - i)).getD d 0 ≤ 536870912 := by omega
            unfold minC
            rw [if_neg (by omega)]
            omega
          · rw [if_neg (fun h => hs (hfit.2 h)), List.length_nil] at e
            rw [show min (d + 1) (stopP l w i - (i + 1)) = min d (stopP l w i - (i + 1)) by omega]
            omega
      have := key (ptN l - 1 - i) (Nat.le_refl _)
      rw [Nat.sub_self] at this
      rw [c1, this, show min (ptN l - 1 - i) (stopP l w i - (i + 1)) = stopP l w i - (i + 1) by omega]
      exact Int.zero_add _
/-! the first cheapest -/
def pick1 {α : Type} (c : α → Int) (x : α × Int) (d : α) : α × Int := if x.2 < 0 ∨ c d < x.2 then (d, c d) else x
def pickL {α : Type} (c : α → Int) (x : α × Int) (ds : List α) : α × Int := ds.foldl (pick1 c) x
theorem pickL_app {α : Type} (c : α → Int) (x : α × Int) (s t : List α) : pickL c x (s ++ t) = pickL c (pickL c x s) t := List.foldl_append
/-- Of ways that all begin alike. -/
theorem pickL_map {α : Type} {c c2 : α → Int} {g : α → α} {s : Int} (hs : 0 ≤ s) (hc : ∀ d, c (g d) = s + c2 d) : ∀ (ds : List α) (e : α) (x0 : α × Int), (∀ d ∈ ds, 0 ≤ c2 d) → -1 ≤ x0.2 →
    (pickL c2 (e, -1) ds).2 = -1 ∧ ds = [] ∧ pickL c x0 (ds.map g) = x0 ∨
      0 ≤ (pickL c2 (e, -1) ds).2 ∧ ds ≠ [] ∧ pickL c x0 (ds.map g) = if x0.2 < 0 ∨ s + (pickL c2 (e, -1) ds).2 < x0.2 then (g (pickL c2 (e, -1) ds).1, s + (pickL c2 (e, -1) ds).2) else x0 := by
  intro ds e x0 h h0
  -- at any state of the inner search
  have gen : ∀ (ds : List α) (y : α × Int) (x0 : α × Int), (∀ d ∈ ds, 0 ≤ c2 d) → 0 ≤ y.2 → -1 ≤ x0.2 → 0 ≤ (pickL c2 y ds).2 ∧
      pickL c (if x0.2 < 0 ∨ s + y.2 < x0.2 then (g y.1, s + y.2) else x0) (ds.map g) = if x0.2 < 0 ∨ s + (pickL c2 y ds).2 < x0.2 then (g (pickL c2 y ds).1, s + (pickL c2 y ds).2) else x0 := by
    intro ds
    induction ds with
    | nil => intro y x0 _ hy _; exact ⟨hy, rfl⟩
    | cons d ds ih =>
      intro y x0 hd hy hx
      have hd0 := hd d (List.mem_cons_self ..)
      have hrest := fun q hq => hd q (List.mem_cons_of_mem _ hq)
      show 0 ≤ (pickL c2 (pick1 c2 y d) ds).2 ∧ pickL c (pick1 c _ (g d)) (ds.map g) = if x0.2 < 0 ∨ s + (pickL c2 (pick1 c2 y d) ds).2 < x0.2 then (g (pickL c2 (pick1 c2 y d) ds).1, s + (pickL c2 (pick1 c2 y d) ds).2) else x0
      have hy2 : 0 ≤ (pick1 c2 y d).2 := by unfold pick1; split <;> assumption
      have := ih (pick1 c2 y d) x0 hrest hy2 hx
      refine ⟨this.1, ?_⟩
      rw [← this.2]
      congr 1
      unfold pick1
      rw [hc]
      by_cases h1 : x0.2 < 0 ∨ s + y.2 < x0.2
      · rw [if_pos h1]
        dsimp only
        by_cases h2 : c2 d < y.2
        · rw [if_pos (show s + y.2 < 0 ∨ s + c2 d < s + y.2 by omega), if_pos (show y.2 < 0 ∨ c2 d < y.2 by omega)]
          dsimp only
          rw [if_pos (by omega)]
        · rw [if_neg (show ¬ (s + y.2 < 0 ∨ s + c2 d < s + y.2) by omega), if_neg (show ¬ (y.2 < 0 ∨ c2 d < y.2) by omega), if_pos h1]
      · rw [if_neg h1]
        by_cases h2 : c2 d < y.2
        · rw [if_pos (show y.2 < 0 ∨ c2 d < y.2 by omega)]
        · rw [if_neg (show ¬ (y.2 < 0 ∨ c2 d < y.2) by omega), if_neg h1, if_neg (by omega)]
  cases ds with
  | nil => exact .inl ⟨rfl, rfl, rfl⟩
  | cons d ds =>
    have hd0 := h d (List.mem_cons_self ..)
    have h1 := gen ds (d, c2 d) x0 (fun q hq => h q (List.mem_cons_of_mem _ hq)) hd0 h0
    have e1 : pickL c2 (e, -1) (d :: ds) = pickL c2 (d, c2 d) ds := by
      show pickL c2 (pick1 c2 (e, -1) d) ds = _
      unfold pick1
      rw [if_pos (.inl (by show (-1 : Int) < 0; omega))]
    rw [e1]
    refine .inr ⟨h1.1, by simp, ?_⟩
    rw [← h1.2]
    show pickL c (pick1 c x0 (g d)) (ds.map g) = _
    unfold pick1
    rw [hc]
/-- The first cheapest way is the one that the search finds. -/
theorem pick_way {l : List Bx} {w pen : Int} (hb : boxesB l = true) (hp : 0 ≤ pen) : ∀ (f i : Nat), i ≤ ptN l - 1 → ptN l - 1 < f + i →
    ((bestP l w pen i).1 < 0 ∧ wayF l w f i = []) ∨ (0 ≤ (bestP l w pen i).1 ∧ pickL (costP l w pen i) ([], -1) (wayF l w f i) = (pathF (ptN l - 1) (nextL l w pen) f i, (bestP l w pen i).1))
  | 0, i, h1, h2 => by omega
  | f + 1, i, h1, h2 => by
    have hpos := ptN_pos l
    rw [wayF, pathF]
    by_cases hi : i = ptN l - 1
    · rw [if_pos hi, if_neg (by omega), hi, bestP_last]
      exact .inr ⟨Int.le_refl _, rfl⟩
    · rw [if_neg hi, if_pos (by omega), nextL_at]
      obtain ⟨s1, s2⟩ := bestP_spec (w := w) hb hp (show i < ptN l - 1 by omega)
      -- after the ends from the last one down
      have key : ∀ d, d ≤ ptN l - 1 - i →
          ((pickL (costP l w pen i) ([], -1) (wayN l w i (wayF l w f) d) = ([], -1) ∧ wayN l w i (wayF l w f) d = [] ∧ ∀ n, ptN l - 1 - d < n → n < ptN l → ¬ (lenP l i n ≤ w ∧ 0 ≤ (bestP l w pen n).1)) ∨
          (∃ n, ptN l - 1 - d < n ∧ n < ptN l ∧ lenP l i n ≤ w ∧ 0 ≤ (bestP l w pen n).1 ∧ pickL (costP l w pen i) ([], -1) (wayN l w i (wayF l w f) d) = (n :: pathF (ptN l - 1) (nextL l w pen) f n, stepC l w pen i n + (bestP l w pen n).1) ∧
            (∀ m, n < m → m < ptN l → lenP l i m ≤ w → 0 ≤ (bestP l w pen m).1 → (bestP l w pen n).1 + stepC l w pen i n < (bestP l w pen m).1 + stepC l w pen i m) ∧
            (∀ m, ptN l - 1 - d < m → m < n → lenP l i m ≤ w → 0 ≤ (bestP l w pen m).1 → (bestP l w pen n).1 + stepC l w pen i n ≤ (bestP l w pen m).1 + stepC l w pen i m))) := fun d => by
        induction d with
        | zero => intro _; exact .inl ⟨rfl, rfl, fun n h1 h2 => by omega⟩
        | succ d ih =>
          intro hd
          have ih := ih (by omega)
          rw [wayN, pickL_app]
          obtain ⟨k, hk⟩ : ∃ k, k = ptN l - 1 - d := ⟨_, rfl⟩
          rw [← hk] at ih ⊢
          have hkk : ptN l - 1 - (d + 1) + 1 = k := by omega
          by_cases hf : lenP l i k ≤ w
          · rw [if_pos hf]
            have hrec := pick_way hb hp f k (by omega) (by omega) (w := w)
            have hst := stepC_nonneg (l := l) (w := w) (a := i) (k := k) hp
            have hx0 : -1 ≤ (pickL (costP l w pen i) ([], -1) (wayN l w i (wayF l w f) d)).2 := by
              rcases ih with ⟨q, _⟩ | ⟨n, _, _, _, q4, q, _⟩
              · rw [q]; exact Int.le_refl _
              · rw [q]
                have := stepC_nonneg (l := l) (w := w) (a := i) (k := n) hp
                dsimp only; omega
            have hm := pickL_map (c := costP l w pen i) (c2 := costP l w pen k) (g := fun x => k :: x) hst (fun d => rfl) (wayF l w f k) [] (pickL (costP l w pen i) ([], -1) (wayN l w i (wayF l w f) d)) (fun x _ => costP_nonneg hp) hx0
            rcases hrec with ⟨r1, r2⟩ | ⟨r1, r2⟩
            · rw [r2, List.map_nil, List.append_nil]
              show _ ∨ _
              rcases ih with ⟨q1, q2, q3⟩ | ⟨n, n1, n2, n3, n4, n5, n6, n7⟩
              · refine .inl ⟨q1, q2, fun n h1 h2 => ?_⟩
                rcases Nat.lt_or_ge k n with h3 | h3
                · exact q3 n h3 h2
                · obtain rfl : n = k := by omega
                  exact fun h => by omega
              · refine .inr ⟨n, by omega, n2, n3, n4, n5, n6, fun m m1 m2 m3 m4 => ?_⟩
                rcases Nat.lt_or_ge k m with h3 | h3
                · exact n7 m h3 m2 m3 m4
                · obtain rfl : m = k := by omega
                  omega
            · rw [r2] at hm
              rcases hm with ⟨m1, _, _⟩ | ⟨m1, m2, m3⟩
              · dsimp only at m1; omega
              · dsimp only at m1 m3
                rw [m3]
                rcases ih with ⟨q1, q2, q3⟩ | ⟨n, n1, n2, n3, n4, n5, n6, n7⟩
                · rw [q1]
                  refine .inr ⟨k, by omega, by omega, hf, r1, ?_, fun m h1 h2 h3 h4 => absurd ⟨h3, h4⟩ (q3 m h1 h2), fun m h1 h2 => by omega⟩
                  rw [if_pos (.inl (by show (-1 : Int) < 0; omega))]
                · rw [n5]
                  dsimp only
                  have hsn := stepC_nonneg (l := l) (w := w) (a := i) (k := n) hp
                  by_cases hlt : stepC l w pen i k + (bestP l w pen k).1 < stepC l w pen i n + (bestP l w pen n).1
                  · rw [if_pos (.inr hlt)]
                    refine .inr ⟨k, by omega, by omega, hf, r1, rfl, fun m h1 h2 h3 h4 => ?_, fun m h1 h2 => by omega⟩
                    rcases Nat.lt_or_ge n m with h5 | h5
                    · have := n6 m h5 h2 h3 h4; omega
                    · rcases Nat.lt_or_ge m n with h6 | h6
                      · have := n7 m h1 h6 h3 h4; omega
                      · obtain rfl : m = n := by omega
                        omega
                  · rw [if_neg (by omega)]
                    refine .inr ⟨n, by omega, n2, n3, n4, rfl, n6, fun m h1 h2 h3 h4 => ?_⟩
                    rcases Nat.lt_or_ge k m with h5 | h5
                    · exact n7 m h5 h2 h3 h4
                    · obtain rfl : m = k := by omega
                      omega
          · rw [if_neg hf, List.append_nil]
            show _ ∨ _
            rcases ih with ⟨q1, q2, q3⟩ | ⟨n, n1, n2, n3, n4, n5, n6, n7⟩
            · refine .inl ⟨q1, q2, fun n h1 h2 => ?_⟩
              rcases Nat.lt_or_ge k n with h3 | h3
              · exact q3 n h3 h2
              · obtain rfl : n = k := by omega
                exact fun h => hf h.1
            · refine .inr ⟨n, by omega, n2, n3, n4, n5, n6, fun m m1 m2 m3 m4 => ?_⟩
              rcases Nat.lt_or_ge k m with h3 | h3
              · exact n7 m h3 m2 m3 m4
              · obtain rfl : m = k := by omega
                exact absurd m3 hf
      rcases key (ptN l - 1 - i) (Nat.le_refl _) with ⟨q1, q2, q3⟩ | ⟨n, n1, n2, n3, n4, n5, n6, n7⟩
      · refine .inl ⟨?_, q2⟩
        rcases Int.lt_or_le (bestP l w pen i).1 0 with h3 | h3
        · exact h3
        · obtain ⟨n, n1, n2, n3, _, n5, _⟩ := s2 h3
          exact absurd ⟨n3, n5⟩ (q3 n (by omega) n2)
      · have hin : i < n := by omega
        have h5 := s1 n hin n2 n3 n4
        obtain ⟨m, m1, m2, m3, m4, m5, m6, m7⟩ := s2 h5.1
        have hmn : m = n := by
          rcases Nat.lt_trichotomy m n with h6 | h6 | h6
          · have h7 := m7 n h6 n2 n3 n4
            have h8 := n7 m (by omega) h6 m3 m5
            omega
          · exact h6
          · have h7 := n6 m h6 m2 m3 m5
            omega
        subst hmn
        refine .inr ⟨h5.1, ?_⟩
        rw [n5, m4, Int.toNat_natCast, m6, Int.add_comm]
end Go.GH
namespace Go.GH
open Go Go.Lib
theorem costAt_succ (ln : Ln) (l : List Ln) (w p : Int) (k : Nat) : costAt (ln :: l) w p (k + 1) = costAt l w p k := by
  unfold costAt lnAt
  rw [List.length_cons, List.getD_cons_succ]
  congr 1
  by_cases h : k + 1 < l.length
  · rw [if_pos h, if_pos (by omega)]
  · rw [if_neg h, if_neg (by omega)]
theorem sumK_succ (ln : Ln) (l : List Ln) (w p : Int) : ∀ k, sumK (ln :: l) w p (k + 1) = costAt (ln :: l) w p 0 + sumK l w p k
  | 0 => by show 0 + costAt _ _ _ 0 = costAt _ _ _ 0 + 0; omega
  | k + 1 => by
    have ih := sumK_succ ln l w p k
    rw [sumK, ih, costAt_succ, sumK]; omega
theorem sumL_cons (ln : Ln) (l : List Ln) (w p : Int) : sumL (ln :: l) w p = ((if 0 < l.length then freeL w ln * freeL w ln else 0) + if ln.hyph then p else 0) + sumL l w p := by
  unfold sumL
  rw [List.length_cons, sumK_succ]
  congr 1
  unfold costAt lnAt
  rw [List.length_cons, List.getD_cons_zero]
  congr 1
  by_cases h : 0 < l.length
  · rw [if_pos h, if_pos (by omega)]
  · rw [if_neg h, if_neg (by omega)]
theorem way_sum {l : List Bx} {w pen : Int} (hb : boxesB l = true) : ∀ {i : Nat} {ks : List Nat}, Fit l w i ks (ptN l - 1) → sumL (linesOf l i ks) w pen = costP l w pen i ks
  | _, [], _ => rfl
  | i, k :: ks, ⟨h1, h2, h3, h4⟩ => by
    have ih := way_sum hb (pen := pen) h4
    show sumL (lineP l i k :: linesOf l k ks) w pen = stepC l w pen i k + costP l w pen k ks
    rw [sumL_cons, ih, linesOf_len, free_line hb h1 h2]
    have e : (lineP l i k).hyph = hyP l k := rfl
    rw [e]
    unfold stepC
    have hk : 0 < ks.length ↔ k < ptN l - 1 := by
      cases ks with
      | nil => have h5 : k = ptN l - 1 := h4; simp; omega
      | cons q qs => have h5 := h4.2.2.2.le; have h6 := h4.1; simp; omega
    by_cases h5 : 0 < ks.length
    · rw [if_pos h5, if_pos (hk.1 h5)]
    · rw [if_neg h5, if_neg (fun h => h5 (hk.2 h))]
theorem way_ok {l : List Bx} {w : Int} (hb : boxesB l = true) : ∀ {i z : Nat} {ks : List Nat}, Fit l w i ks z → ∀ x ∈ linesOf l i ks, LnOK x
  | _, _, [], _, x, hx => by cases hx
  | i, z, k :: ks, ⟨h1, h2, h3, h4⟩, x, hx => by
    rcases List.mem_cons.1 hx with rfl | hx
    · exact line_ok hb h1 h2
    · exact way_ok hb h4 x hx
theorem cnt_pts {l : List Bx} : ∀ k, k ≤ l.length → (ptsF (l.take k)).length + 1 = cntB (l.take k)
  | 0, _ => by rw [List.take_zero]; rfl
  | k + 1, hk => by
    have ih := cnt_pts k (by omega) (l := l)
    rw [ptsF_take (by omega), cntB_take (by omega), List.length_append, List.length_cons, List.length_map]
    omega
theorem ptN_cnt (l : List Bx) : ptN l = cntB l := by
  have h := cnt_pts l.length (Nat.le_refl _) (l := l)
  rw [List.take_length] at h
  rw [ptN_eq, pointsL, List.length_append, List.length_singleton, h]
theorem divsR_bound {l : List Bx} {w : Int} (h : ptN l ≤ 11) {i : Nat} (hi : i ≤ ptN l - 1) : (divsR l w i).length ≤ 1024 ∧ ∀ x ∈ divsR l w i, x.length ≤ 11 := by
  have h1 := wayF_len (l := l) (w := w) (ptN l) i hi
  have h2 : 2 ^ (ptN l - 1 - i) ≤ 2 ^ 10 := Nat.pow_le_pow_right (by omega) (by omega)
  unfold divsR
  rw [List.length_map]
  refine ⟨by omega, fun x hx => ?_⟩
  obtain ⟨y, hy, rfl⟩ := List.mem_map.1 hx
  rw [linesOf_len]
  have := h1.2 y hy
  omega
theorem divN_bound {l : List Bx} {w : Int} {i : Nat} {D : Nat → List (List Ln)} (h : ∀ n, (D n).length ≤ 100000) : ∀ d, (divN l w i D d).length ≤ 100000 * d
  | 0 => Nat.zero_le _
  | d + 1 => by
    have ih := divN_bound h d (l := l) (w := w) (i := i)
    have := h (ptN l - 1 - d)
    rw [divN, List.length_append]
    split
    · rw [List.length_map]; omega
    · rw [List.length_nil]; omega
theorem divN_congr {l : List Bx} {w : Int} {i : Nat} {D E : Nat → List (List Ln)} (h : ∀ n, n ≤ ptN l - 1 → D n = E n) : ∀ d, divN l w i D d = divN l w i E d
  | 0 => rfl
  | d + 1 => by rw [divN, divN, divN_congr h d, h _ (Nat.sub_le _ _)]
theorem divsR_step {l : List Bx} {w : Int} {i : Nat} (hi : i < ptN l - 1) : divsR l w i = divN l w i (divsR l w) (ptN l - 1 - i) := by
  have hpos := ptN_pos l
  unfold divsR
  rw [divN_way]
  congr 1
  obtain ⟨f, hf⟩ : ∃ f, ptN l = f + 1 := ⟨ptN l - 1, by omega⟩
  rw [show wayF l w (ptN l) i = wayF l w (f + 1) i by rw [hf], wayF, if_neg (by omega)]
  have key : ∀ d, d ≤ ptN l - 1 - i → wayN l w i (wayF l w f) d = wayN l w i (wayF l w (ptN l)) d := fun d => by
    induction d with
    | zero => intro _; rfl
    | succ d ih =>
      intro hd
      rw [wayN, wayN, ih (by omega), wayF_fuel f (ptN l) (ptN l - 1 - d) (by omega) (by omega) (by omega)]
  exact key _ (Nat.le_refl _)
theorem divsR_last {l : List Bx} {w : Int} : divsR l w (ptN l - 1) = [[]] := by
  have hpos := ptN_pos l
  obtain ⟨f, hf⟩ : ∃ f, ptN l = f + 1 := ⟨ptN l - 1, by omega⟩
  unfold divsR
  rw [show wayF l w (ptN l) (ptN l - 1) = wayF l w (f + 1) (ptN l - 1) by rw [hf], wayF, if_pos rfl]
  rfl
def endK : Nat → List Nat → Nat
  | a, [] => a
  | _, k :: ks => endK k ks
theorem endK_snoc (a : Nat) (ks : List Nat) (n : Nat) : endK a (ks ++ [n]) = n := by
  induction ks generalizing a with
  | nil => rfl
  | cons k ks ih => exact ih k
theorem linesOf_snoc (l : List Bx) (n : Nat) : ∀ (a : Nat) (ks : List Nat), linesOf l a (ks ++ [n]) = linesOf l a ks ++ [lineP l (endK a ks) n]
  | _, [] => rfl
  | a, k :: ks => by
    show lineP l a k :: linesOf l k (ks ++ [n]) = _
    rw [linesOf_snoc l n k ks]; rfl
def encDv (x : List Ln) : List DV := [DLns x]
abbrev DDs (xs : List (List Ln)) : DV := .isl false 1 (xs.map encDv)
/-- What the reference's search through all divisions keeps. -/
def keepR (w pen : Int) (xs : List (List Ln)) : List Ln × Int := pickL (fun d => sumL d w pen) ([], -1) xs
theorem keep_way {l : List Bx} {w pen : Int} (hb : boxesB l = true) : ∀ (xs : List (List Nat)) (x : List Nat × Int), (∀ y ∈ xs, Fit l w 0 y (ptN l - 1)) → pickL (fun d => sumL d w pen) (linesOf l 0 x.1, x.2) (xs.map (linesOf l 0)) = (linesOf l 0 (pickL (costP l w pen 0) x xs).1, (pickL (costP l w pen 0) x xs).2)
  | [], x, _ => rfl
  | y :: xs, x, h => by
    have hy := way_sum (pen := pen) hb (h y (List.mem_cons_self ..))
    have ih := keep_way (pen := pen) hb xs (pick1 (costP l w pen 0) x y) (fun q hq => h q (List.mem_cons_of_mem _ hq))
    show pickL _ (pick1 _ (linesOf l 0 x.1, x.2) (linesOf l 0 y)) (xs.map (linesOf l 0)) = _
    have e : pick1 (fun d => sumL d w pen) (linesOf l 0 x.1, x.2) (linesOf l 0 y) = (linesOf l 0 (pick1 (costP l w pen 0) x y).1, (pick1 (costP l w pen 0) x y).2) := by
      show (if x.2 < 0 ∨ sumL (linesOf l 0 y) w pen < x.2 then (linesOf l 0 y, sumL (linesOf l 0 y) w pen) else (linesOf l 0 x.1, x.2)) = _
      simp only [hy]
      unfold pick1
      split <;> rfl
    rw [e, ih]; rfl
theorem lines_keep {l : List Bx} {w pen : Int} (hv : validL l w = true) (hp : penB pen = true) : linesR l w pen = if (keepR w pen (divsR l w 0)).2 < 0 then ([], 0, 2) else ((keepR w pen (divsR l w 0)).1, (keepR w pen (divsR l w 0)).2, 0) := by
  have hb := (valid_of hv).2
  have hp0 := (penB_iff.1 hp).1
  have hpos := ptN_pos l
  have hk := keep_way (pen := pen) hb (wayF l w (ptN l) 0) ([], -1) (fun y hy => wayF_fit _ _ (Nat.zero_le _) y hy)
  have hke : keepR w pen (divsR l w 0) = (linesOf l 0 (pickL (costP l w pen 0) ([], -1) (wayF l w (ptN l) 0)).1, (pickL (costP l w pen 0) ([], -1) (wayF l w (ptN l) 0)).2) := hk
  have hbp : ((bstL l w pen (ptN l - 1)).getD 0 (0, 0)).1 = (bestP l w pen 0).1 := rfl
  unfold linesR
  rw [if_pos (by rw [hv, hp]; rfl), hbp, hke]
  rcases pick_way (w := w) hb hp0 (ptN l) 0 (Nat.zero_le _) (by omega) with ⟨h1, h2⟩ | ⟨h1, h2⟩
  · rw [if_pos h1, h2]
    rw [if_pos (by show (-1 : Int) < 0; omega)]
  · rw [if_neg (by omega), h2]
    dsimp only
    rw [if_neg (by omega)]
    rfl
end Go.GH
namespace Go.GH
open Go Go.Proofs
variable {E : Env}
theorem aggB_80_2 : aggB Tryd.prog 80 2 = true := by kernel_rfl
theorem qBetween (l : List Bx) (i k : Nat) (hb : boxesB l = true) (hik : i < k) (hk : k < ptN l) (h1 : i < (pointsL l).length) (h2 : k < (pointsL l).length) : GCall Tryd.prog E 54 [DBxs l, .agg (encK (pointsL l)[i]), .agg (encK (pointsL l)[k])] [] (fun d H => d = .agg (encLn (lineP l i k)) ∧ H = []) := by
  rw [← ptQ_lt (show i < ptN l by omega), ← ptQ_lt hk]
  refine (qBetween0 l _ _ hb (ptQ_small hb (by omega)) (ptQ_ok hb hk)).clean (fun d H e => ⟨_, fun _ _ _ h => h, ?_⟩)
  rw [e, btw_eq hb (ptQ_small hb (by omega)) (ptQ_ok hb hk) (ptQ_ltP hb hik hk)]
  have e2 : lineP l i k = ⟨pcW l (ptQ l i) (ptQ l k), decide (0 < (ptQ l k).2)⟩ := by
    have h3 := line_words hb hik hk
    have h4 := (colP_eq hk).2
    rw [h4] at h3
    rw [← h3.1, ← h3.2]
  rw [e2]
theorem qGreedy0 (l : List Bx) (w : Int) (hb : boxesB l = true) (hw1 : 1 ≤ w) (hw2 : w ≤ 200) : GCall Tryd.prog E 23 [DBxs l, .v (.int .i64 w)] [] (fun d H => d = (match greedyF l w (ptN l) 0 with | some ks => .tup [DLns (linesOf l 0 ks), .v (.int .i64 0)] | none => .tup [.v (.slice none 0 0), .v (.int .i64 2)])) := by
  have hbn := bnds_of hb
  have hpe : (pointsL l).length = ptN l := (ptN_eq l).symm
  have hpos := ptN_pos l
  have hNl := ptN_le hb
  refine GCall.body (C := ⟨Tryd.prog, E, true⟩) Tryd.func23 rfl (fun _ => rfl) (by kernel_rfl) rfl ?_
  refine SCode.seqR ?_
  refine SOps.assign rfl ?_
  refine SOps.assign rfl ?_
  refine SOps.nil ?_
  refine SCode.seqR ?_
  refine SOps.move rfl ?_
  refine SOps.callP (qPoints l (fun b h => by have := hbn.pts b h; omega) (by have := hbn.len; omega)) rfl ?_
  rintro _ rfl
  refine SOps.assign rfl ?_
  refine SOps.nil ?_
  refine SCode.seqR ?_
  refine SOps.assign rfl ?_
  refine SOps.nil ?_
  refine SCode.seq ?_
  refine SCode.seqR ?_
  refine SOps.assign rfl ?_
  refine SOps.nil ?_
  refine SCode.block ?_
  refine SCode.loop4 (fun (i : Nat) (b : Nat) (ks : List Nat) (f : Nat) => (⟨58, [(0, DBxs l), (1, .v (.int .i64 w)), (6, DKs (pointsL l)), (7, accD 2 b ((linesOf l 0 ks).map encLn)), (8, .v (.int .i64 (i : Int)))], accH 48 2 b ((linesOf l 0 ks).map encLn) ++ []⟩ : St)) (fun (i : Nat) (b : Nat) (ks : List Nat) (f : Nat) => i ≤ ptN l - 1 ∧ endK 0 ks = i ∧ ks.length ≤ i ∧ ptN l ≤ f + i ∧ greedyF l w (ptN l) 0 = (greedyF l w f i).map (fun q => ks ++ q)) (fun (i : Nat) (b : Nat) (ks : List Nat) (f : Nat) => ptN l - i) (0) (0) ([]) ((ptN l)) (by exact ⟨Nat.zero_le _, rfl, Nat.le_refl _, Nat.le_refl _, by simp⟩) (St.Le.of ⟨(by first | rfl | (show some _ = some _; simp)), (by first | rfl | (show some _ = some _; simp)), (by first | rfl | (show some _ = some _; simp)), (by first | rfl | (show some _ = some _; simp)), (by first | rfl | (show some _ = some _; simp)), trivial⟩ rfl (by first | rfl | (simp))) ?_
  rintro i b ks f ⟨hile, hek, hkl, hff, hgr⟩
  have hll := linesOf_len l 0 ks
  refine SCode.seq ?_
  refine SCode.seqR ?_
  refine SOps.move rfl ?_
  refine SOps.move rfl ?_
  refine SOps.lenM rfl sliceB_75_80_2 ?_
  refine SOps.subI rfl rfl (by first | omega | (simp only [lenB] <;> omega)) (by first | omega | (simp only [lenB] <;> omega)) ?_
  refine SOps.bin rfl rfl rfl ?_
  refine SOps.nil ?_
  refine SCode.cond rfl (fun hc1 => ?_) (fun hc1 => ?_)
  · try simp only [decide_eq_true_eq, decide_eq_false_iff_not, Bool.not_eq_true', Bool.not_eq_false', beq_iff_eq, bne_iff_ne, ne_eq, beq_eq_false_iff_ne, bne_eq_false_iff_eq, Int.not_lt, Int.not_le, Nat.not_lt, Nat.not_le, Int.ofNat_lt, Int.ofNat_le, Bool.not_eq_eq_eq_not, Bool.not_true, Bool.not_false] at hc1
    have hsg := stopP_gt l w i
    have hsl := stopP_le (l := l) (w := w) (show i < ptN l by omega)
    refine SCode.skip ?_
    show SCode _ _ _ _
    refine SCode.block ?_
    refine SCode.seqR ?_
    refine SOps.move rfl ?_
    refine SOps.lenM rfl sliceB_75_80_2 ?_
    refine SOps.subI rfl rfl (by first | omega | (simp only [lenB] <;> omega)) (by first | omega | (simp only [lenB] <;> omega)) ?_
    refine SOps.assign rfl ?_
    refine SOps.nil ?_
    refine SCode.seq ?_
    refine SCode.block ?_
    refine SCode.loop1 (fun (n : Nat) => (⟨58, [(0, DBxs l), (1, .v (.int .i64 w)), (6, DKs (pointsL l)), (7, accD 2 b ((linesOf l 0 ks).map encLn)), (8, .v (.int .i64 (i : Int))), (9, .v (.int .i64 (n : Int)))], accH 48 2 b ((linesOf l 0 ks).map encLn) ++ []⟩ : St)) (fun (n : Nat) => i ≤ n ∧ n ≤ ptN l - 1 ∧ stopP l w i ≤ n + 1) (fun (n : Nat) => n) ((ptN l - 1)) (by exact ⟨by omega, Nat.le_refl _, by omega⟩) (St.Le.of ⟨(by first | rfl | (show some _ = some _; congr 3; omega)), (by first | rfl | (show some _ = some _; congr 3; omega)), (by first | rfl | (show some _ = some _; congr 3; omega)), (by first | rfl | (show some _ = some _; congr 3; omega)), (by first | rfl | (show some _ = some _; congr 3; omega)), (by first | rfl | (show some _ = some _; congr 3; omega)), trivial⟩ rfl (by first | rfl | (simp))) ?_
    rintro n ⟨hin, hnl, hsn⟩
    refine SCode.seq ?_
    refine SCode.seq ?_
    rcases (show n = i ∨ (i < n ∧ lenP l i n ≤ w) ∨ (i < n ∧ ¬ lenP l i n ≤ w) from by omega) with hst | ⟨hst, hst2⟩ | ⟨hst, hst2⟩
    · apply SCode.drawAuto mixed_ [20, 21, 22, 23, 24, 25, 26, 27, 28, 29, 30, 31, 32, 33, 34, 35, 36, 37] [[.inr 9], [.inr 8], [.inl 0, .inl 1], [.inl 2], [.inl 3], [.inl 3], [.inl 3], [.inl 3], [.inl 3], [.inl 3], [.inl 3], [.inl 3], [.inl 3], [.inl 3], [.inl 3], [.inl 3], [.inl 3], [.inl 3, .inl 16]]
      · kernel_rfl
      · kernel_rfl
      · apply DOk.cons 20 
        · rfl
        · exact (NeedIs.inr _ rfl NeedIs.nil)
        · intro rest
          refine SOps.move rfl ?_
          exact SOps.nil rfl
        apply DOk.cons 21 
        · rfl
        · exact (NeedIs.inr _ rfl NeedIs.nil)
        · intro rest
          refine SOps.move rfl ?_
          exact SOps.nil rfl
        apply DOk.cons 22 (.v (.bool false))
        · rfl
        · exact (NeedIs.inl 1 _ _ rfl rfl (NeedIs.inl 0 _ _ rfl rfl NeedIs.nil))
        · intro rest
          refine SOps.bin rfl rfl rfl ?_
          exact SOps.nil (congrArg (fun b => St.put _ 22 (.v (.bool b))) (decide_eq_false (by omega)))
        apply DOk.cons 23 
        · rfl
        · exact (NeedIs.inl 0 _ _ rfl rfl NeedIs.nil)
        · intro rest
          refine SOps.move rfl ?_
          exact SOps.nil rfl
        apply DOk.cons 24 
        · rfl
        · exact (NeedIs.inl 0 _ _ rfl rfl NeedIs.nil)
        · intro rest
          refine SOps.skip rfl ?_
          exact SOps.nil rfl
        apply DOk.cons 25 
        · rfl
        · exact (NeedIs.inl 1 _ _ rfl rfl NeedIs.nil)
        · intro rest
          refine SOps.skip rfl ?_
          exact SOps.nil rfl
        apply DOk.cons 26 
        · rfl
        · exact (NeedIs.inl 2 _ _ rfl rfl NeedIs.nil)
        · intro rest
          refine SOps.skip rfl ?_
          exact SOps.nil rfl
        apply DOk.cons 27 
        · rfl
        · exact (NeedIs.inl 3 _ _ rfl rfl NeedIs.nil)
        · intro rest
          refine SOps.skip rfl ?_
          exact SOps.nil rfl
        apply DOk.cons 28 
        · rfl
        · exact (NeedIs.inl 4 _ _ rfl rfl NeedIs.nil)
        · intro rest
          refine SOps.skip rfl ?_
          exact SOps.nil rfl
        apply DOk.cons 29 
        · rfl
        · exact (NeedIs.inl 5 _ _ rfl rfl NeedIs.nil)
        · intro rest
          refine SOps.skip rfl ?_
          exact SOps.nil rfl
        apply DOk.cons 30 
        · rfl
        · exact (NeedIs.inl 6 _ _ rfl rfl NeedIs.nil)
        · intro rest
          refine SOps.skip rfl ?_
          exact SOps.nil rfl
        apply DOk.cons 31 
        · rfl
        · exact (NeedIs.inl 7 _ _ rfl rfl NeedIs.nil)
        · intro rest
          refine SOps.skip rfl ?_
          exact SOps.nil rfl
        apply DOk.cons 32 
        · rfl
        · exact (NeedIs.inl 8 _ _ rfl rfl NeedIs.nil)
        · intro rest
          refine SOps.skip rfl ?_
          exact SOps.nil rfl
        apply DOk.cons 33 
        · rfl
        · exact (NeedIs.inl 9 _ _ rfl rfl NeedIs.nil)
        · intro rest
          refine SOps.skip rfl ?_
          exact SOps.nil rfl
        apply DOk.cons 34 
        · rfl
        · exact (NeedIs.inl 10 _ _ rfl rfl NeedIs.nil)
        · intro rest
          refine SOps.skip rfl ?_
          exact SOps.nil rfl
        apply DOk.cons 35 
        · rfl
        · exact (NeedIs.inl 11 _ _ rfl rfl NeedIs.nil)
        · intro rest
          refine SOps.skip rfl ?_
          exact SOps.nil rfl
        apply DOk.cons 36 
        · rfl
        · exact (NeedIs.inl 12 _ _ rfl rfl NeedIs.nil)
        · intro rest
          refine SOps.skip rfl ?_
          exact SOps.nil rfl
        apply DOk.cons 37 
        · rfl
        · exact (NeedIs.inl 13 _ _ rfl rfl (NeedIs.inl 0 _ _ rfl rfl NeedIs.nil))
        · intro rest
          refine SOps.pick rfl rfl ?_
          exact SOps.nil rfl
        exact DOk.nil
      · rfl
      · show SCode _ _ _ _
        refine SCode.cond rfl (fun h => by cases h) (fun _ => ?_)
        refine SCode.exit ?_
        show SCode _ _ _ _
        refine SCode.seq ?_
        refine SCode.seqR ?_
        have hnx : stopP l w i - 1 = n := by omega
        refine SOps.move rfl ?_
        refine SOps.move rfl ?_
        refine SOps.bin rfl rfl rfl ?_
        refine SOps.nil ?_
        refine SCode.cond rfl (fun hc2 => ?_) (fun hc2 => ?_)
        · try simp only [decide_eq_true_eq, decide_eq_false_iff_not, Bool.not_eq_true', Bool.not_eq_false', beq_iff_eq, bne_iff_ne, ne_eq, beq_eq_false_iff_ne, bne_eq_false_iff_eq, Int.not_lt, Int.not_le, Nat.not_lt, Nat.not_le, Int.ofNat_lt, Int.ofNat_le, Bool.not_eq_eq_eq_not, Bool.not_true, Bool.not_false] at hc2
          have hne : stopP l w i - 1 = i := by omega
          refine SCode.seqR ?_
          refine SOps.assign rfl ?_
          refine SOps.assign rfl ?_
          refine SOps.nil ?_
          refine SCode.ret ?_
          exact ⟨_, Res.two (.tmp rfl) (.tmp rfl), by rw [hgr, greedyF_none (by omega) hne (by omega)]; rfl⟩
        · try simp only [decide_eq_true_eq, decide_eq_false_iff_not, Bool.not_eq_true', Bool.not_eq_false', beq_iff_eq, bne_iff_ne, ne_eq, beq_eq_false_iff_ne, bne_eq_false_iff_eq, Int.not_lt, Int.not_le, Nat.not_lt, Nat.not_le, Int.ofNat_lt, Int.ofNat_le, Bool.not_eq_eq_eq_not, Bool.not_true, Bool.not_false] at hc2
          have hne : ¬ stopP l w i - 1 = i := by omega
          refine SCode.skip ?_
          show SCode _ _ _ _
          refine SCode.seq ?_
          apply SCode.drawG 15 [some 43, some 44, some 45, some 46, some 47, some 48, some 49, some 50, some 51, some 52, some 53, some 54, some 55, some 7] [[.inr 7], [.inr 0], [.inr 6], [.inr 8], [.inl 2, .inl 3], [.inl 4], [.inr 6], [.inr 9], [.inl 6, .inl 7], [.inl 8], [.inl 1, .inl 5, .inl 9], [.inl 10], [.inl 0, .inl 11], [.inl 12]] [[12]] [none, none, none, none, none, none, none, none, none, none, none, none, some (0, 0), none] [[], [], [], [], [], [], [], [], [], [], [], [], [12], [12]] ([]) [⟨[12], fun ids c => match c with | 0 => accH 48 2 b ((linesOf l 0 ks).map encLn) | _ => accH 48 2 (ids.getD 0 0) (((linesOf l 0 ks).map encLn) ++ [encLn (lineP l i n)])⟩] mixed_
          · kernel_rfl
          · rfl
          · exact fun _ => .refl _
          · apply GOk.rd 43
            · rfl
            · exact fun b => (NeedG.inr _ rfl NeedG.nil)
            · intro b rest ext
              refine SOps.move rfl ?_
              exact SOps.nil rfl
            apply GOk.rd 44
            · rfl
            · exact fun b => (NeedG.inr _ rfl NeedG.nil)
            · intro b rest ext
              refine SOps.move rfl ?_
              exact SOps.nil rfl
            apply GOk.rd 45
            · rfl
            · exact fun b => (NeedG.inr _ rfl NeedG.nil)
            · intro b rest ext
              refine SOps.move rfl ?_
              exact SOps.nil rfl
            apply GOk.rd 46
            · rfl
            · exact fun b => (NeedG.inr _ rfl NeedG.nil)
            · intro b rest ext
              refine SOps.move rfl ?_
              exact SOps.nil rfl
            apply GOk.rd 47
            · rfl
            · exact fun b => (NeedG.inl 1 _ _ rfl rfl rfl (NeedG.inl 0 _ _ rfl rfl rfl NeedG.nil))
            · intro b rest ext
              refine SOps.indexM (i) rfl rfl sliceB_75_80_2 (by first | omega | (simp only [lenB] <;> omega)) (by first | omega | (simp only [lenB] <;> omega)) ?_
              exact SOps.nil rfl
            apply GOk.rd 48
            · rfl
            · exact fun b => (NeedG.inl 0 _ _ rfl rfl rfl NeedG.nil)
            · intro b rest ext
              refine SOps.loadPinA rfl aggB_80_2 (Nat.le_of_ble_eq_true rfl) ?_
              exact SOps.nil rfl
            apply GOk.rd 49
            · rfl
            · exact fun b => (NeedG.inr _ rfl NeedG.nil)
            · intro b rest ext
              refine SOps.move rfl ?_
              exact SOps.nil rfl
            apply GOk.rd 50
            · rfl
            · exact fun b => (NeedG.inr _ rfl NeedG.nil)
            · intro b rest ext
              refine SOps.move rfl ?_
              exact SOps.nil rfl
            apply GOk.rd 51
            · rfl
            · exact fun b => (NeedG.inl 1 _ _ rfl rfl rfl (NeedG.inl 0 _ _ rfl rfl rfl NeedG.nil))
            · intro b rest ext
              refine SOps.indexM (n) rfl rfl sliceB_75_80_2 (by first | omega | (simp only [lenB] <;> omega)) (by first | omega | (simp only [lenB] <;> omega)) ?_
              exact SOps.nil rfl
            apply GOk.rd 52
            · rfl
            · exact fun b => (NeedG.inl 0 _ _ rfl rfl rfl NeedG.nil)
            · intro b rest ext
              refine SOps.loadPinA rfl aggB_80_2 (Nat.le_of_ble_eq_true rfl) ?_
              exact SOps.nil rfl
            apply GOk.rd 53
            · rfl
            · exact fun b => (NeedG.inl 8 _ _ rfl rfl rfl (NeedG.inl 4 _ _ rfl rfl rfl (NeedG.inl 0 _ _ rfl rfl rfl NeedG.nil)))
            · intro b rest ext
              refine SOps.callP (qBetween l i n hb (by omega) (by omega) (by omega) (by omega)) rfl ?_
              rintro _ rfl
              exact SOps.nil rfl
            apply GOk.rd 54
            · rfl
            · exact fun b => (NeedG.inl 0 _ _ rfl rfl rfl NeedG.nil)
            · intro b rest ext
              refine SOps.litF rfl sliceB_25_48_2 zeroIs_48 rfl ?_
              exact SOps.nil rfl
            apply GOk.act [12] (fun ids => some (55, accD 2 (ids.getD 0 0) (((linesOf l 0 ks).map encLn) ++ [encLn (lineP l i n)])))
            · rfl
            · rfl
            · rfl
            · exact fun b => (NeedG.inl 11 _ _ rfl rfl rfl (NeedG.inl 0 _ _ rfl rfl rfl NeedG.nil))
            · intro b rest ext
              refine SOps.appendAcc [] _ sliceB_25_48_2 elemB_48_2_32 rfl rfl rfl SrcD.isl (by simp) (by first | (simp [lenB] <;> (first | omega | (simp only [lenB] <;> omega))) | (simp only [lenB]; (first | omega | (simp only [lenB] <;> omega)))) (by first | (simp <;> (first | omega | (simp only [lenB] <;> omega))) | (first | omega | (simp only [lenB] <;> omega))) (fun b0 => ?_)
              exact SOps.nil ⟨fun k => if k = 12 then b0 else b k, fun k hk => if_neg hk, ⟨rfl, fun t d h => .inl h, _, .refl _, .refl _⟩⟩
            apply GOk.pure [12] (fun ids => some (7, accD 2 (ids.getD 0 0) (((linesOf l 0 ks).map encLn) ++ [encLn (lineP l i n)])))
            · rfl
            · exact fun b => (NeedG.inl 0 _ _ rfl rfl rfl NeedG.nil)
            · intro b rest ext
              refine SOps.assign rfl ?_
              exact SOps.nil rfl
            exact GOk.nil
          · exact fun _ => rfl
          · intro ids
            show SCode _ _ _ _
            refine SCode.region ?_
            refine SOps.move rfl ?_
            refine SOps.assign rfl ?_
            refine SOps.nil ?_
            have hlo : linesOf l 0 (ks ++ [n]) = linesOf l 0 ks ++ [lineP l i n] := by rw [linesOf_snoc, hek]
            exact ⟨n, ids 12, ks ++ [n], f - 1, ⟨by omega, endK_snoc _ _ _, by rw [List.length_append, List.length_singleton]; omega, by omega, by rw [hgr, greedyF_go (by omega) hne (by omega), hnx, Option.map_map]; congr 1; funext q; simp⟩, by omega, St.Le.of ⟨rfl, rfl, rfl, (by show some _ = some _; rw [hlo, List.map_append] <;> rfl), rfl, trivial⟩ rfl (by rw [hlo, List.map_append] <;> rfl)⟩
    · have hsx := (stop_iff hb hst (by omega)).2 hst2
      apply SCode.drawAuto mixed_ [20, 21, 22, 23, 24, 25, 26, 27, 28, 29, 30, 31, 32, 33, 34, 35, 36, 37] [[.inr 9], [.inr 8], [.inl 0, .inl 1], [.inl 2], [.inl 3, .inr 0], [.inl 3, .inr 6], [.inl 3, .inr 8], [.inl 3, .inl 5, .inl 6], [.inl 3, .inl 7], [.inl 3, .inr 6], [.inl 3, .inr 9], [.inl 3, .inl 9, .inl 10], [.inl 3, .inl 11], [.inl 3, .inl 4, .inl 8, .inl 12], [.inl 3, .inr 1], [.inl 3, .inl 13, .inl 14], [.inl 3, .inl 15], [.inl 3, .inl 16]]
      · kernel_rfl
      · kernel_rfl
      · apply DOk.cons 20 
        · rfl
        · exact (NeedIs.inr _ rfl NeedIs.nil)
        · intro rest
          refine SOps.move rfl ?_
          exact SOps.nil rfl
        apply DOk.cons 21 
        · rfl
        · exact (NeedIs.inr _ rfl NeedIs.nil)
        · intro rest
          refine SOps.move rfl ?_
          exact SOps.nil rfl
        apply DOk.cons 22 (.v (.bool true))
        · rfl
        · exact (NeedIs.inl 1 _ _ rfl rfl (NeedIs.inl 0 _ _ rfl rfl NeedIs.nil))
        · intro rest
          refine SOps.bin rfl rfl rfl ?_
          exact SOps.nil (congrArg (fun b => St.put _ 22 (.v (.bool b))) (decide_eq_true (by omega)))
        apply DOk.cons 23 
        · rfl
        · exact (NeedIs.inl 0 _ _ rfl rfl NeedIs.nil)
        · intro rest
          refine SOps.move rfl ?_
          exact SOps.nil rfl
        apply DOk.cons 24 
        · rfl
        · exact (NeedIs.inl 0 _ _ rfl rfl (NeedIs.inr _ rfl NeedIs.nil))
        · intro rest
          refine SOps.move rfl ?_
          exact SOps.nil rfl
        apply DOk.cons 25 
        · rfl
        · exact (NeedIs.inl 1 _ _ rfl rfl (NeedIs.inr _ rfl NeedIs.nil))
        · intro rest
          refine SOps.move rfl ?_
          exact SOps.nil rfl
        apply DOk.cons 26 
        · rfl
        · exact (NeedIs.inl 2 _ _ rfl rfl (NeedIs.inr _ rfl NeedIs.nil))
        · intro rest
          refine SOps.move rfl ?_
          exact SOps.nil rfl
        apply DOk.cons 27 
        · rfl
        · exact (NeedIs.inl 3 _ _ rfl rfl (NeedIs.inl 1 _ _ rfl rfl (NeedIs.inl 0 _ _ rfl rfl NeedIs.nil)))
        · intro rest
          refine SOps.indexM (i) rfl rfl sliceB_75_80_2 (by first | omega | (simp only [lenB] <;> omega)) (by first | omega | (simp only [lenB] <;> omega)) ?_
          exact SOps.nil rfl
        apply DOk.cons 28 
        · rfl
        · exact (NeedIs.inl 4 _ _ rfl rfl (NeedIs.inl 0 _ _ rfl rfl NeedIs.nil))
        · intro rest
          refine SOps.loadPinA rfl aggB_80_2 (Nat.le_of_ble_eq_true rfl) ?_
          exact SOps.nil rfl
        apply DOk.cons 29 
        · rfl
        · exact (NeedIs.inl 5 _ _ rfl rfl (NeedIs.inr _ rfl NeedIs.nil))
        · intro rest
          refine SOps.move rfl ?_
          exact SOps.nil rfl
        apply DOk.cons 30 
        · rfl
        · exact (NeedIs.inl 6 _ _ rfl rfl (NeedIs.inr _ rfl NeedIs.nil))
        · intro rest
          refine SOps.move rfl ?_
          exact SOps.nil rfl
        apply DOk.cons 31 
        · rfl
        · exact (NeedIs.inl 7 _ _ rfl rfl (NeedIs.inl 1 _ _ rfl rfl (NeedIs.inl 0 _ _ rfl rfl NeedIs.nil)))
        · intro rest
          refine SOps.indexM (n) rfl rfl sliceB_75_80_2 (by first | omega | (simp only [lenB] <;> omega)) (by first | omega | (simp only [lenB] <;> omega)) ?_
          exact SOps.nil rfl
        apply DOk.cons 32 
        · rfl
        · exact (NeedIs.inl 8 _ _ rfl rfl (NeedIs.inl 0 _ _ rfl rfl NeedIs.nil))
        · intro rest
          refine SOps.loadPinA rfl aggB_80_2 (Nat.le_of_ble_eq_true rfl) ?_
          exact SOps.nil rfl
        apply DOk.cons 33 
        · rfl
        · exact (NeedIs.inl 9 _ _ rfl rfl (NeedIs.inl 8 _ _ rfl rfl (NeedIs.inl 4 _ _ rfl rfl (NeedIs.inl 0 _ _ rfl rfl NeedIs.nil))))
        · intro rest
          refine SOps.callP (qBetween l i n hb (by omega) (by omega) (by omega) (by omega)) rfl ?_
          rintro _ rfl
          exact SOps.nil rfl
        apply DOk.cons 34 
        · rfl
        · exact (NeedIs.inl 10 _ _ rfl rfl (NeedIs.inr _ rfl NeedIs.nil))
        · intro rest
          refine SOps.move rfl ?_
          exact SOps.nil rfl
        apply DOk.cons 35 
        · rfl
        · exact (NeedIs.inl 11 _ _ rfl rfl (NeedIs.inl 1 _ _ rfl rfl (NeedIs.inl 0 _ _ rfl rfl NeedIs.nil)))
        · intro rest
          refine SOps.callP (qFree _ _ (line_ok hb (by omega) (by omega)) (by omega) (by omega)) rfl ?_
          rintro _ rfl
          exact SOps.nil rfl
        apply DOk.cons 36 (.v (.bool false))
        · rfl
        · exact (NeedIs.inl 12 _ _ rfl rfl (NeedIs.inl 0 _ _ rfl rfl NeedIs.nil))
        · intro rest
          refine SOps.bin rfl rfl rfl ?_
          exact SOps.nil (congrArg (fun b => St.put _ 36 (.v (.bool b))) (decide_eq_false (by rw [free_line hb hst (by omega)]; omega)))
        apply DOk.cons 37 
        · rfl
        · exact (NeedIs.inl 13 _ _ rfl rfl (NeedIs.inl 0 _ _ rfl rfl NeedIs.nil))
        · intro rest
          refine SOps.pick rfl rfl ?_
          exact SOps.nil rfl
        exact DOk.nil
      · rfl
      · show SCode _ _ _ _
        refine SCode.cond rfl (fun h => by cases h) (fun _ => ?_)
        refine SCode.exit ?_
        show SCode _ _ _ _
        refine SCode.seq ?_
        refine SCode.seqR ?_
        have hnx : stopP l w i - 1 = n := by omega
        refine SOps.move rfl ?_
        refine SOps.move rfl ?_
        refine SOps.bin rfl rfl rfl ?_
        refine SOps.nil ?_
        refine SCode.cond rfl (fun hc3 => ?_) (fun hc3 => ?_)
        · try simp only [decide_eq_true_eq, decide_eq_false_iff_not, Bool.not_eq_true', Bool.not_eq_false', beq_iff_eq, bne_iff_ne, ne_eq, beq_eq_false_iff_ne, bne_eq_false_iff_eq, Int.not_lt, Int.not_le, Nat.not_lt, Nat.not_le, Int.ofNat_lt, Int.ofNat_le, Bool.not_eq_eq_eq_not, Bool.not_true, Bool.not_false] at hc3
          have hne : stopP l w i - 1 = i := by omega
          refine SCode.seqR ?_
          refine SOps.assign rfl ?_
          refine SOps.assign rfl ?_
          refine SOps.nil ?_
          refine SCode.ret ?_
          exact ⟨_, Res.two (.tmp rfl) (.tmp rfl), by rw [hgr, greedyF_none (by omega) hne (by omega)]; rfl⟩
        · try simp only [decide_eq_true_eq, decide_eq_false_iff_not, Bool.not_eq_true', Bool.not_eq_false', beq_iff_eq, bne_iff_ne, ne_eq, beq_eq_false_iff_ne, bne_eq_false_iff_eq, Int.not_lt, Int.not_le, Nat.not_lt, Nat.not_le, Int.ofNat_lt, Int.ofNat_le, Bool.not_eq_eq_eq_not, Bool.not_true, Bool.not_false] at hc3
          have hne : ¬ stopP l w i - 1 = i := by omega
          refine SCode.skip ?_
          show SCode _ _ _ _
          refine SCode.seq ?_
          apply SCode.drawG 15 [some 43, some 44, some 45, some 46, some 47, some 48, some 49, some 50, some 51, some 52, some 53, some 54, some 55, some 7] [[.inr 7], [.inr 0], [.inr 6], [.inr 8], [.inl 2, .inl 3], [.inl 4], [.inr 6], [.inr 9], [.inl 6, .inl 7], [.inl 8], [.inl 1, .inl 5, .inl 9], [.inl 10], [.inl 0, .inl 11], [.inl 12]] [[12]] [none, none, none, none, none, none, none, none, none, none, none, none, some (0, 0), none] [[], [], [], [], [], [], [], [], [], [], [], [], [12], [12]] ([]) [⟨[12], fun ids c => match c with | 0 => accH 48 2 b ((linesOf l 0 ks).map encLn) | _ => accH 48 2 (ids.getD 0 0) (((linesOf l 0 ks).map encLn) ++ [encLn (lineP l i n)])⟩] mixed_
          · kernel_rfl
          · rfl
          · exact fun _ => .refl _
          · apply GOk.rd 43
            · rfl
            · exact fun b => (NeedG.inr _ rfl NeedG.nil)
            · intro b rest ext
              refine SOps.move rfl ?_
              exact SOps.nil rfl
            apply GOk.rd 44
            · rfl
            · exact fun b => (NeedG.inr _ rfl NeedG.nil)
            · intro b rest ext
              refine SOps.move rfl ?_
              exact SOps.nil rfl
            apply GOk.rd 45
            · rfl
            · exact fun b => (NeedG.inr _ rfl NeedG.nil)
            · intro b rest ext
              refine SOps.move rfl ?_
              exact SOps.nil rfl
            apply GOk.rd 46
            · rfl
            · exact fun b => (NeedG.inr _ rfl NeedG.nil)
            · intro b rest ext
              refine SOps.move rfl ?_
              exact SOps.nil rfl
            apply GOk.rd 47
            · rfl
            · exact fun b => (NeedG.inl 1 _ _ rfl rfl rfl (NeedG.inl 0 _ _ rfl rfl rfl NeedG.nil))
            · intro b rest ext
              refine SOps.indexM (i) rfl rfl sliceB_75_80_2 (by first | omega | (simp only [lenB] <;> omega)) (by first | omega | (simp only [lenB] <;> omega)) ?_
              exact SOps.nil rfl
            apply GOk.rd 48
            · rfl
            · exact fun b => (NeedG.inl 0 _ _ rfl rfl rfl NeedG.nil)
            · intro b rest ext
              refine SOps.loadPinA rfl aggB_80_2 (Nat.le_of_ble_eq_true rfl) ?_
              exact SOps.nil rfl
            apply GOk.rd 49
            · rfl
            · exact fun b => (NeedG.inr _ rfl NeedG.nil)
            · intro b rest ext
              refine SOps.move rfl ?_
              exact SOps.nil rfl
            apply GOk.rd 50
            · rfl
            · exact fun b => (NeedG.inr _ rfl NeedG.nil)
            · intro b rest ext
              refine SOps.move rfl ?_
              exact SOps.nil rfl
            apply GOk.rd 51
            · rfl
            · exact fun b => (NeedG.inl 1 _ _ rfl rfl rfl (NeedG.inl 0 _ _ rfl rfl rfl NeedG.nil))
            · intro b rest ext
              refine SOps.indexM (n) rfl rfl sliceB_75_80_2 (by first | omega | (simp only [lenB] <;> omega)) (by first | omega | (simp only [lenB] <;> omega)) ?_
              exact SOps.nil rfl
            apply GOk.rd 52
            · rfl
            · exact fun b => (NeedG.inl 0 _ _ rfl rfl rfl NeedG.nil)
            · intro b rest ext
              refine SOps.loadPinA rfl aggB_80_2 (Nat.le_of_ble_eq_true rfl) ?_
              exact SOps.nil rfl
            apply GOk.rd 53
            · rfl
            · exact fun b => (NeedG.inl 8 _ _ rfl rfl rfl (NeedG.inl 4 _ _ rfl rfl rfl (NeedG.inl 0 _ _ rfl rfl rfl NeedG.nil)))
            · intro b rest ext
              refine SOps.callP (qBetween l i n hb (by omega) (by omega) (by omega) (by omega)) rfl ?_
              rintro _ rfl
              exact SOps.nil rfl
            apply GOk.rd 54
            · rfl
            · exact fun b => (NeedG.inl 0 _ _ rfl rfl rfl NeedG.nil)
            · intro b rest ext
              refine SOps.litF rfl sliceB_25_48_2 zeroIs_48 rfl ?_
              exact SOps.nil rfl
            apply GOk.act [12] (fun ids => some (55, accD 2 (ids.getD 0 0) (((linesOf l 0 ks).map encLn) ++ [encLn (lineP l i n)])))
            · rfl
            · rfl
            · rfl
            · exact fun b => (NeedG.inl 11 _ _ rfl rfl rfl (NeedG.inl 0 _ _ rfl rfl rfl NeedG.nil))
            · intro b rest ext
              refine SOps.appendAcc [] _ sliceB_25_48_2 elemB_48_2_32 rfl rfl rfl SrcD.isl (by simp) (by first | (simp [lenB] <;> (first | omega | (simp only [lenB] <;> omega))) | (simp only [lenB]; (first | omega | (simp only [lenB] <;> omega)))) (by first | (simp <;> (first | omega | (simp only [lenB] <;> omega))) | (first | omega | (simp only [lenB] <;> omega))) (fun b1 => ?_)
              exact SOps.nil ⟨fun k => if k = 12 then b1 else b k, fun k hk => if_neg hk, ⟨rfl, fun t d h => .inl h, _, .refl _, .refl _⟩⟩
            apply GOk.pure [12] (fun ids => some (7, accD 2 (ids.getD 0 0) (((linesOf l 0 ks).map encLn) ++ [encLn (lineP l i n)])))
            · rfl
            · exact fun b => (NeedG.inl 0 _ _ rfl rfl rfl NeedG.nil)
            · intro b rest ext
              refine SOps.assign rfl ?_
              exact SOps.nil rfl
            exact GOk.nil
          · exact fun _ => rfl
          · intro ids
            show SCode _ _ _ _
            refine SCode.region ?_
            refine SOps.move rfl ?_
            refine SOps.assign rfl ?_
            refine SOps.nil ?_
            have hlo : linesOf l 0 (ks ++ [n]) = linesOf l 0 ks ++ [lineP l i n] := by rw [linesOf_snoc, hek]
            exact ⟨n, ids 12, ks ++ [n], f - 1, ⟨by omega, endK_snoc _ _ _, by rw [List.length_append, List.length_singleton]; omega, by omega, by rw [hgr, greedyF_go (by omega) hne (by omega), hnx, Option.map_map]; congr 1; funext q; simp⟩, by omega, St.Le.of ⟨rfl, rfl, rfl, (by show some _ = some _; rw [hlo, List.map_append] <;> rfl), rfl, trivial⟩ rfl (by rw [hlo, List.map_append] <;> rfl)⟩
    · have hsx : ¬ n < stopP l w i := fun h => hst2 ((stop_iff hb hst (by omega)).1 h)
      apply SCode.drawAuto mixed_ [20, 21, 22, 23, 24, 25, 26, 27, 28, 29, 30, 31, 32, 33, 34, 35, 36, 37] [[.inr 9], [.inr 8], [.inl 0, .inl 1], [.inl 2], [.inl 3, .inr 0], [.inl 3, .inr 6], [.inl 3, .inr 8], [.inl 3, .inl 5, .inl 6], [.inl 3, .inl 7], [.inl 3, .inr 6], [.inl 3, .inr 9], [.inl 3, .inl 9, .inl 10], [.inl 3, .inl 11], [.inl 3, .inl 4, .inl 8, .inl 12], [.inl 3, .inr 1], [.inl 3, .inl 13, .inl 14], [.inl 3, .inl 15], [.inl 3, .inl 16]]
      · kernel_rfl
      · kernel_rfl
      · apply DOk.cons 20 
        · rfl
        · exact (NeedIs.inr _ rfl NeedIs.nil)
        · intro rest
          refine SOps.move rfl ?_
          exact SOps.nil rfl
        apply DOk.cons 21 
        · rfl
        · exact (NeedIs.inr _ rfl NeedIs.nil)
        · intro rest
          refine SOps.move rfl ?_
          exact SOps.nil rfl
        apply DOk.cons 22 (.v (.bool true))
        · rfl
        · exact (NeedIs.inl 1 _ _ rfl rfl (NeedIs.inl 0 _ _ rfl rfl NeedIs.nil))
        · intro rest
          refine SOps.bin rfl rfl rfl ?_
          exact SOps.nil (congrArg (fun b => St.put _ 22 (.v (.bool b))) (decide_eq_true (by omega)))
        apply DOk.cons 23 
        · rfl
        · exact (NeedIs.inl 0 _ _ rfl rfl NeedIs.nil)
        · intro rest
          refine SOps.move rfl ?_
          exact SOps.nil rfl
        apply DOk.cons 24 
        · rfl
        · exact (NeedIs.inl 0 _ _ rfl rfl (NeedIs.inr _ rfl NeedIs.nil))
        · intro rest
          refine SOps.move rfl ?_
          exact SOps.nil rfl
        apply DOk.cons 25 
        · rfl
        · exact (NeedIs.inl 1 _ _ rfl rfl (NeedIs.inr _ rfl NeedIs.nil))
        · intro rest
          refine SOps.move rfl ?_
          exact SOps.nil rfl
        apply DOk.cons 26 
        · rfl
        · exact (NeedIs.inl 2 _ _ rfl rfl (NeedIs.inr _ rfl NeedIs.nil))
        · intro rest
          refine SOps.move rfl ?_
          exact SOps.nil rfl
        apply DOk.cons 27 
        · rfl
        · exact (NeedIs.inl 3 _ _ rfl rfl (NeedIs.inl 1 _ _ rfl rfl (NeedIs.inl 0 _ _ rfl rfl NeedIs.nil)))
        · intro rest
          refine SOps.indexM (i) rfl rfl sliceB_75_80_2 (by first | omega | (simp only [lenB] <;> omega)) (by first | omega | (simp only [lenB] <;> omega)) ?_
          exact SOps.nil rfl
        apply DOk.cons 28 
        · rfl
        · exact (NeedIs.inl 4 _ _ rfl rfl (NeedIs.inl 0 _ _ rfl rfl NeedIs.nil))
        · intro rest
          refine SOps.loadPinA rfl aggB_80_2 (Nat.le_of_ble_eq_true rfl) ?_
          exact SOps.nil rfl
        apply DOk.cons 29 
        · rfl
        · exact (NeedIs.inl 5 _ _ rfl rfl (NeedIs.inr _ rfl NeedIs.nil))
        · intro rest
          refine SOps.move rfl ?_
          exact SOps.nil rfl
        apply DOk.cons 30 
        · rfl
        · exact (NeedIs.inl 6 _ _ rfl rfl (NeedIs.inr _ rfl NeedIs.nil))
        · intro rest
          refine SOps.move rfl ?_
          exact SOps.nil rfl
        apply DOk.cons 31 
        · rfl
        · exact (NeedIs.inl 7 _ _ rfl rfl (NeedIs.inl 1 _ _ rfl rfl (NeedIs.inl 0 _ _ rfl rfl NeedIs.nil)))
        · intro rest
          refine SOps.indexM (n) rfl rfl sliceB_75_80_2 (by first | omega | (simp only [lenB] <;> omega)) (by first | omega | (simp only [lenB] <;> omega)) ?_
          exact SOps.nil rfl
        apply DOk.cons 32 
        · rfl
        · exact (NeedIs.inl 8 _ _ rfl rfl (NeedIs.inl 0 _ _ rfl rfl NeedIs.nil))
        · intro rest
          refine SOps.loadPinA rfl aggB_80_2 (Nat.le_of_ble_eq_true rfl) ?_
          exact SOps.nil rfl
        apply DOk.cons 33 
        · rfl
        · exact (NeedIs.inl 9 _ _ rfl rfl (NeedIs.inl 8 _ _ rfl rfl (NeedIs.inl 4 _ _ rfl rfl (NeedIs.inl 0 _ _ rfl rfl NeedIs.nil))))
        · intro rest
          refine SOps.callP (qBetween l i n hb (by omega) (by omega) (by omega) (by omega)) rfl ?_
          rintro _ rfl
          exact SOps.nil rfl
        apply DOk.cons 34 
        · rfl
        · exact (NeedIs.inl 10 _ _ rfl rfl (NeedIs.inr _ rfl NeedIs.nil))
        · intro rest
          refine SOps.move rfl ?_
          exact SOps.nil rfl
        apply DOk.cons 35 
        · rfl
        · exact (NeedIs.inl 11 _ _ rfl rfl (NeedIs.inl 1 _ _ rfl rfl (NeedIs.inl 0 _ _ rfl rfl NeedIs.nil)))
        · intro rest
          refine SOps.callP (qFree _ _ (line_ok hb (by omega) (by omega)) (by omega) (by omega)) rfl ?_
          rintro _ rfl
          exact SOps.nil rfl
        apply DOk.cons 36 (.v (.bool true))
        · rfl
        · exact (NeedIs.inl 12 _ _ rfl rfl (NeedIs.inl 0 _ _ rfl rfl NeedIs.nil))
        · intro rest
          refine SOps.bin rfl rfl rfl ?_
          exact SOps.nil (congrArg (fun b => St.put _ 36 (.v (.bool b))) (decide_eq_true (by rw [free_line hb hst (by omega)]; omega)))
        apply DOk.cons 37 
        · rfl
        · exact (NeedIs.inl 13 _ _ rfl rfl (NeedIs.inl 0 _ _ rfl rfl NeedIs.nil))
        · intro rest
          refine SOps.pick rfl rfl ?_
          exact SOps.nil rfl
        exact DOk.nil
      · rfl
      · show SCode _ _ _ _
        refine SCode.cond rfl (fun _ => ?_) (fun h => by cases h)
        refine SCode.skip ?_
        show SCode _ _ _ _
        refine SCode.block ?_
        refine SCode.region ?_
        refine SOps.move rfl ?_
        refine SOps.subI rfl rfl (by first | omega | (simp only [lenB] <;> omega)) (by first | omega | (simp only [lenB] <;> omega)) ?_
        refine SOps.assign rfl ?_
        refine SOps.nil ?_
        exact ⟨n - 1, ⟨by omega, by omega, by omega⟩, by omega, St.Le.of ⟨rfl, rfl, rfl, rfl, rfl, congrArg (fun z => some (DV.v (.int .i64 z))) (by omega), trivial⟩⟩
  · try simp only [decide_eq_true_eq, decide_eq_false_iff_not, Bool.not_eq_true', Bool.not_eq_false', beq_iff_eq, bne_iff_ne, ne_eq, beq_eq_false_iff_ne, bne_eq_false_iff_eq, Int.not_lt, Int.not_le, Nat.not_lt, Nat.not_le, Int.ofNat_lt, Int.ofNat_le, Bool.not_eq_eq_eq_not, Bool.not_true, Bool.not_false] at hc1
    have hgf : greedyF l w (ptN l) 0 = some ks := by rw [hgr, greedyF_end (by omega)]; simp
    refine SCode.exit ?_
    show SCode _ _ _ _
    refine SCode.seqR ?_
    refine SOps.freezeAcc (t := 7) [] [] rfl rfl rfl ?_
    refine SOps.move rfl ?_
    refine SOps.assign rfl ?_
    refine SOps.assign rfl ?_
    refine SOps.nil ?_
    refine SCode.ret ?_
    exact ⟨_, Res.two (.tmp rfl) (.tmp rfl), by rw [hgf]⟩
end Go.GH
namespace Go.GH
open Go Go.Proofs
variable {E : Env}
theorem elemB_25_1_24 : elemB Tryd.prog 25 1 24 = true := by kernel_rfl
theorem flatB_25 : flatB Tryd.prog 25 = true := by kernel_rfl
theorem sliceB_37_25_1 : sliceB Tryd.prog 37 25 1 = true := by kernel_rfl
theorem zeroIs_25 : zeroIs Tryd.prog 25 (.slice none 0 0) := by unfold zeroIs; kernel_rfl
theorem rep_islNil {w : World} {F : Nat → Prop} {v : Value} {sz : Nat} (h : Rep w F v (.isl false 1 [[.v (.slice none 0 0)]])) : Rep w F v (.isl false 1 [[.isl false sz []]]) := by
  cases h with
  | isl xs hlen hcap hB hnn hA hsz hc hr =>
    have h0 : ∀ (i : Nat) (e : List DV) (j : Nat) (d : DV), ([[DV.isl false sz []]] : List (List DV))[i]? = some e → e[j]? = some d → i = 0 ∧ j = 0 ∧ d = .isl false sz [] := fun i e j d hi hj => by
      have hi0 : i = 0 := by have := (List.getElem?_eq_some_iff.1 hi).1; simp at this; omega
      subst hi0
      simp only [List.getElem?_cons_zero, Option.some.injEq] at hi
      subst hi
      have hj0 : j = 0 := by have := (List.getElem?_eq_some_iff.1 hj).1; simp at this; omega
      subst hj0
      simp only [List.getElem?_cons_zero, Option.some.injEq] at hj
      exact ⟨rfl, rfl, hj.symm⟩
    refine .isl xs hlen hcap hB hnn (fun _ => hA (by simp)) (fun i e hi => ?_) (fun i e j d hi hj => ?_) (fun i e j d hi hj => ?_)
    · have hi0 : i = 0 := by have := (List.getElem?_eq_some_iff.1 hi).1; simp at this; omega
      subst hi0
      simp only [List.getElem?_cons_zero, Option.some.injEq] at hi
      subst hi; rfl
    · obtain ⟨rfl, rfl, rfl⟩ := h0 i e j d hi hj
      exact ⟨(hc 0 _ 0 _ rfl rfl).1, (hc 0 _ 0 _ rfl rfl).2⟩
    · obtain ⟨rfl, rfl, rfl⟩ := h0 i e j d hi hj
      exact nil_isl (hr 0 _ 0 _ rfl rfl)
theorem qDiv0 (l : List Bx) (w : Int) (i : Nat) (hb : boxesB l = true) (hw1 : 1 ≤ w) (hw2 : w ≤ 200) (h11 : ptN l ≤ 11) (hi : i ≤ ptN l - 1) (ih : ∀ n, i < n → n ≤ ptN l - 1 → GCall Tryd.prog E 24 [DBxs l, .v (.int .i64 w), .v (.int .i64 ((n : Nat) : Int))] [] (fun d H => d = DDs (divsR l w n) ∧ H = [])) : GCall Tryd.prog E 24 [DBxs l, .v (.int .i64 w), .v (.int .i64 (i : Int))] [] (fun d H => d = (if i = ptN l - 1 then .isl false 1 [[.v (.slice none 0 0)]] else DDs (divsR l w i))) := by
  have hbn := bnds_of hb
  have hpe : (pointsL l).length = ptN l := (ptN_eq l).symm
  have hpos := ptN_pos l
  have hNl := ptN_le hb
  refine GCall.body (C := ⟨Tryd.prog, E, true⟩) Tryd.func24 rfl (fun _ => rfl) (by kernel_rfl) rfl ?_
  refine SCode.seqR ?_
  refine SOps.assign rfl ?_
  refine SOps.nil ?_
  refine SCode.seqR ?_
  refine SOps.move rfl ?_
  refine SOps.callP (qPoints l (fun b h => by have := hbn.pts b h; omega) (by have := hbn.len; omega)) rfl ?_
  rintro _ rfl
  refine SOps.assign rfl ?_
  refine SOps.nil ?_
  refine SCode.seq ?_
  refine SCode.seqR ?_
  refine SOps.move rfl ?_
  refine SOps.move rfl ?_
  refine SOps.lenM rfl sliceB_75_80_2 ?_
  refine SOps.subI rfl rfl (by first | omega | (simp only [lenB] <;> omega)) (by first | omega | (simp only [lenB] <;> omega)) ?_
  refine SOps.bin rfl rfl rfl ?_
  refine SOps.nil ?_
  refine SCode.cond rfl (fun hc1 => ?_) (fun hc1 => ?_)
  · try simp only [decide_eq_true_eq, decide_eq_false_iff_not, Bool.not_eq_true', Bool.not_eq_false', beq_iff_eq, bne_iff_ne, ne_eq, beq_eq_false_iff_ne, bne_eq_false_iff_eq, Int.not_lt, Int.not_le, Nat.not_lt, Nat.not_le, Int.ofNat_lt, Int.ofNat_le, Bool.not_eq_eq_eq_not, Bool.not_true, Bool.not_false] at hc1
    refine SCode.seqR ?_
    refine SOps.litF rfl sliceB_37_25_1 zeroIs_25 rfl ?_
    refine SOps.assign rfl ?_
    refine SOps.nil ?_
    refine SCode.ret ?_
    exact ⟨_, Res.one (.tmp rfl), by rw [if_pos (by omega)] <;> rfl⟩
  · try simp only [decide_eq_true_eq, decide_eq_false_iff_not, Bool.not_eq_true', Bool.not_eq_false', beq_iff_eq, bne_iff_ne, ne_eq, beq_eq_false_iff_ne, bne_eq_false_iff_eq, Int.not_lt, Int.not_le, Nat.not_lt, Nat.not_le, Int.ofNat_lt, Int.ofNat_le, Bool.not_eq_eq_eq_not, Bool.not_true, Bool.not_false] at hc1
    have hds := divsR_step (w := w) (show i < ptN l - 1 by omega)
    refine SCode.skip ?_
    show SCode _ _ _ _
    refine SCode.seqR ?_
    refine SOps.assign rfl ?_
    refine SOps.nil ?_
    refine SCode.seq ?_
    refine SCode.seqR ?_
    refine SOps.move rfl ?_
    refine SOps.lenM rfl sliceB_75_80_2 ?_
    refine SOps.subI rfl rfl (by first | omega | (simp only [lenB] <;> omega)) (by first | omega | (simp only [lenB] <;> omega)) ?_
    refine SOps.assign rfl ?_
    refine SOps.nil ?_
    refine SCode.block ?_
    refine SCode.loop2 (fun (d : Nat) (b : Nat) => (⟨61, [(0, DBxs l), (1, .v (.int .i64 w)), (2, .v (.int .i64 (i : Int))), (7, DKs (pointsL l)), (8, accD 1 b ((divN l w i (divsR l w) d).map encDv)), (9, .v (.int .i64 (((ptN l - 1 - d) : Nat) : Int)))], accH 25 1 b ((divN l w i (divsR l w) d).map encDv) ++ []⟩ : St)) (fun (d : Nat) (b : Nat) => d ≤ ptN l - 1 - i) (fun (d : Nat) (b : Nat) => ptN l - d) (0) (0) (by exact Nat.zero_le _) (St.Le.of ⟨(by first | rfl | (show some _ = some _; congr 3; omega)), (by first | rfl | (show some _ = some _; congr 3; omega)), (by first | rfl | (show some _ = some _; congr 3; omega)), (by first | rfl | (show some _ = some _; congr 3; omega)), (by first | rfl | (show some _ = some _; congr 3; omega)), (by first | rfl | (show some _ = some _; congr 3; omega)), trivial⟩ rfl (by first | rfl | (simp))) ?_
    rintro d b hdn
    refine SCode.seq ?_
    refine SCode.seqR ?_
    refine SOps.move rfl ?_
    refine SOps.move rfl ?_
    refine SOps.bin rfl rfl rfl ?_
    refine SOps.nil ?_
    refine SCode.cond rfl (fun hc2 => ?_) (fun hc2 => ?_)
    · try simp only [decide_eq_true_eq, decide_eq_false_iff_not, Bool.not_eq_true', Bool.not_eq_false', beq_iff_eq, bne_iff_ne, ne_eq, beq_eq_false_iff_ne, bne_eq_false_iff_eq, Int.not_lt, Int.not_le, Nat.not_lt, Nat.not_le, Int.ofNat_lt, Int.ofNat_le, Bool.not_eq_eq_eq_not, Bool.not_true, Bool.not_false] at hc2
      have hdb := divN_bound (l := l) (w := w) (i := i) (D := fun n => if n ≤ ptN l - 1 then divsR l w n else []) (fun n => by split; have := (divsR_bound (w := w) h11 (show n ≤ ptN l - 1 by assumption)).1; omega; exact Nat.zero_le _) d
      rw [show divN l w i (fun n => if n ≤ ptN l - 1 then divsR l w n else []) d = (divN l w i (divsR l w) d) from divN_congr (fun n hn => if_pos (by omega)) d] at hdb
      have hrb := divsR_bound (w := w) h11 (show (ptN l - 1 - d) ≤ ptN l - 1 by omega)
      refine SCode.skip ?_
      show SCode _ _ _ _
      refine SCode.seq ?_
      refine SCode.block ?_
      refine SCode.seq ?_
      apply SCode.drawG 13 [some 29, some 30, some 31, some 32, some 33, some 34, some 35, some 36, some 37, some 38, some 10, none] [[.inr 0], [.inr 7], [.inr 2], [.inl 1, .inl 2], [.inl 3], [.inr 7], [.inr 9], [.inl 5, .inl 6], [.inl 7], [.inl 0, .inl 4, .inl 8], [], [.inl 10, .inl 9]] [[10, 11], []] [none, none, none, none, none, none, none, none, none, none, some (0, 0), some (0, 1)] [[], [], [], [], [], [], [], [], [], [], [10], []] ([]) [⟨[10, 11], fun ids c => match c with | 0 => [] | 1 => [((ids.getD 0 0), .row 48 2 [[.v (.slice none 0 0), .v (.bool false)]])] | _ => [((ids.getD 0 0), .row 48 2 [encLn (lineP l i (ptN l - 1 - d))])]⟩, ⟨[], fun ids c => match c with | _ => accH 25 1 b ((divN l w i (divsR l w) d).map encDv)⟩] mixed_
      · kernel_rfl
      · rfl
      · exact fun _ => .refl _
      · apply GOk.rd 29
        · rfl
        · exact fun b => (NeedG.inr _ rfl NeedG.nil)
        · intro b rest ext
          refine SOps.move rfl ?_
          exact SOps.nil rfl
        apply GOk.rd 30
        · rfl
        · exact fun b => (NeedG.inr _ rfl NeedG.nil)
        · intro b rest ext
          refine SOps.move rfl ?_
          exact SOps.nil rfl
        apply GOk.rd 31
        · rfl
        · exact fun b => (NeedG.inr _ rfl NeedG.nil)
        · intro b rest ext
          refine SOps.move rfl ?_
          exact SOps.nil rfl
        apply GOk.rd 32
        · rfl
        · exact fun b => (NeedG.inl 1 _ _ rfl rfl rfl (NeedG.inl 0 _ _ rfl rfl rfl NeedG.nil))
        · intro b rest ext
          refine SOps.indexM (i) rfl rfl sliceB_75_80_2 (by first | omega | (simp only [lenB] <;> omega)) (by first | omega | (simp only [lenB] <;> omega)) ?_
          exact SOps.nil rfl
        apply GOk.rd 33
        · rfl
        · exact fun b => (NeedG.inl 0 _ _ rfl rfl rfl NeedG.nil)
        · intro b rest ext
          refine SOps.loadPinA rfl aggB_80_2 (Nat.le_of_ble_eq_true rfl) ?_
          exact SOps.nil rfl
        apply GOk.rd 34
        · rfl
        · exact fun b => (NeedG.inr _ rfl NeedG.nil)
        · intro b rest ext
          refine SOps.move rfl ?_
          exact SOps.nil rfl
        apply GOk.rd 35
        · rfl
        · exact fun b => (NeedG.inr _ rfl NeedG.nil)
        · intro b rest ext
          refine SOps.move rfl ?_
          exact SOps.nil rfl
        apply GOk.rd 36
        · rfl
        · exact fun b => (NeedG.inl 1 _ _ rfl rfl rfl (NeedG.inl 0 _ _ rfl rfl rfl NeedG.nil))
        · intro b rest ext
          refine SOps.indexM ((ptN l - 1 - d)) rfl rfl sliceB_75_80_2 (by first | omega | (simp only [lenB] <;> omega)) (by first | omega | (simp only [lenB] <;> omega)) ?_
          exact SOps.nil rfl
        apply GOk.rd 37
        · rfl
        · exact fun b => (NeedG.inl 0 _ _ rfl rfl rfl NeedG.nil)
        · intro b rest ext
          refine SOps.loadPinA rfl aggB_80_2 (Nat.le_of_ble_eq_true rfl) ?_
          exact SOps.nil rfl
        apply GOk.rd 38
        · rfl
        · exact fun b => (NeedG.inl 8 _ _ rfl rfl rfl (NeedG.inl 4 _ _ rfl rfl rfl (NeedG.inl 0 _ _ rfl rfl rfl NeedG.nil)))
        · intro b rest ext
          refine SOps.callP (qBetween l i (ptN l - 1 - d) hb (by omega) (by omega) (by omega) (by omega)) rfl ?_
          rintro _ rfl
          exact SOps.nil rfl
        apply GOk.act [10] (fun ids => some (10, .ref (ids.getD 0 0) 0))
        · rfl
        · rfl
        · rfl
        · exact fun b => NeedG.nil
        · intro b rest ext
          refine SOps.alloc (sz := 2) zeroIs_48 (fun b0 hb_0 => ?_)
          exact SOps.nil ⟨fun k => if k = 10 then b0 else b k, fun k hk => if_neg hk, ⟨rfl, fun t d h => .inl h, _, List.perm_middle, .refl _⟩⟩
        apply GOk.act [] (fun _ => none)
        · rfl
        · rfl
        · rfl
        · exact fun b => (NeedG.inl 0 _ _ rfl rfl rfl (NeedG.inl 1 _ _ rfl rfl rfl NeedG.nil))
        · intro b rest ext
          refine SOps.storeAM 0 rfl rfl aggB_48_2 rfl ?_
          exact SOps.nil ⟨b, fun _ _ => rfl, ⟨rfl, fun t d h => .inl h, _, .refl _, .refl _⟩⟩
        exact GOk.nil
      · exact fun _ => rfl
      · intro ids
        show SCode _ _ _ _
        refine SCode.seq ?_
        refine SCode.seqR ?_
        refine SOps.freezeRef (t := 10) 0 0 rfl rfl rfl rfl rfl ?_
        refine SOps.reSlot (t := 10) rfl (show _ = DV.ipin (encLn (lineP l i (ptN l - 1 - d))) from rfl) ?_
        refine SOps.loadPinA rfl aggB_48_2 (Nat.le_of_ble_eq_true rfl) ?_
        refine SOps.move rfl ?_
        refine SOps.callP (qFree _ _ (line_ok hb (by omega) (by omega)) (by omega) (by omega)) rfl ?_
        rintro _ rfl
        refine SOps.bin rfl rfl rfl ?_
        refine SOps.nil ?_
        refine SCode.cond rfl (fun hc3 => ?_) (fun hc3 => ?_)
        · try simp only [decide_eq_true_eq, decide_eq_false_iff_not, Bool.not_eq_true', Bool.not_eq_false', beq_iff_eq, bne_iff_ne, ne_eq, beq_eq_false_iff_ne, bne_eq_false_iff_eq, Int.not_lt, Int.not_le, Nat.not_lt, Nat.not_le, Int.ofNat_lt, Int.ofNat_le, Bool.not_eq_eq_eq_not, Bool.not_true, Bool.not_false] at hc3
          have hst : divN l w i (divsR l w) (d + 1) = (divN l w i (divsR l w) d) := by rw [divN, if_neg (by have h9 := free_line (w := w) hb (show i < (ptN l - 1 - d) by omega) (show (ptN l - 1 - d) < ptN l by omega); omega), List.append_nil]
          refine SCode.exit ?_
          show SCode _ _ _ _
          refine SCode.region ?_
          refine SOps.move rfl ?_
          refine SOps.subI rfl rfl (by first | omega | (simp only [lenB] <;> omega)) (by first | omega | (simp only [lenB] <;> omega)) ?_
          refine SOps.assign rfl ?_
          refine SOps.nil ?_
          exact ⟨d + 1, b, by omega, by omega, St.Le.of ⟨rfl, rfl, rfl, rfl, (by show some _ = some _; rw [hst] <;> rfl), congrArg (fun z => some (DV.v (.int .i64 z))) (by omega), trivial⟩ rfl (by rw [hst] <;> rfl)⟩
        · try simp only [decide_eq_true_eq, decide_eq_false_iff_not, Bool.not_eq_true', Bool.not_eq_false', beq_iff_eq, bne_iff_ne, ne_eq, beq_eq_false_iff_ne, bne_eq_false_iff_eq, Int.not_lt, Int.not_le, Nat.not_lt, Nat.not_le, Int.ofNat_lt, Int.ofNat_le, Bool.not_eq_eq_eq_not, Bool.not_true, Bool.not_false] at hc3
          have hft : lenP l i (ptN l - 1 - d) ≤ w := by have h9 := free_line (w := w) hb (show i < (ptN l - 1 - d) by omega) (show (ptN l - 1 - d) < ptN l by omega); omega
          refine SCode.skip ?_
          show SCode _ _ _ _
          refine SCode.seqR ?_
          refine SOps.move rfl ?_
          refine SOps.move rfl ?_
          refine SOps.move rfl ?_
          refine SOps.callP (ih (ptN l - 1 - d) (by omega) (by omega)) rfl ?_
          rintro _ rfl
          refine SOps.lenM rfl sliceB_37_25_1 ?_
          refine SOps.move rfl ?_
          refine SOps.nil ?_
          refine SCode.block ?_
          refine SCode.loop2 (fun (q : Nat) (c : Nat) => (⟨61, [(0, DBxs l), (1, .v (.int .i64 w)), (2, .v (.int .i64 (i : Int))), (7, DKs (pointsL l)), (8, accD 1 c (((divN l w i (divsR l w) d) ++ ((divsR l w (ptN l - 1 - d)).take q).map (fun x => lineP l i (ptN l - 1 - d) :: x)).map encDv)), (9, .v (.int .i64 (((ptN l - 1 - d) : Nat) : Int))), (10, .ipin (encLn (lineP l i (ptN l - 1 - d)))), (46, DDs (divsR l w (ptN l - 1 - d))), (47, .v (.int .i64 ((divsR l w (ptN l - 1 - d)).length : Int))), (48, .v (.int .i64 (q : Int)))], accH 25 1 c (((divN l w i (divsR l w) d) ++ ((divsR l w (ptN l - 1 - d)).take q).map (fun x => lineP l i (ptN l - 1 - d) :: x)).map encDv) ++ []⟩ : St)) (fun (q : Nat) (c : Nat) => q ≤ (divsR l w (ptN l - 1 - d)).length) (fun (q : Nat) (c : Nat) => (divsR l w (ptN l - 1 - d)).length - q) (0) (b) (by exact Nat.zero_le _) (St.Le.of ⟨(by first | rfl | (show some _ = some _; rw [List.take_zero, List.map_nil, List.append_nil])), (by first | rfl | (show some _ = some _; rw [List.take_zero, List.map_nil, List.append_nil])), (by first | rfl | (show some _ = some _; rw [List.take_zero, List.map_nil, List.append_nil])), (by first | rfl | (show some _ = some _; rw [List.take_zero, List.map_nil, List.append_nil])), (by first | rfl | (show some _ = some _; rw [List.take_zero, List.map_nil, List.append_nil])), (by first | rfl | (show some _ = some _; rw [List.take_zero, List.map_nil, List.append_nil])), (by first | rfl | (show some _ = some _; rw [List.take_zero, List.map_nil, List.append_nil])), (by first | rfl | (show some _ = some _; rw [List.take_zero, List.map_nil, List.append_nil])), (by first | rfl | (show some _ = some _; rw [List.take_zero, List.map_nil, List.append_nil])), (by first | rfl | (show some _ = some _; rw [List.take_zero, List.map_nil, List.append_nil])), trivial⟩ rfl (by first | rfl | (rw [show ((divN l w i (divsR l w) d) ++ ((divsR l w (ptN l - 1 - d)).take 0).map (fun x => lineP l i (ptN l - 1 - d) :: x)) = (divN l w i (divsR l w) d) from by rw [List.take_zero, List.map_nil, List.append_nil]] <;> rfl))) ?_
          rintro q c hqn
          have hDl : ((divN l w i (divsR l w) d) ++ ((divsR l w (ptN l - 1 - d)).take q).map (fun x => lineP l i (ptN l - 1 - d) :: x)).length ≤ 2000000 := by simp only [List.length_append, List.length_map, List.length_take]; omega
          refine SCode.seqR ?_
          refine SOps.bin rfl rfl rfl ?_
          refine SOps.nil ?_
          refine SCode.seq ?_
          refine SCode.cond rfl (fun hc4 => ?_) (fun hc4 => ?_)
          · try simp only [decide_eq_true_eq, decide_eq_false_iff_not, Bool.not_eq_true', Bool.not_eq_false', beq_iff_eq, bne_iff_ne, ne_eq, beq_eq_false_iff_ne, bne_eq_false_iff_eq, Int.not_lt, Int.not_le, Nat.not_lt, Nat.not_le, Int.ofNat_lt, Int.ofNat_le, Bool.not_eq_eq_eq_not, Bool.not_true, Bool.not_false] at hc4
            refine SCode.skip ?_
            show SCode _ _ _ _
            refine SCode.seq ?_
            refine SCode.block ?_
            refine SCode.seqR ?_
            refine SOps.indexM (q) rfl rfl sliceB_37_25_1 (by first | omega | (simp only [lenB] <;> omega)) (by first | omega | (simp only [lenB] <;> omega)) ?_
            refine SOps.loadPin rfl flatB_25 ?_
            refine SOps.assign rfl ?_
            refine SOps.nil ?_
            refine SCode.region ?_
            have hq : q < (divsR l w (ptN l - 1 - d)).length := by omega
            have hxl := hrb.2 _ (List.getElem_mem hq)
            have hqe : ((divN l w i (divsR l w) d) ++ ((divsR l w (ptN l - 1 - d)).take (q + 1)).map (fun x => lineP l i (ptN l - 1 - d) :: x)) = ((divN l w i (divsR l w) d) ++ ((divsR l w (ptN l - 1 - d)).take q).map (fun x => lineP l i (ptN l - 1 - d) :: x)) ++ [(lineP l i (ptN l - 1 - d)) :: ((divsR l w (ptN l - 1 - d))[q])] := by rw [List.take_add_one, List.getElem?_eq_getElem hq, List.map_append, ← List.append_assoc]; rfl
            have hqs : (((divN l w i (divsR l w) d) ++ ((divsR l w (ptN l - 1 - d)).take (q + 1)).map (fun x => lineP l i (ptN l - 1 - d) :: x)).map encDv) = (((divN l w i (divsR l w) d) ++ ((divsR l w (ptN l - 1 - d)).take q).map (fun x => lineP l i (ptN l - 1 - d) :: x)).map encDv) ++ [encDv ((lineP l i (ptN l - 1 - d)) :: ((divsR l w (ptN l - 1 - d))[q]))] := by rw [hqe, List.map_append]; rfl
            refine SOps.move rfl ?_
            refine SOps.loadPinA rfl aggB_48_2 (Nat.le_of_ble_eq_true rfl) ?_
            refine SOps.litO sliceB_25_48_2 zeroIs_48 rfl (fun b1 hb_1 => ?_)
            refine SOps.move rfl ?_
            refine SOps.appendOwnE 0 sliceB_25_48_2 elemB_48_2_32 rfl rfl rfl rfl SrcD.isl (by simp only [List.length_map, lenB]; omega) (by simp only [List.length_map]; omega) (fun b2 => ?_)
            refine SOps.freezeS (t := 56) 0 rfl rfl rfl (by simp <;> omega) ?_
            refine SOps.reSlot (t := 56) rfl (show _ = DLns ((lineP l i (ptN l - 1 - d)) :: ((divsR l w (ptN l - 1 - d))[q])) from rfl) ?_
            refine SOps.litF rfl sliceB_37_25_1 zeroIs_25 rfl ?_
            refine SOps.appendAcc [] [] sliceB_37_25_1 elemB_25_1_24 rfl rfl rfl SrcD.isl (by simp) (by first | (simp [lenB] <;> (first | omega | (simp only [lenB] <;> omega))) | (simp only [lenB]; (first | omega | (simp only [lenB] <;> omega)))) (by first | (simp <;> (first | omega | (simp only [lenB] <;> omega))) | (first | omega | (simp only [lenB] <;> omega))) (fun b3 => ?_)
            refine SOps.assign rfl ?_
            refine SOps.nil ?_
            show SCode _ _ _ _
            refine SCode.region ?_
            refine SOps.addI rfl rfl (by first | omega | (simp only [lenB] <;> omega)) (by first | omega | (simp only [lenB] <;> omega)) ?_
            refine SOps.move rfl ?_
            refine SOps.nil ?_
            exact ⟨q + 1, b3, by omega, by omega, St.Le.of ⟨rfl, rfl, rfl, rfl, (by show some _ = some _; rw [hqs] <;> rfl), rfl, rfl, rfl, rfl, rfl, trivial⟩ rfl (by rw [hqs] <;> rfl)⟩
          · try simp only [decide_eq_true_eq, decide_eq_false_iff_not, Bool.not_eq_true', Bool.not_eq_false', beq_iff_eq, bne_iff_ne, ne_eq, beq_eq_false_iff_ne, bne_eq_false_iff_eq, Int.not_lt, Int.not_le, Nat.not_lt, Nat.not_le, Int.ofNat_lt, Int.ofNat_le, Bool.not_eq_eq_eq_not, Bool.not_true, Bool.not_false] at hc4
            have hst : divN l w i (divsR l w) (d + 1) = ((divN l w i (divsR l w) d) ++ ((divsR l w (ptN l - 1 - d)).take q).map (fun x => lineP l i (ptN l - 1 - d) :: x)) := by rw [divN, if_pos hft, List.take_of_length_le (by omega)]
            refine SCode.exit ?_
            show SCode _ _ _ _
            refine SCode.region ?_
            refine SOps.move rfl ?_
            refine SOps.subI rfl rfl (by first | omega | (simp only [lenB] <;> omega)) (by first | omega | (simp only [lenB] <;> omega)) ?_
            refine SOps.assign rfl ?_
            refine SOps.nil ?_
            exact ⟨d + 1, c, by omega, by omega, St.Le.of ⟨rfl, rfl, rfl, rfl, (by show some _ = some _; rw [hst] <;> rfl), congrArg (fun z => some (DV.v (.int .i64 z))) (by omega), trivial⟩ rfl (by rw [hst] <;> rfl)⟩
    · try simp only [decide_eq_true_eq, decide_eq_false_iff_not, Bool.not_eq_true', Bool.not_eq_false', beq_iff_eq, bne_iff_ne, ne_eq, beq_eq_false_iff_ne, bne_eq_false_iff_eq, Int.not_lt, Int.not_le, Nat.not_lt, Nat.not_le, Int.ofNat_lt, Int.ofNat_le, Bool.not_eq_eq_eq_not, Bool.not_true, Bool.not_false] at hc2
      have hde : d = ptN l - 1 - i := by omega
      refine SCode.exit ?_
      show SCode _ _ _ _
      refine SCode.seqR ?_
      refine SOps.freezeAcc (t := 8) [] [] rfl rfl rfl ?_
      refine SOps.move rfl ?_
      refine SOps.assign rfl ?_
      refine SOps.nil ?_
      refine SCode.ret ?_
      exact ⟨_, Res.one (.tmp rfl), by rw [if_neg (by omega), hds, ← hde] <;> rfl⟩
theorem qDiv (l : List Bx) (w : Int) (hb : boxesB l = true) (hw1 : 1 ≤ w) (hw2 : w ≤ 200) (h11 : ptN l ≤ 11) : ∀ (f i : Nat), i ≤ ptN l - 1 → ptN l - 1 < f + i → GCall Tryd.prog E 24 [DBxs l, .v (.int .i64 w), .v (.int .i64 (i : Int))] [] (fun d H => d = DDs (divsR l w i) ∧ H = [])
  | 0, i, h1, h2 => by omega
  | f + 1, i, h1, h2 => (qDiv0 l w i hb hw1 hw2 h11 h1 (fun n k1 k2 => qDiv l w hb hw1 hw2 h11 f n k2 (by omega))).clean (fun d H e => by
    subst e
    split
    · rename_i h
      rw [h, divsR_last]
      exact ⟨_, fun _ _ _ h => rep_islNil h, rfl⟩
    · exact ⟨_, fun _ _ _ h => h, rfl⟩)
end Go.GH
namespace Go.GH
open Go Go.Proofs
variable {E : Env}
theorem qLines0 (l : List Bx) (w p : Int) (hb : boxesB l = true) (hw1 : 1 ≤ w) (hw2 : w ≤ 200) (h11 : ptN l ≤ 11) (hp1 : 0 ≤ p) (hp2 : p ≤ 1000000) : GCall Tryd.prog E 19 [DBxs l, .v (.int .i64 w), .v (.int .i64 p)] [] (fun d H => d = (if (keepR w p (divsR l w 0)).2 < 0 then .tup [.v (.slice none 0 0), .v (.int .i64 0), .v (.int .i64 2)] else .tup [DLns (keepR w p (divsR l w 0)).1, .v (.int .i64 (keepR w p (divsR l w 0)).2), .v (.int .i64 0)])) := by
  have hpos := ptN_pos l
  have hdb := divsR_bound (w := w) h11 (Nat.zero_le (ptN l - 1))
  refine GCall.body (C := ⟨Tryd.prog, E, true⟩) Tryd.func19 rfl (fun _ => rfl) (by kernel_rfl) rfl ?_
  refine SCode.seqR ?_
  refine SOps.assign rfl ?_
  refine SOps.assign rfl ?_
  refine SOps.assign rfl ?_
  refine SOps.nil ?_
  refine SCode.seqR ?_
  refine SOps.assign rfl ?_
  refine SOps.nil ?_
  refine SCode.seqR ?_
  refine SOps.relab (t := 9) (d' := DLns []) rfl (fun _ _ _ h => nil_isl h) ?_
  refine SOps.assign rfl ?_
  refine SOps.nil ?_
  refine SCode.seq ?_
  refine SCode.seqR ?_
  refine SOps.move rfl ?_
  refine SOps.move rfl ?_
  refine SOps.callP (qDiv l w hb hw1 hw2 h11 (ptN l) 0 (Nat.zero_le _) (by omega)) rfl ?_
  rintro _ rfl
  refine SOps.lenM rfl sliceB_37_25_1 ?_
  refine SOps.move rfl ?_
  refine SOps.nil ?_
  refine SCode.block ?_
  refine SCode.loop2 (fun (q : Nat) (x : List Ln × Int) => (⟨40, [(1, .v (.int .i64 w)), (2, .v (.int .i64 p)), (9, DLns x.1), (10, .v (.int .i64 x.2)), (16, DDs (divsR l w 0)), (17, .v (.int .i64 ((divsR l w 0).length : Int))), (18, .v (.int .i64 (q : Int)))], []⟩ : St)) (fun (q : Nat) (x : List Ln × Int) => q ≤ (divsR l w 0).length ∧ x = pickL (fun d => sumL d w p) ([], -1) ((divsR l w 0).take q)) (fun (q : Nat) (x : List Ln × Int) => (divsR l w 0).length - q) (0) (([], -1)) (by exact ⟨Nat.zero_le _, rfl⟩) (St.Le.of ⟨(by first | rfl | (show some _ = some _; simp)), (by first | rfl | (show some _ = some _; simp)), (by first | rfl | (show some _ = some _; simp)), (by first | rfl | (show some _ = some _; simp)), (by first | rfl | (show some _ = some _; simp)), (by first | rfl | (show some _ = some _; simp)), (by first | rfl | (show some _ = some _; simp)), trivial⟩ rfl (by first | rfl | (simp))) ?_
  rintro q x ⟨hqn, hx⟩
  refine SCode.seqR ?_
  refine SOps.bin rfl rfl rfl ?_
  refine SOps.nil ?_
  refine SCode.seq ?_
  refine SCode.cond rfl (fun hc1 => ?_) (fun hc1 => ?_)
  · try simp only [decide_eq_true_eq, decide_eq_false_iff_not, Bool.not_eq_true', Bool.not_eq_false', beq_iff_eq, bne_iff_ne, ne_eq, beq_eq_false_iff_ne, bne_eq_false_iff_eq, Int.not_lt, Int.not_le, Nat.not_lt, Nat.not_le, Int.ofNat_lt, Int.ofNat_le, Bool.not_eq_eq_eq_not, Bool.not_true, Bool.not_false] at hc1
    refine SCode.skip ?_
    show SCode _ _ _ _
    refine SCode.seq ?_
    refine SCode.block ?_
    refine SCode.seqR ?_
    refine SOps.indexM (q) rfl rfl sliceB_37_25_1 (by first | omega | (simp only [lenB] <;> omega)) (by first | omega | (simp only [lenB] <;> omega)) ?_
    refine SOps.loadPin rfl flatB_25 ?_
    refine SOps.assign rfl ?_
    refine SOps.nil ?_
    refine SCode.seqR ?_
    have hql : q < (divsR l w 0).length := by omega
    have hxl := hdb.2 _ (List.getElem_mem hql)
    have hlk : ∀ y ∈ ((divsR l w 0)[q]), LnOK y := by have h9 : ((divsR l w 0)[q]) ∈ (divsR l w 0) := List.getElem_mem hql; obtain ⟨z, hz, hz2⟩ := List.mem_map.1 h9; rw [← hz2]; exact way_ok hb (wayF_fit _ _ (Nat.zero_le _) z hz)
    have hxs : pickL (fun d => sumL d w p) ([], -1) ((divsR l w 0).take (q + 1)) = pick1 (fun d => sumL d w p) x ((divsR l w 0)[q]) := by rw [List.take_add_one, List.getElem?_eq_getElem hql, pickL_app, ← hx]; rfl
    refine SOps.move rfl ?_
    refine SOps.move rfl ?_
    refine SOps.move rfl ?_
    refine SOps.callP (qSum _ _ _ hlk (by omega) (by omega) (by omega) hp1 hp2) rfl ?_
    rintro _ rfl
    refine SOps.assign rfl ?_
    refine SOps.nil ?_
    refine SCode.seqR ?_
    refine SOps.move rfl ?_
    refine SOps.bin rfl rfl rfl ?_
    refine SOps.move rfl ?_
    refine SOps.caseB 28 rfl (fun hb2 => ?_) (fun hb2 => ?_)
    · try simp only [decide_eq_true_eq, decide_eq_false_iff_not, Bool.not_eq_true', Bool.not_eq_false', beq_iff_eq, bne_iff_ne, ne_eq, beq_eq_false_iff_ne, bne_eq_false_iff_eq, Int.not_lt, Int.not_le, Nat.not_lt, Nat.not_le, Int.ofNat_lt, Int.ofNat_le, Bool.not_eq_eq_eq_not, Bool.not_true, Bool.not_false] at hb2
      have hpk : pick1 (fun d => sumL d w p) x ((divsR l w 0)[q]) = (((divsR l w 0)[q]), sumL ((divsR l w 0)[q]) w p) := if_pos (.inl (by assumption))
      refine SOps.skip rfl ?_
      refine SOps.skip rfl ?_
      refine SOps.skip rfl ?_
      refine SOps.pick rfl rfl ?_
      refine SOps.nil ?_
      refine SCode.cond rfl (fun _ => ?_) (fun h => by cases h)
      refine SCode.region ?_
      refine SOps.move rfl ?_
      refine SOps.move rfl ?_
      refine SOps.assign rfl ?_
      refine SOps.assign rfl ?_
      refine SOps.nil ?_
      show SCode _ _ _ _
      refine SCode.region ?_
      refine SOps.addI rfl rfl (by first | omega | (simp only [lenB] <;> omega)) (by first | omega | (simp only [lenB] <;> omega)) ?_
      refine SOps.move rfl ?_
      refine SOps.nil ?_
      exact ⟨q + 1, pick1 (fun d => sumL d w p) x ((divsR l w 0)[q]), ⟨by omega, hxs.symm⟩, by omega, St.Le.of ⟨rfl, rfl, (by show some _ = some _; rw [hpk] <;> rfl), (by show some _ = some _; rw [hpk] <;> rfl), rfl, rfl, rfl, trivial⟩⟩
    · try simp only [decide_eq_true_eq, decide_eq_false_iff_not, Bool.not_eq_true', Bool.not_eq_false', beq_iff_eq, bne_iff_ne, ne_eq, beq_eq_false_iff_ne, bne_eq_false_iff_eq, Int.not_lt, Int.not_le, Nat.not_lt, Nat.not_le, Int.ofNat_lt, Int.ofNat_le, Bool.not_eq_eq_eq_not, Bool.not_true, Bool.not_false] at hb2
      refine SOps.move rfl ?_
      refine SOps.move rfl ?_
      refine SOps.bin rfl rfl rfl ?_
      refine SOps.pick rfl rfl ?_
      refine SOps.nil ?_
      refine SCode.cond rfl (fun hc3 => ?_) (fun hc3 => ?_)
      · try simp only [decide_eq_true_eq, decide_eq_false_iff_not, Bool.not_eq_true', Bool.not_eq_false', beq_iff_eq, bne_iff_ne, ne_eq, beq_eq_false_iff_ne, bne_eq_false_iff_eq, Int.not_lt, Int.not_le, Nat.not_lt, Nat.not_le, Int.ofNat_lt, Int.ofNat_le, Bool.not_eq_eq_eq_not, Bool.not_true, Bool.not_false] at hc3
        have hpk : pick1 (fun d => sumL d w p) x ((divsR l w 0)[q]) = (((divsR l w 0)[q]), sumL ((divsR l w 0)[q]) w p) := if_pos (.inr (by assumption))
        refine SCode.region ?_
        refine SOps.move rfl ?_
        refine SOps.move rfl ?_
        refine SOps.assign rfl ?_
        refine SOps.assign rfl ?_
        refine SOps.nil ?_
        show SCode _ _ _ _
        refine SCode.region ?_
        refine SOps.addI rfl rfl (by first | omega | (simp only [lenB] <;> omega)) (by first | omega | (simp only [lenB] <;> omega)) ?_
        refine SOps.move rfl ?_
        refine SOps.nil ?_
        exact ⟨q + 1, pick1 (fun d => sumL d w p) x ((divsR l w 0)[q]), ⟨by omega, hxs.symm⟩, by omega, St.Le.of ⟨rfl, rfl, (by show some _ = some _; rw [hpk] <;> rfl), (by show some _ = some _; rw [hpk] <;> rfl), rfl, rfl, rfl, trivial⟩⟩
      · try simp only [decide_eq_true_eq, decide_eq_false_iff_not, Bool.not_eq_true', Bool.not_eq_false', beq_iff_eq, bne_iff_ne, ne_eq, beq_eq_false_iff_ne, bne_eq_false_iff_eq, Int.not_lt, Int.not_le, Nat.not_lt, Nat.not_le, Int.ofNat_lt, Int.ofNat_le, Bool.not_eq_eq_eq_not, Bool.not_true, Bool.not_false] at hc3
        have hpk : pick1 (fun d => sumL d w p) x ((divsR l w 0)[q]) = x := if_neg (by show ¬ (x.2 < 0 ∨ sumL ((divsR l w 0)[q]) w p < x.2); omega)
        refine SCode.skip ?_
        show SCode _ _ _ _
        refine SCode.region ?_
        refine SOps.addI rfl rfl (by first | omega | (simp only [lenB] <;> omega)) (by first | omega | (simp only [lenB] <;> omega)) ?_
        refine SOps.move rfl ?_
        refine SOps.nil ?_
        exact ⟨q + 1, pick1 (fun d => sumL d w p) x ((divsR l w 0)[q]), ⟨by omega, hxs.symm⟩, by omega, St.Le.of ⟨rfl, rfl, (by show some _ = some _; rw [hpk] <;> rfl), (by show some _ = some _; rw [hpk] <;> rfl), rfl, rfl, rfl, trivial⟩⟩
  · try simp only [decide_eq_true_eq, decide_eq_false_iff_not, Bool.not_eq_true', Bool.not_eq_false', beq_iff_eq, bne_iff_ne, ne_eq, beq_eq_false_iff_ne, bne_eq_false_iff_eq, Int.not_lt, Int.not_le, Nat.not_lt, Nat.not_le, Int.ofNat_lt, Int.ofNat_le, Bool.not_eq_eq_eq_not, Bool.not_true, Bool.not_false] at hc1
    have hxe : x = (keepR w p (divsR l w 0)) := by rw [hx, List.take_of_length_le (by omega)]; rfl
    refine SCode.exit ?_
    show SCode _ _ _ _
    refine SCode.seq ?_
    refine SCode.seqR ?_
    refine SOps.move rfl ?_
    refine SOps.bin rfl rfl rfl ?_
    refine SOps.nil ?_
    refine SCode.cond rfl (fun hc4 => ?_) (fun hc4 => ?_)
    · try simp only [decide_eq_true_eq, decide_eq_false_iff_not, Bool.not_eq_true', Bool.not_eq_false', beq_iff_eq, bne_iff_ne, ne_eq, beq_eq_false_iff_ne, bne_eq_false_iff_eq, Int.not_lt, Int.not_le, Nat.not_lt, Nat.not_le, Int.ofNat_lt, Int.ofNat_le, Bool.not_eq_eq_eq_not, Bool.not_true, Bool.not_false] at hc4
      refine SCode.seqR ?_
      refine SOps.assign rfl ?_
      refine SOps.assign rfl ?_
      refine SOps.assign rfl ?_
      refine SOps.nil ?_
      refine SCode.ret ?_
      exact ⟨_, Res.three (.tmp rfl) (.tmp rfl) (.tmp rfl), by rw [← hxe, if_pos (by assumption)] <;> rfl⟩
    · try simp only [decide_eq_true_eq, decide_eq_false_iff_not, Bool.not_eq_true', Bool.not_eq_false', beq_iff_eq, bne_iff_ne, ne_eq, beq_eq_false_iff_ne, bne_eq_false_iff_eq, Int.not_lt, Int.not_le, Nat.not_lt, Nat.not_le, Int.ofNat_lt, Int.ofNat_le, Bool.not_eq_eq_eq_not, Bool.not_true, Bool.not_false] at hc4
      refine SCode.skip ?_
      show SCode _ _ _ _
      refine SCode.seqR ?_
      refine SOps.move rfl ?_
      refine SOps.move rfl ?_
      refine SOps.assign rfl ?_
      refine SOps.assign rfl ?_
      refine SOps.assign rfl ?_
      refine SOps.nil ?_
      refine SCode.ret ?_
      exact ⟨_, Res.three (.tmp rfl) (.tmp rfl) (.tmp rfl), by rw [← hxe, if_neg (by omega)] <;> rfl⟩
theorem qLines (l : List Bx) (w p : Int) (hv : validL l w = true) (h11 : ptN l ≤ 11) (hp : penB p = true) : GCall Tryd.prog E 19 [DBxs l, .v (.int .i64 w), .v (.int .i64 p)] [] (fun d H => d = .tup [DLns (linesR l w p).1, .v (.int .i64 (linesR l w p).2.1), .v (.int .i64 (linesR l w p).2.2)] ∧ H = []) :=
  (qLines0 l w p (valid_of hv).2 (valid_of hv).1.1 (valid_of hv).1.2 h11 (penB_iff.1 hp).1 (penB_iff.1 hp).2).clean (fun d H e => by
    have hk := lines_keep hv hp
    subst e
    split
    · rename_i h1
      rw [hk, if_pos h1]
      exact ⟨_, fun _ _ _ h => rep_tup0 (fun _ _ _ h => nil_isl h) h, rfl⟩
    · rename_i h1
      rw [hk, if_neg h1]
      exact ⟨_, fun _ _ _ h => h, rfl⟩)
theorem qGreedy (l : List Bx) (w : Int) (hv : validL l w = true) : GCall Tryd.prog E 23 [DBxs l, .v (.int .i64 w)] [] (fun d H => d = .tup [DLns (greedyR l w).1, .v (.int .i64 (greedyR l w).2)] ∧ H = []) :=
  (qGreedy0 l w (valid_of hv).2 (valid_of hv).1.1 (valid_of hv).1.2).clean (fun d H e => by
    subst e
    unfold greedyR
    rw [if_pos hv]
    cases greedyF l w (ptN l) 0 with
    | none => exact ⟨_, fun _ _ _ h => rep_tup0 (fun _ _ _ h => nil_isl h) h, rfl⟩
    | some ks => exact ⟨_, fun _ _ _ h => h, rfl⟩)
end Go.GH
namespace Go.GH
open Go Go.Lib
def newC (ln : List Ln) (i : Nat) : Bool := decide (0 < i) && !(lnAt ln (i - 1)).hyph
/-- The word and the column after so many words of a line. -/
def dvK (c : Bool) (ws : List ByteArray) (s : Nat × Nat) : Nat → Nat × Nat
  | 0 => s
  | k + 1 => if decide (0 < k) || c then ((dvK c ws s k).1 + 1, wlen (ws.getD k .empty)) else ((dvK c ws s k).1, (dvK c ws s k).2 + wlen (ws.getD k .empty))
def dvS (ln : List Ln) : Nat → Nat × Nat
  | 0 => (0, 0)
  | i + 1 => dvK (newC ln i) (lnAt ln i).words (dvS ln i) (lnAt ln i).words.length
def okWd (s : ByteArray) : Bool := !(decide (s = ⟨#[]⟩) || decide (¬ encs (runes s) = s))
def ptsAt (l : List Bx) (j : Nat) : List Int := (l.getD j ⟨.empty, []⟩).pts
def dlineA (ln : List Ln) (w : Int) (i : Nat) : Bool := !(decide (w < (wlen (textL (lnAt ln i)) : Int)) || decide ((lnAt ln i).words.length = 0) || ((lnAt ln i).hyph && decide (i + 1 = ln.length)))
def dline (l : List Bx) (ln : List Ln) (w : Int) (i : Nat) : Bool :=
  dlineA ln w i && (lnAt ln i).words.all okWd && (!(lnAt ln i).hyph || (ptsAt l (dvS ln (i + 1)).1).any (fun h => decide (h = ((dvS ln (i + 1)).2 : Int))))
def divB (l : List Bx) (ln : List Ln) (w : Int) : Bool := decide (joinL ln = l.map (·.word)) && (List.range ln.length).all (dline l ln w)
theorem divB_iff {l : List Bx} {ln : List Ln} {w : Int} : divB l ln w = true ↔ joinL ln = l.map (·.word) ∧ ∀ i, i < ln.length → dline l ln w i = true := by
  unfold divB
  rw [Bool.and_eq_true, decide_eq_true_eq, List.all_eq_true]
  exact ⟨fun h => ⟨h.1, fun i hi => h.2 i (List.mem_range.2 hi)⟩, fun h => ⟨h.1, fun i hi => h.2 i (List.mem_range.1 hi)⟩⟩
theorem divB_bad {l : List Bx} {ln : List Ln} {w : Int} {i : Nat} (hi : i < ln.length) (h : dline l ln w i = false) : divB l ln w = false := by
  rw [← Bool.not_eq_true, divB_iff]
  exact fun h2 => by have := h2.2 i hi; rw [h] at this; cases this
theorem okWd_iff {s : ByteArray} : okWd s = true ↔ s ≠ ⟨#[]⟩ ∧ Prp s := by
  unfold okWd Prp
  simp [not_or]
theorem dline_iff {l : List Bx} {ln : List Ln} {w : Int} {i : Nat} : dline l ln w i = true ↔ (wlen (textL (lnAt ln i)) : Int) ≤ w ∧ (lnAt ln i).words.length ≠ 0 ∧ ((lnAt ln i).hyph = true → i + 1 ≠ ln.length) ∧ (∀ s ∈ (lnAt ln i).words, s ≠ ⟨#[]⟩ ∧ Prp s) ∧ ((lnAt ln i).hyph = true → ((dvS ln (i + 1)).2 : Int) ∈ ptsAt l (dvS ln (i + 1)).1) := by
  unfold dline dlineA
  rw [Bool.and_eq_true, Bool.and_eq_true, Bool.not_eq_true', Bool.or_eq_false_iff, Bool.or_eq_false_iff, decide_eq_false_iff_not, decide_eq_false_iff_not, List.all_eq_true]
  constructor
  · rintro ⟨⟨⟨⟨h1, h2⟩, h3⟩, h4⟩, h5⟩
    refine ⟨by omega, h2, fun h => ?_, fun s hs => okWd_iff.1 (h4 s hs), fun h => ?_⟩
    · rw [h, Bool.true_and, decide_eq_false_iff_not] at h3; exact h3
    · rw [h, Bool.not_true, Bool.false_or, List.any_eq_true] at h5
      obtain ⟨x, hx, hx2⟩ := h5
      rw [← of_decide_eq_true hx2]; exact hx
  · rintro ⟨h1, h2, h3, h4, h5⟩
    refine ⟨⟨⟨⟨by omega, h2⟩, ?_⟩, fun s hs => okWd_iff.2 (h4 s hs)⟩, ?_⟩
    · cases h : (lnAt ln i).hyph
      · rfl
      · rw [Bool.true_and]; exact decide_eq_false (h3 h)
    · cases h : (lnAt ln i).hyph
      · rfl
      · rw [Bool.not_true, Bool.false_or, List.any_eq_true]
        exact ⟨_, h5 h, decide_eq_true rfl⟩
theorem lt_step {P : Nat → Prop} {i : Nat} (h : ∀ j, j < i → P j) (hi : P i) : ∀ j, j < i + 1 → P j := fun j hj => by
  rcases Nat.lt_or_ge j i with h1 | h1
  · exact h j h1
  · obtain rfl : j = i := by omega
    exact hi
theorem any_take_step {α : Type} {f : α → Bool} {l : List α} {q : Nat} (h : q < l.length) : (l.take (q + 1)).any f = ((l.take q).any f || f l[q]) := by
  rw [List.take_add_one, List.getElem?_eq_getElem h, List.any_append]; simp
def lastW (J : List ByteArray) : ByteArray := J.getD (J.length - 1) .empty
/-- What is joined, beside the word and the column. -/
def Beside (J : List ByteArray) (s : Nat × Nat) : Prop := J.length = s.1 + 1 ∧ wlen (lastW J) = s.2 ∧ Prp (lastW J)
theorem lastW_app (J : List ByteArray) (w : ByteArray) : lastW (J ++ [w]) = w := by
  unfold lastW
  rw [List.length_append, List.length_singleton, Nat.add_sub_cancel, List.getD_eq_getElem?_getD, List.getElem?_append_right (Nat.le_refl _), Nat.sub_self]; rfl
theorem lastW_set {J : List ByteArray} {w : ByteArray} (h : 0 < J.length) : lastW (J.set (J.length - 1) w) = w := by
  unfold lastW
  rw [List.length_set, getD_lt (by rw [List.length_set]; omega), List.getElem_set_self]
theorem beside_step {J : List ByteArray} {s : Nat × Nat} {j c : Bool} {k : Nat} {w : ByteArray} (h : (J = [] ∧ s = (0, 0) ∧ j = false ∧ (decide (0 < k) || c) = false) ∨ (Beside J s ∧ j = !(decide (0 < k) || c))) (hw : Prp w) :
    Beside (addW J j w) (if decide (0 < k) || c then (s.1 + 1, wlen w) else (s.1, s.2 + wlen w)) := by
  rcases h with ⟨rfl, rfl, rfl, h⟩ | ⟨⟨h1, h2, h3⟩, rfl⟩
  · rw [h, addW_app (.inl rfl)]
    exact ⟨rfl, by rw [lastW_app]; exact (Nat.zero_add _).symm, by rw [lastW_app]; exact hw⟩
  · cases hc : (decide (0 < k) || c)
    · rw [Bool.not_false, addW_set (by omega)]
      have e := prp_app h3 hw
      have h0 : 0 < J.length := by omega
      exact ⟨by rw [List.length_set]; exact h1, by rw [lastW_set h0]; show wlen (lastW J ++ w) = _; rw [wlen_app h3 hw, h2]; rfl, by rw [lastW_set h0]; exact e.2⟩
    · rw [Bool.not_true, addW_app (.inl rfl)]
      exact ⟨by rw [List.length_append, List.length_singleton, h1]; rfl, by rw [lastW_app]; rfl, by rw [lastW_app]; exact hw⟩
theorem beside_line {J : List ByteArray} {s : Nat × Nat} {h c : Bool} {ws : List ByteArray} (h0 : (J = [] ∧ s = (0, 0) ∧ h = false ∧ c = false) ∨ (Beside J s ∧ h = !c)) (hw : ∀ x ∈ ws, Prp x) : ∀ k, k < ws.length → Beside (joinK J h ws (k + 1)) (dvK c ws s (k + 1))
  | 0, hk => by
    rw [joinK, dvK]
    have hg := hw _ (List.getElem_mem hk)
    rw [← getD_lt (d := .empty) hk] at hg
    refine beside_step (k := 0) ?_ hg
    rcases h0 with ⟨h1, h2, h3, h4⟩ | ⟨h1, h2⟩
    · exact .inl ⟨h1, h2, by rw [h3, Bool.and_false], by rw [h4]; rfl⟩
    · exact .inr ⟨h1, by rw [h2]; cases c <;> rfl⟩
  | k + 1, hk => by
    have ih := beside_line h0 hw k (by omega)
    rw [joinK, dvK]
    have hg := hw _ (List.getElem_mem hk)
    rw [← getD_lt (d := .empty) hk] at hg
    refine beside_step (k := k + 1) (.inr ⟨ih, ?_⟩) hg
    rw [decide_eq_false (by omega), decide_eq_true (show 0 < k + 1 by omega)]; rfl
theorem beside_all {ln : List Ln} (hw : ∀ i, i < ln.length → (lnAt ln i).words.length ≠ 0 ∧ ∀ x ∈ (lnAt ln i).words, Prp x) : ∀ i, i < ln.length → Beside (joinI ln (i + 1)) (dvS ln (i + 1))
  | 0, hi => by
    obtain ⟨h1, h2⟩ := hw 0 hi
    rw [joinI, dvS]
    obtain ⟨k, hk⟩ : ∃ k, (lnAt ln 0).words.length = k + 1 := ⟨(lnAt ln 0).words.length - 1, by omega⟩
    rw [hk]
    exact beside_line (.inl ⟨rfl, rfl, rfl, rfl⟩) h2 k (by omega)
  | i + 1, hi => by
    obtain ⟨h1, h2⟩ := hw (i + 1) hi
    have ih := beside_all hw i (by omega)
    rw [joinI, dvS]
    obtain ⟨k, hk⟩ : ∃ k, (lnAt ln (i + 1)).words.length = k + 1 := ⟨(lnAt ln (i + 1)).words.length - 1, by omega⟩
    rw [hk]
    refine beside_line (.inr ⟨ih, ?_⟩) h2 k (by omega)
    unfold prevH newC
    rw [decide_eq_true (show 0 < i + 1 by omega), Bool.true_and, Bool.true_and, Bool.not_not]
/-! nothing runs over -/
theorem dvK_bound {c : Bool} {ws : List ByteArray} {s : Nat × Nat} (h2 : ∀ w ∈ ws, w.size ≤ 1000) : ∀ k, (dvK c ws s k).1 ≤ s.1 + k ∧ (dvK c ws s k).2 ≤ s.2 + 1000 * k
  | 0 => ⟨Nat.le_refl _, Nat.le_refl _⟩
  | k + 1 => by
    obtain ⟨ih1, ih2⟩ := dvK_bound (c := c) (s := s) h2 k
    have hw : wlen (ws.getD k .empty) ≤ 1000 := by
      have h4 := runes_len (ws.getD k .empty)
      have h5 : (ws.getD k .empty).size ≤ 1000 := by
        rw [List.getD_eq_getElem?_getD]
        rcases Nat.lt_or_ge k ws.length with h3 | h3
        · rw [List.getElem?_eq_getElem h3]; exact h2 _ (List.getElem_mem h3)
        · rw [List.getElem?_eq_none h3]; exact Nat.zero_le _
      unfold wlen; omega
    rw [dvK, Nat.mul_add, Nat.mul_one]
    split
    · exact ⟨Nat.succ_le_succ ih1, Nat.le_trans hw (by omega)⟩
    · exact ⟨Nat.le_succ_of_le ih1, by rw [← Nat.add_assoc]; exact Nat.add_le_add ih2 hw⟩
theorem dvS_bound {ln : List Ln} {M N : Nat} (hM : M = 1000) (hN : N = 1000000) (h : ∀ x ∈ ln, LnOK x) (i : Nat) (hi : i ≤ ln.length) : (dvS ln i).1 ≤ M * i ∧ (dvS ln i).2 ≤ N * i := by
  induction i with
  | zero => exact ⟨Nat.le_refl _, Nat.le_refl _⟩
  | succ i ih =>
    obtain ⟨ih1, ih2⟩ := ih (by omega)
    have hil : i < ln.length := by omega
    have hk := h _ (List.getElem_mem hil)
    rw [← lnAt_lt hil] at hk
    obtain ⟨h1, h2⟩ := dvK_bound (c := newC ln i) (s := dvS ln i) hk.2 (lnAt ln i).words.length
    have h3 := hk.1
    rw [dvS, Nat.mul_add, Nat.mul_add, Nat.mul_one, Nat.mul_one]
    exact ⟨by omega, by omega⟩
theorem joinK_len_mono (J : List ByteArray) (h : Bool) (ws : List ByteArray) : ∀ k, J.length ≤ (joinK J h ws k).length
  | 0 => Nat.le_refl _
  | k + 1 => by
    have ih := joinK_len_mono J h ws k
    rw [joinK]
    unfold addW
    split
    · rw [List.length_set]; exact ih
    · rw [List.length_append]; omega
theorem joinI_len_mono (ln : List Ln) {i : Nat} : ∀ {k}, i ≤ k → (joinI ln i).length ≤ (joinI ln k).length
  | 0, h => by obtain rfl : i = 0 := by omega
               exact Nat.le_refl _
  | k + 1, h => by
    rcases Nat.lt_or_ge k i with h1 | h1
    · obtain rfl : i = k + 1 := by omega
      exact Nat.le_refl _
    · exact Nat.le_trans (joinI_len_mono ln h1) (by rw [joinI]; exact joinK_len_mono _ _ _ _)
/-- The word that is looked up is one of the boxes'. -/
theorem dv_in {l : List Bx} {ln : List Ln} (hj : joinL ln = l.map (·.word)) {i : Nat} (hi : i < ln.length) (hw : ∀ j, j < i + 1 → (lnAt ln j).words.length ≠ 0 ∧ ∀ x ∈ (lnAt ln j).words, Prp x) : (dvS ln (i + 1)).1 < l.length := by
  have key : ∀ j, j < i + 1 → Beside (joinI ln (j + 1)) (dvS ln (j + 1)) := fun j => by
    induction j with
    | zero =>
      intro hj0
      obtain ⟨h1, h2⟩ := hw 0 hj0
      rw [joinI, dvS]
      obtain ⟨k, hk⟩ : ∃ k, (lnAt ln 0).words.length = k + 1 := ⟨(lnAt ln 0).words.length - 1, by omega⟩
      rw [hk]
      exact beside_line (.inl ⟨rfl, rfl, rfl, rfl⟩) h2 k (by omega)
    | succ j ih =>
      intro hj1
      obtain ⟨h1, h2⟩ := hw (j + 1) hj1
      have ih := ih (by omega)
      rw [joinI, dvS]
      obtain ⟨k, hk⟩ : ∃ k, (lnAt ln (j + 1)).words.length = k + 1 := ⟨(lnAt ln (j + 1)).words.length - 1, by omega⟩
      rw [hk]
      refine beside_line (.inr ⟨ih, ?_⟩) h2 k (by omega)
      unfold prevH newC
      rw [decide_eq_true (show 0 < j + 1 by omega), Bool.true_and, Bool.true_and, Bool.not_not]
  have h1 := (key i (Nat.lt_succ_self i)).1
  have h2 := joinI_len_mono ln (i := i + 1) (k := ln.length) hi
  have h3 := congrArg List.length hj
  rw [List.length_map] at h3
  unfold joinL at h3
  omega
end Go.GH
namespace Go.GH
open Go Go.Proofs
variable {E : Env}
theorem lDivision (l : List Bx) (ln : List Ln) (w : Int) (hk : ∀ x ∈ ln, LnOK x) (hl : ln.length ≤ 1000) : GCall Tryd.prog E 36 [DBxs l, DLns ln, .v (.int .i64 w)] [] (fun d H => d = .v (.bool (divB l ln w)) ∧ H = []) := by
  refine GCall.body (C := ⟨Tryd.prog, E, true⟩) Tryd.func36 rfl (fun _ => rfl) (by kernel_rfl) rfl ?_
  refine SCode.seqR ?_
  refine SOps.assign rfl ?_
  refine SOps.nil ?_
  refine SCode.seq ?_
  refine SCode.seqR ?_
  refine SOps.move rfl ?_
  refine SOps.callP (sJoin ln hk hl) rfl ?_
  rintro _ rfl
  refine SOps.move rfl ?_
  refine SOps.callP (lTexts _ _) rfl ?_
  rintro _ rfl
  refine SOps.un rfl rfl ?_
  refine SOps.nil ?_
  refine SCode.cond rfl (fun hc1 => ?_) (fun hc1 => ?_)
  · try simp only [decide_eq_true_eq, decide_eq_false_iff_not, Bool.not_eq_true', Bool.not_eq_false', beq_iff_eq, bne_iff_ne, ne_eq, beq_eq_false_iff_ne, bne_eq_false_iff_eq, Int.not_lt, Int.not_le, Nat.not_lt, Nat.not_le, Int.ofNat_lt, Int.ofNat_le, Bool.not_eq_eq_eq_not, Bool.not_true, Bool.not_false] at hc1
    refine SCode.seqR ?_
    refine SOps.assign rfl ?_
    refine SOps.nil ?_
    refine SCode.ret ?_
    exact ⟨_, Res.one (.tmp rfl), congrArg (fun b => DV.v (.bool b)) (show _ = divB l ln w from Eq.symm (by unfold divB; rw [decide_eq_false (by assumption)]; rfl)), rfl⟩
  · try simp only [decide_eq_true_eq, decide_eq_false_iff_not, Bool.not_eq_true', Bool.not_eq_false', beq_iff_eq, bne_iff_ne, ne_eq, beq_eq_false_iff_ne, bne_eq_false_iff_eq, Int.not_lt, Int.not_le, Nat.not_lt, Nat.not_le, Int.ofNat_lt, Int.ofNat_le, Bool.not_eq_eq_eq_not, Bool.not_true, Bool.not_false] at hc1
    refine SCode.skip ?_
    show SCode _ _ _ _
    refine SCode.seqR ?_
    have hjn : joinL ln = l.map (·.word) := by simp_all
    refine SOps.assign rfl ?_
    refine SOps.assign rfl ?_
    refine SOps.nil ?_
    refine SCode.seq ?_
    refine SCode.seqR ?_
    refine SOps.move rfl ?_
    refine SOps.lenM rfl sliceB_25_48_2 ?_
    refine SOps.move rfl ?_
    refine SOps.nil ?_
    refine SCode.block ?_
    refine SCode.loop1 (fun (i : Nat) => (⟨112, [(0, DBxs l), (1, DLns ln), (2, .v (.int .i64 w)), (7, .v (.int .i64 (((dvS ln i).1 : Nat) : Int))), (8, .v (.int .i64 (((dvS ln i).2 : Nat) : Int))), (21, DLns ln), (22, .v (.int .i64 (ln.length : Int))), (23, .v (.int .i64 (i : Int)))], []⟩ : St)) (fun (i : Nat) => i ≤ ln.length ∧ ∀ j, j < i → dline l ln w j = true) (fun (i : Nat) => ln.length - i) (0) (by exact ⟨Nat.zero_le _, fun j hj => absurd hj (Nat.not_lt_zero _)⟩) (St.Le.of ⟨(by first | rfl | (show some _ = some _; simp)), (by first | rfl | (show some _ = some _; simp)), (by first | rfl | (show some _ = some _; simp)), (by first | rfl | (show some _ = some _; simp)), (by first | rfl | (show some _ = some _; simp)), (by first | rfl | (show some _ = some _; simp)), (by first | rfl | (show some _ = some _; simp)), (by first | rfl | (show some _ = some _; simp)), trivial⟩ rfl (by first | rfl | (simp))) ?_
    rintro i ⟨hin, hg⟩
    refine SCode.seqR ?_
    refine SOps.bin rfl rfl rfl ?_
    refine SOps.nil ?_
    refine SCode.seq ?_
    refine SCode.cond rfl (fun hc2 => ?_) (fun hc2 => ?_)
    · try simp only [decide_eq_true_eq, decide_eq_false_iff_not, Bool.not_eq_true', Bool.not_eq_false', beq_iff_eq, bne_iff_ne, ne_eq, beq_eq_false_iff_ne, bne_eq_false_iff_eq, Int.not_lt, Int.not_le, Nat.not_lt, Nat.not_le, Int.ofNat_lt, Int.ofNat_le, Bool.not_eq_eq_eq_not, Bool.not_true, Bool.not_false] at hc2
      refine SCode.skip ?_
      show SCode _ _ _ _
      refine SCode.seq ?_
      refine SCode.block ?_
      refine SCode.seqR ?_
      have hil : i < ln.length := by omega
      have hki := hk _ (List.getElem_mem hil)
      have hli := lnAt_lt hil
      have hts := hki.size
      have hki1 := hki.1
      refine SOps.move rfl ?_
      refine SOps.indexM (i) rfl rfl sliceB_25_48_2 (by first | omega | (simp only [lenB] <;> omega)) (by first | omega | (simp only [lenB] <;> omega)) ?_
      refine SOps.loadPinA rfl aggB_48_2 (Nat.le_of_ble_eq_true rfl) ?_
      refine SOps.alloc (sz := 2) zeroIs_48 (fun b0 hb_0 => ?_)
      refine SOps.assign rfl ?_
      refine SOps.storeAM 0 rfl rfl aggB_48_2 rfl ?_
      refine SOps.freezeRef (t := 10) 0 0 rfl rfl rfl rfl rfl ?_
      refine SOps.nil ?_
      refine SCode.seqJ (fun (_ : PLift ((wlen (textL (ln[i])) : Int) ≤ w ∧ (ln[i]).words.length ≠ 0 ∧ ((ln[i]).hyph = true → i + 1 ≠ ln.length))) => (⟨112, [(0, DBxs l), (1, DLns ln), (2, .v (.int .i64 w)), (7, .v (.int .i64 (((dvS ln i).1 : Nat) : Int))), (8, .v (.int .i64 (((dvS ln i).2 : Nat) : Int))), (9, .v (.int .i64 (i : Int))), (10, .ipin (encLn (ln[i]))), (21, DLns ln), (22, .v (.int .i64 (ln.length : Int))), (23, .v (.int .i64 (i : Int)))], []⟩ : St)) ?_ ?_
      · refine SCode.seqR ?_
        refine SOps.loadPinA rfl aggB_48_2 (Nat.le_of_ble_eq_true rfl) ?_
        refine SOps.callP (sText _ hki.words.1 hki.words.2) rfl ?_
        rintro _ rfl
        refine SOps.callP (lRunes _) rfl ?_
        rintro _ rfl
        refine SOps.move rfl ?_
        refine SOps.bin rfl rfl rfl ?_
        refine SOps.move rfl ?_
        refine SOps.caseB 33 rfl (fun hb3 => ?_) (fun hb3 => ?_)
        · try simp only [decide_eq_true_eq, decide_eq_false_iff_not, Bool.not_eq_true', Bool.not_eq_false', beq_iff_eq, bne_iff_ne, ne_eq, beq_eq_false_iff_ne, bne_eq_false_iff_eq, Int.not_lt, Int.not_le, Nat.not_lt, Nat.not_le, Int.ofNat_lt, Int.ofNat_le, Bool.not_eq_eq_eq_not, Bool.not_true, Bool.not_false] at hb3
          refine SOps.skip rfl ?_
          refine SOps.skip rfl ?_
          refine SOps.skip rfl ?_
          refine SOps.skip rfl ?_
          refine SOps.pick rfl rfl ?_
          refine SOps.move rfl ?_
          refine SOps.skip rfl ?_
          refine SOps.skip rfl ?_
          refine SOps.skip rfl ?_
          refine SOps.skip rfl ?_
          refine SOps.skip rfl ?_
          refine SOps.skip rfl ?_
          refine SOps.skip rfl ?_
          refine SOps.skip rfl ?_
          refine SOps.skip rfl ?_
          refine SOps.pick rfl rfl ?_
          refine SOps.nil ?_
          refine SCode.cond rfl (fun _ => ?_) (fun h => by cases h)
          refine SCode.seqR ?_
          refine SOps.assign rfl ?_
          refine SOps.nil ?_
          refine SCode.ret ?_
          exact ⟨_, Res.one (.tmp rfl), congrArg (fun b => DV.v (.bool b)) (show _ = divB l ln w from Eq.symm (by refine divB_bad hil (Bool.eq_false_iff.2 (fun h => ?_)); have h9 := dline_iff.1 h; rw [hli] at h9; obtain ⟨q1, q2, q3, q4, q5⟩ := h9; first | omega | (exact q3 (by assumption) (by omega)))), rfl⟩
        · try simp only [decide_eq_true_eq, decide_eq_false_iff_not, Bool.not_eq_true', Bool.not_eq_false', beq_iff_eq, bne_iff_ne, ne_eq, beq_eq_false_iff_ne, bne_eq_false_iff_eq, Int.not_lt, Int.not_le, Nat.not_lt, Nat.not_le, Int.ofNat_lt, Int.ofNat_le, Bool.not_eq_eq_eq_not, Bool.not_true, Bool.not_false] at hb3
          refine SOps.fieldPin rfl fieldB_48_0_0 ?_
          refine SOps.loadPin rfl flatB_46 ?_
          refine SOps.lenM rfl sliceB_46_9_1 ?_
          refine SOps.bin rfl rfl rfl ?_
          refine SOps.pick rfl rfl ?_
          refine SOps.move rfl ?_
          refine SOps.caseB 39 rfl (fun hb4 => ?_) (fun hb4 => ?_)
          · try simp only [decide_eq_true_eq, decide_eq_false_iff_not, Bool.not_eq_true', Bool.not_eq_false', beq_iff_eq, bne_iff_ne, ne_eq, beq_eq_false_iff_ne, bne_eq_false_iff_eq, Int.not_lt, Int.not_le, Nat.not_lt, Nat.not_le, Int.ofNat_lt, Int.ofNat_le, Bool.not_eq_eq_eq_not, Bool.not_true, Bool.not_false] at hb4
            refine SOps.skip rfl ?_
            refine SOps.skip rfl ?_
            refine SOps.skip rfl ?_
            refine SOps.skip rfl ?_
            refine SOps.skip rfl ?_
            refine SOps.skip rfl ?_
            refine SOps.skip rfl ?_
            refine SOps.skip rfl ?_
            refine SOps.skip rfl ?_
            refine SOps.pick rfl rfl ?_
            refine SOps.nil ?_
            refine SCode.cond rfl (fun _ => ?_) (fun h => by cases h)
            refine SCode.seqR ?_
            refine SOps.assign rfl ?_
            refine SOps.nil ?_
            refine SCode.ret ?_
            exact ⟨_, Res.one (.tmp rfl), congrArg (fun b => DV.v (.bool b)) (show _ = divB l ln w from Eq.symm (by refine divB_bad hil (Bool.eq_false_iff.2 (fun h => ?_)); have h9 := dline_iff.1 h; rw [hli] at h9; obtain ⟨q1, q2, q3, q4, q5⟩ := h9; first | omega | (exact q3 (by assumption) (by omega)))), rfl⟩
          · try simp only [decide_eq_true_eq, decide_eq_false_iff_not, Bool.not_eq_true', Bool.not_eq_false', beq_iff_eq, bne_iff_ne, ne_eq, beq_eq_false_iff_ne, bne_eq_false_iff_eq, Int.not_lt, Int.not_le, Nat.not_lt, Nat.not_le, Int.ofNat_lt, Int.ofNat_le, Bool.not_eq_eq_eq_not, Bool.not_true, Bool.not_false] at hb4
            refine SOps.fieldPin rfl fieldB_48_1_1 ?_
            refine SOps.loadPin rfl flatB_4 ?_
            refine SOps.move rfl ?_
            refine SOps.caseB 42 rfl (fun hb5 => ?_) (fun hb5 => ?_)
            · try simp only [decide_eq_true_eq, decide_eq_false_iff_not, Bool.not_eq_true', Bool.not_eq_false', beq_iff_eq, bne_iff_ne, ne_eq, beq_eq_false_iff_ne, bne_eq_false_iff_eq, Int.not_lt, Int.not_le, Nat.not_lt, Nat.not_le, Int.ofNat_lt, Int.ofNat_le, Bool.not_eq_eq_eq_not, Bool.not_true, Bool.not_false] at hb5
              refine SOps.move rfl ?_
              refine SOps.move rfl ?_
              refine SOps.lenM rfl sliceB_25_48_2 ?_
              refine SOps.subI rfl rfl (by first | omega | (simp only [lenB] <;> omega)) (by first | omega | (simp only [lenB] <;> omega)) ?_
              refine SOps.bin rfl rfl rfl ?_
              refine SOps.pick rfl rfl ?_
              refine SOps.pick rfl rfl ?_
              refine SOps.nil ?_
              refine SCode.cond rfl (fun hc6 => ?_) (fun hc6 => ?_)
              · try simp only [decide_eq_true_eq, decide_eq_false_iff_not, Bool.not_eq_true', Bool.not_eq_false', beq_iff_eq, bne_iff_ne, ne_eq, beq_eq_false_iff_ne, bne_eq_false_iff_eq, Int.not_lt, Int.not_le, Nat.not_lt, Nat.not_le, Int.ofNat_lt, Int.ofNat_le, Bool.not_eq_eq_eq_not, Bool.not_true, Bool.not_false] at hc6
                refine SCode.seqR ?_
                refine SOps.assign rfl ?_
                refine SOps.nil ?_
                refine SCode.ret ?_
                exact ⟨_, Res.one (.tmp rfl), congrArg (fun b => DV.v (.bool b)) (show _ = divB l ln w from Eq.symm (by refine divB_bad hil (Bool.eq_false_iff.2 (fun h => ?_)); have h9 := dline_iff.1 h; rw [hli] at h9; obtain ⟨q1, q2, q3, q4, q5⟩ := h9; first | omega | (exact q3 (by assumption) (by omega)))), rfl⟩
              · try simp only [decide_eq_true_eq, decide_eq_false_iff_not, Bool.not_eq_true', Bool.not_eq_false', beq_iff_eq, bne_iff_ne, ne_eq, beq_eq_false_iff_ne, bne_eq_false_iff_eq, Int.not_lt, Int.not_le, Nat.not_lt, Nat.not_le, Int.ofNat_lt, Int.ofNat_le, Bool.not_eq_eq_eq_not, Bool.not_true, Bool.not_false] at hc6
                refine SCode.skip ?_
                exact ⟨⟨⟨by omega, by omega, fun h => by first | omega | simp_all⟩⟩, St.Le.of ⟨rfl, rfl, rfl, rfl, rfl, rfl, rfl, rfl, rfl, rfl, trivial⟩⟩
            · try simp only [decide_eq_true_eq, decide_eq_false_iff_not, Bool.not_eq_true', Bool.not_eq_false', beq_iff_eq, bne_iff_ne, ne_eq, beq_eq_false_iff_ne, bne_eq_false_iff_eq, Int.not_lt, Int.not_le, Nat.not_lt, Nat.not_le, Int.ofNat_lt, Int.ofNat_le, Bool.not_eq_eq_eq_not, Bool.not_true, Bool.not_false] at hb5
              refine SOps.skip rfl ?_
              refine SOps.skip rfl ?_
              refine SOps.skip rfl ?_
              refine SOps.skip rfl ?_
              refine SOps.skip rfl ?_
              refine SOps.pick rfl rfl ?_
              refine SOps.pick rfl rfl ?_
              refine SOps.nil ?_
              refine SCode.cond rfl (fun h => by cases h) (fun _ => ?_)
              refine SCode.skip ?_
              exact ⟨⟨⟨by omega, by omega, fun h => by first | omega | simp_all⟩⟩, St.Le.of ⟨rfl, rfl, rfl, rfl, rfl, rfl, rfl, rfl, rfl, rfl, trivial⟩⟩
      · intro ⟨hA1, hA2, hA3⟩
        refine SCode.seq ?_
        refine SCode.seqR ?_
        refine SOps.fieldPin rfl fieldB_48_0_0 ?_
        refine SOps.loadPin rfl flatB_46 ?_
        refine SOps.lenM rfl sliceB_46_9_1 ?_
        refine SOps.move rfl ?_
        refine SOps.nil ?_
        refine SCode.block ?_
        refine SCode.loop1 (fun (k : Nat) => (⟨112, [(0, DBxs l), (1, DLns ln), (2, .v (.int .i64 w)), (7, .v (.int .i64 (((dvK (newC ln i) (ln[i]).words (dvS ln i) k).1 : Nat) : Int))), (8, .v (.int .i64 (((dvK (newC ln i) (ln[i]).words (dvS ln i) k).2 : Nat) : Int))), (9, .v (.int .i64 (i : Int))), (10, .ipin (encLn (ln[i]))), (21, DLns ln), (22, .v (.int .i64 (ln.length : Int))), (23, .v (.int .i64 (i : Int))), (51, DStrs (ln[i]).words), (52, .v (.int .i64 ((ln[i]).words.length : Int))), (53, .v (.int .i64 (k : Int)))], []⟩ : St)) (fun (k : Nat) => k ≤ (ln[i]).words.length ∧ ∀ s ∈ (ln[i]).words.take k, okWd s = true) (fun (k : Nat) => (ln[i]).words.length - k) (0) (by exact ⟨Nat.zero_le _, by simp⟩) (St.Le.of ⟨(by first | rfl | (show some _ = some _; simp)), (by first | rfl | (show some _ = some _; simp)), (by first | rfl | (show some _ = some _; simp)), (by first | rfl | (show some _ = some _; simp)), (by first | rfl | (show some _ = some _; simp)), (by first | rfl | (show some _ = some _; simp)), (by first | rfl | (show some _ = some _; simp)), (by first | rfl | (show some _ = some _; simp)), (by first | rfl | (show some _ = some _; simp)), (by first | rfl | (show some _ = some _; simp)), (by first | rfl | (show some _ = some _; simp)), (by first | rfl | (show some _ = some _; simp)), (by first | rfl | (show some _ = some _; simp)), trivial⟩ rfl (by first | rfl | (simp))) ?_
        rintro k ⟨hkn, hq⟩
        refine SCode.seqR ?_
        refine SOps.bin rfl rfl rfl ?_
        refine SOps.nil ?_
        refine SCode.seq ?_
        refine SCode.cond rfl (fun hc7 => ?_) (fun hc7 => ?_)
        · try simp only [decide_eq_true_eq, decide_eq_false_iff_not, Bool.not_eq_true', Bool.not_eq_false', beq_iff_eq, bne_iff_ne, ne_eq, beq_eq_false_iff_ne, bne_eq_false_iff_eq, Int.not_lt, Int.not_le, Nat.not_lt, Nat.not_le, Int.ofNat_lt, Int.ofNat_le, Bool.not_eq_eq_eq_not, Bool.not_true, Bool.not_false] at hc7
          refine SCode.skip ?_
          show SCode _ _ _ _
          refine SCode.seq ?_
          refine SCode.block ?_
          refine SCode.seqR ?_
          refine SOps.move rfl ?_
          refine SOps.indexM (k) rfl rfl sliceB_46_9_1 (by first | omega | (simp only [lenB] <;> omega)) (by first | omega | (simp only [lenB] <;> omega)) ?_
          refine SOps.loadPin rfl flatB_9 ?_
          refine SOps.assign rfl ?_
          refine SOps.assign rfl ?_
          refine SOps.nil ?_
          refine SCode.seq ?_
          refine SCode.seqR ?_
          have hkw : k < (ln[i]).words.length := by omega
          have hwk := hki.2 _ (List.getElem_mem hkw)
          have hrk := runes_len ((ln[i]).words[k])
          refine SOps.move rfl ?_
          refine SOps.bin rfl rfl rfl ?_
          refine SOps.move rfl ?_
          refine SOps.caseB 60 rfl (fun hb8 => ?_) (fun hb8 => ?_)
          · try simp only [decide_eq_true_eq, decide_eq_false_iff_not, Bool.not_eq_true', Bool.not_eq_false', beq_iff_eq, bne_iff_ne, ne_eq, beq_eq_false_iff_ne, bne_eq_false_iff_eq, Int.not_lt, Int.not_le, Nat.not_lt, Nat.not_le, Int.ofNat_lt, Int.ofNat_le, Bool.not_eq_eq_eq_not, Bool.not_true, Bool.not_false] at hb8
            refine SOps.skip rfl ?_
            refine SOps.skip rfl ?_
            refine SOps.skip rfl ?_
            refine SOps.skip rfl ?_
            refine SOps.skip rfl ?_
            refine SOps.pick rfl rfl ?_
            refine SOps.nil ?_
            refine SCode.cond rfl (fun _ => ?_) (fun h => by cases h)
            refine SCode.seqR ?_
            refine SOps.assign rfl ?_
            refine SOps.nil ?_
            refine SCode.ret ?_
            exact ⟨_, Res.one (.tmp rfl), congrArg (fun b => DV.v (.bool b)) (show _ = divB l ln w from Eq.symm (by refine divB_bad hil (Bool.eq_false_iff.2 (fun h => ?_)); have h9 := dline_iff.1 h; rw [hli] at h9; obtain ⟨q1, q2, q3, q4, q5⟩ := h9; have q6 := q4 _ (List.getElem_mem hkw); unfold Prp at q6; simp_all)), rfl⟩
          · try simp only [decide_eq_true_eq, decide_eq_false_iff_not, Bool.not_eq_true', Bool.not_eq_false', beq_iff_eq, bne_iff_ne, ne_eq, beq_eq_false_iff_ne, bne_eq_false_iff_eq, Int.not_lt, Int.not_le, Nat.not_lt, Nat.not_le, Int.ofNat_lt, Int.ofNat_le, Bool.not_eq_eq_eq_not, Bool.not_true, Bool.not_false] at hb8
            refine SOps.move rfl ?_
            refine SOps.runesF rfl rfl strB_9 sliceB_70_21_1 intB_21_i32 ?_
            refine SOps.convRunesStr rfl sliceB_70_21_1 intB_21_i32 strB_9 (by simp [lenB] <;> (first | omega | (simp only [lenB] <;> omega))) ?_
            refine SOps.move rfl ?_
            refine SOps.bin rfl rfl rfl ?_
            refine SOps.pick rfl rfl ?_
            refine SOps.nil ?_
            refine SCode.cond rfl (fun hc9 => ?_) (fun hc9 => ?_)
            · try simp only [decide_eq_true_eq, decide_eq_false_iff_not, Bool.not_eq_true', Bool.not_eq_false', beq_iff_eq, bne_iff_ne, ne_eq, beq_eq_false_iff_ne, bne_eq_false_iff_eq, Int.not_lt, Int.not_le, Nat.not_lt, Nat.not_le, Int.ofNat_lt, Int.ofNat_le, Bool.not_eq_eq_eq_not, Bool.not_true, Bool.not_false] at hc9
              refine SCode.seqR ?_
              refine SOps.assign rfl ?_
              refine SOps.nil ?_
              refine SCode.ret ?_
              exact ⟨_, Res.one (.tmp rfl), congrArg (fun b => DV.v (.bool b)) (show _ = divB l ln w from Eq.symm (by refine divB_bad hil (Bool.eq_false_iff.2 (fun h => ?_)); have h9 := dline_iff.1 h; rw [hli] at h9; obtain ⟨q1, q2, q3, q4, q5⟩ := h9; have q6 := q4 _ (List.getElem_mem hkw); unfold Prp at q6; simp_all)), rfl⟩
            · try simp only [decide_eq_true_eq, decide_eq_false_iff_not, Bool.not_eq_true', Bool.not_eq_false', beq_iff_eq, bne_iff_ne, ne_eq, beq_eq_false_iff_ne, bne_eq_false_iff_eq, Int.not_lt, Int.not_le, Nat.not_lt, Nat.not_le, Int.ofNat_lt, Int.ofNat_le, Bool.not_eq_eq_eq_not, Bool.not_true, Bool.not_false] at hc9
              have hoq : okWd ((ln[i]).words[k]) = true := okWd_iff.2 ⟨by assumption, by assumption⟩
              have hdb := dvS_bound (M := 1000) (N := 1000000) rfl rfl hk i (by omega)
              have hkb := dvK_bound (c := newC ln i) (s := dvS ln i) hki.2 k
              have hdk : (dvK (newC ln i) (ln[i]).words (dvS ln i) (k + 1)) = if (decide (0 < k) || newC ln i) then ((dvK (newC ln i) (ln[i]).words (dvS ln i) k).1 + 1, wlen ((ln[i]).words[k])) else ((dvK (newC ln i) (ln[i]).words (dvS ln i) k).1, (dvK (newC ln i) (ln[i]).words (dvS ln i) k).2 + wlen ((ln[i]).words[k])) := by rw [dvK, getD_lt hkw]
              refine SCode.skip ?_
              show SCode _ _ _ _
              refine SCode.seqJ (fun (_ : Nat) => (⟨112, [(0, DBxs l), (1, DLns ln), (2, .v (.int .i64 w)), (7, .v (.int .i64 (((if (decide (0 < k) || newC ln i) then (dvK (newC ln i) (ln[i]).words (dvS ln i) k).1 + 1 else (dvK (newC ln i) (ln[i]).words (dvS ln i) k).1) : Nat) : Int))), (8, .v (.int .i64 (((if (decide (0 < k) || newC ln i) then 0 else (dvK (newC ln i) (ln[i]).words (dvS ln i) k).2) : Nat) : Int))), (9, .v (.int .i64 (i : Int))), (10, .ipin (encLn (ln[i]))), (12, .v (.string (ln[i]).words[k])), (21, DLns ln), (22, .v (.int .i64 (ln.length : Int))), (23, .v (.int .i64 (i : Int))), (51, DStrs (ln[i]).words), (52, .v (.int .i64 ((ln[i]).words.length : Int))), (53, .v (.int .i64 (k : Int)))], []⟩ : St)) ?_ ?_
              · refine SCode.seqR ?_
                refine SOps.move rfl ?_
                refine SOps.bin rfl rfl rfl ?_
                refine SOps.move rfl ?_
                refine SOps.caseB 69 rfl (fun hb10 => ?_) (fun hb10 => ?_)
                · try simp only [decide_eq_true_eq, decide_eq_false_iff_not, Bool.not_eq_true', Bool.not_eq_false', beq_iff_eq, bne_iff_ne, ne_eq, beq_eq_false_iff_ne, bne_eq_false_iff_eq, Int.not_lt, Int.not_le, Nat.not_lt, Nat.not_le, Int.ofNat_lt, Int.ofNat_le, Bool.not_eq_eq_eq_not, Bool.not_true, Bool.not_false] at hb10
                  have hcc : (decide (0 < k) || newC ln i) = true := by rw [decide_eq_true (by omega)]; rfl
                  refine SOps.skip rfl ?_
                  refine SOps.skip rfl ?_
                  refine SOps.skip rfl ?_
                  refine SOps.skip rfl ?_
                  refine SOps.skip rfl ?_
                  refine SOps.skip rfl ?_
                  refine SOps.skip rfl ?_
                  refine SOps.skip rfl ?_
                  refine SOps.skip rfl ?_
                  refine SOps.skip rfl ?_
                  refine SOps.skip rfl ?_
                  refine SOps.pick rfl rfl ?_
                  refine SOps.nil ?_
                  refine SCode.cond rfl (fun _ => ?_) (fun h => by cases h)
                  refine SCode.region ?_
                  refine SOps.move rfl ?_
                  refine SOps.addI rfl rfl (by first | omega | (simp only [lenB] <;> omega)) (by first | omega | (simp only [lenB] <;> omega)) ?_
                  refine SOps.assign rfl ?_
                  refine SOps.assign rfl ?_
                  refine SOps.nil ?_
                  first
                    | exact ⟨0, St.Le.of ⟨rfl, rfl, rfl, congrArg (fun z : Nat => some (DV.v (.int .i64 (z : Int)))) (if_pos hcc).symm, congrArg (fun z : Nat => some (DV.v (.int .i64 (z : Int)))) (if_pos hcc).symm, rfl, rfl, rfl, rfl, rfl, rfl, rfl, rfl, rfl, trivial⟩⟩
                    | exact ⟨0, St.Le.of ⟨rfl, rfl, rfl, congrArg (fun z : Nat => some (DV.v (.int .i64 (z : Int)))) (if_neg hcc).symm, congrArg (fun z : Nat => some (DV.v (.int .i64 (z : Int)))) (if_neg hcc).symm, rfl, rfl, rfl, rfl, rfl, rfl, rfl, rfl, rfl, trivial⟩⟩
                · try simp only [decide_eq_true_eq, decide_eq_false_iff_not, Bool.not_eq_true', Bool.not_eq_false', beq_iff_eq, bne_iff_ne, ne_eq, beq_eq_false_iff_ne, bne_eq_false_iff_eq, Int.not_lt, Int.not_le, Nat.not_lt, Nat.not_le, Int.ofNat_lt, Int.ofNat_le, Bool.not_eq_eq_eq_not, Bool.not_true, Bool.not_false] at hb10
                  refine SOps.move rfl ?_
                  refine SOps.bin rfl rfl rfl ?_
                  refine SOps.move rfl ?_
                  refine SOps.caseB 72 rfl (fun hb11 => ?_) (fun hb11 => ?_)
                  · try simp only [decide_eq_true_eq, decide_eq_false_iff_not, Bool.not_eq_true', Bool.not_eq_false', beq_iff_eq, bne_iff_ne, ne_eq, beq_eq_false_iff_ne, bne_eq_false_iff_eq, Int.not_lt, Int.not_le, Nat.not_lt, Nat.not_le, Int.ofNat_lt, Int.ofNat_le, Bool.not_eq_eq_eq_not, Bool.not_true, Bool.not_false] at hb11
                    refine SOps.move rfl ?_
                    refine SOps.move rfl ?_
                    refine SOps.subI rfl rfl (by first | omega | (simp only [lenB] <;> omega)) (by first | omega | (simp only [lenB] <;> omega)) ?_
                    refine SOps.indexM ((i - 1)) rfl rfl sliceB_25_48_2 (by first | omega | (simp only [lenB] <;> omega)) (by first | omega | (simp only [lenB] <;> omega)) ?_
                    refine SOps.fieldPin rfl fieldB_48_1_1 ?_
                    refine SOps.loadPin rfl flatB_4 ?_
                    refine SOps.un rfl rfl ?_
                    refine SOps.pick rfl rfl ?_
                    refine SOps.pick rfl rfl ?_
                    refine SOps.nil ?_
                    refine SCode.cond rfl (fun hc12 => ?_) (fun hc12 => ?_)
                    · try simp only [decide_eq_true_eq, decide_eq_false_iff_not, Bool.not_eq_true', Bool.not_eq_false', beq_iff_eq, bne_iff_ne, ne_eq, beq_eq_false_iff_ne, bne_eq_false_iff_eq, Int.not_lt, Int.not_le, Nat.not_lt, Nat.not_le, Int.ofNat_lt, Int.ofNat_le, Bool.not_eq_eq_eq_not, Bool.not_true, Bool.not_false] at hc12
                      have hcc : (decide (0 < k) || newC ln i) = true := by unfold newC; rw [decide_eq_false (by omega), decide_eq_true (by omega), lnAt_lt (show i - 1 < ln.length by omega)]; simp_all
                      refine SCode.region ?_
                      refine SOps.move rfl ?_
                      refine SOps.addI rfl rfl (by first | omega | (simp only [lenB] <;> omega)) (by first | omega | (simp only [lenB] <;> omega)) ?_
                      refine SOps.assign rfl ?_
                      refine SOps.assign rfl ?_
                      refine SOps.nil ?_
                      first
                        | exact ⟨0, St.Le.of ⟨rfl, rfl, rfl, congrArg (fun z : Nat => some (DV.v (.int .i64 (z : Int)))) (if_pos hcc).symm, congrArg (fun z : Nat => some (DV.v (.int .i64 (z : Int)))) (if_pos hcc).symm, rfl, rfl, rfl, rfl, rfl, rfl, rfl, rfl, rfl, trivial⟩⟩
                        | exact ⟨0, St.Le.of ⟨rfl, rfl, rfl, congrArg (fun z : Nat => some (DV.v (.int .i64 (z : Int)))) (if_neg hcc).symm, congrArg (fun z : Nat => some (DV.v (.int .i64 (z : Int)))) (if_neg hcc).symm, rfl, rfl, rfl, rfl, rfl, rfl, rfl, rfl, rfl, trivial⟩⟩
                    · try simp only [decide_eq_true_eq, decide_eq_false_iff_not, Bool.not_eq_true', Bool.not_eq_false', beq_iff_eq, bne_iff_ne, ne_eq, beq_eq_false_iff_ne, bne_eq_false_iff_eq, Int.not_lt, Int.not_le, Nat.not_lt, Nat.not_le, Int.ofNat_lt, Int.ofNat_le, Bool.not_eq_eq_eq_not, Bool.not_true, Bool.not_false] at hc12
                      have hcc : ¬ (decide (0 < k) || newC ln i) = true := by unfold newC; rw [decide_eq_false (by omega), decide_eq_true (by omega), lnAt_lt (show i - 1 < ln.length by omega)]; simp_all
                      refine SCode.skip ?_
                      first
                        | exact ⟨0, St.Le.of ⟨rfl, rfl, rfl, congrArg (fun z : Nat => some (DV.v (.int .i64 (z : Int)))) (if_pos hcc).symm, congrArg (fun z : Nat => some (DV.v (.int .i64 (z : Int)))) (if_pos hcc).symm, rfl, rfl, rfl, rfl, rfl, rfl, rfl, rfl, rfl, trivial⟩⟩
                        | exact ⟨0, St.Le.of ⟨rfl, rfl, rfl, congrArg (fun z : Nat => some (DV.v (.int .i64 (z : Int)))) (if_neg hcc).symm, congrArg (fun z : Nat => some (DV.v (.int .i64 (z : Int)))) (if_neg hcc).symm, rfl, rfl, rfl, rfl, rfl, rfl, rfl, rfl, rfl, trivial⟩⟩
                  · try simp only [decide_eq_true_eq, decide_eq_false_iff_not, Bool.not_eq_true', Bool.not_eq_false', beq_iff_eq, bne_iff_ne, ne_eq, beq_eq_false_iff_ne, bne_eq_false_iff_eq, Int.not_lt, Int.not_le, Nat.not_lt, Nat.not_le, Int.ofNat_lt, Int.ofNat_le, Bool.not_eq_eq_eq_not, Bool.not_true, Bool.not_false] at hb11
                    have hcc : ¬ (decide (0 < k) || newC ln i) = true := by unfold newC; rw [decide_eq_false (by omega), decide_eq_false (by omega)]; simp
                    refine SOps.skip rfl ?_
                    refine SOps.skip rfl ?_
                    refine SOps.skip rfl ?_
                    refine SOps.skip rfl ?_
                    refine SOps.skip rfl ?_
                    refine SOps.skip rfl ?_
                    refine SOps.skip rfl ?_
                    refine SOps.pick rfl rfl ?_
                    refine SOps.pick rfl rfl ?_
                    refine SOps.nil ?_
                    refine SCode.cond rfl (fun h => by cases h) (fun _ => ?_)
                    refine SCode.skip ?_
                    first
                      | exact ⟨0, St.Le.of ⟨rfl, rfl, rfl, congrArg (fun z : Nat => some (DV.v (.int .i64 (z : Int)))) (if_pos hcc).symm, congrArg (fun z : Nat => some (DV.v (.int .i64 (z : Int)))) (if_pos hcc).symm, rfl, rfl, rfl, rfl, rfl, rfl, rfl, rfl, rfl, trivial⟩⟩
                      | exact ⟨0, St.Le.of ⟨rfl, rfl, rfl, congrArg (fun z : Nat => some (DV.v (.int .i64 (z : Int)))) (if_neg hcc).symm, congrArg (fun z : Nat => some (DV.v (.int .i64 (z : Int)))) (if_neg hcc).symm, rfl, rfl, rfl, rfl, rfl, rfl, rfl, rfl, rfl, trivial⟩⟩
              · intro _
                refine SCode.region ?_
                have hwl : wlen ((ln[i]).words[k]) ≤ 1000 := by unfold wlen; omega
                have he2 : (if (decide (0 < k) || newC ln i) then 0 else (dvK (newC ln i) (ln[i]).words (dvS ln i) k).2) ≤ (dvK (newC ln i) (ln[i]).words (dvS ln i) k).2 := by split; exact Nat.zero_le _; exact Nat.le_refl _
                refine SOps.move rfl ?_
                refine SOps.move rfl ?_
                refine SOps.callP (lRunes _) rfl ?_
                rintro _ rfl
                refine SOps.addI rfl rfl (by first | omega | (simp only [lenB] <;> omega)) (by first | omega | (simp only [lenB] <;> omega)) ?_
                refine SOps.assign rfl ?_
                refine SOps.nil ?_
                show SCode _ _ _ _
                refine SCode.region ?_
                refine SOps.addI rfl rfl (by first | omega | (simp only [lenB] <;> omega)) (by first | omega | (simp only [lenB] <;> omega)) ?_
                refine SOps.move rfl ?_
                refine SOps.nil ?_
                exact ⟨k + 1, ⟨by omega, take_more hq hkw hoq⟩, by omega, St.Le.of ⟨rfl, rfl, rfl, (by show some _ = some _; rw [hdk]; split <;> rfl), (by show some _ = some _; rw [hdk]; split <;> simp), rfl, rfl, rfl, rfl, rfl, rfl, rfl, rfl, trivial⟩⟩
        · try simp only [decide_eq_true_eq, decide_eq_false_iff_not, Bool.not_eq_true', Bool.not_eq_false', beq_iff_eq, bne_iff_ne, ne_eq, beq_eq_false_iff_ne, bne_eq_false_iff_eq, Int.not_lt, Int.not_le, Nat.not_lt, Nat.not_le, Int.ofNat_lt, Int.ofNat_le, Bool.not_eq_eq_eq_not, Bool.not_true, Bool.not_false] at hc7
          refine SCode.exit ?_
          show SCode _ _ _ _
          refine SCode.seq ?_
          refine SCode.seqR ?_
          have hkl : k = (ln[i]).words.length := by omega
          have hDe : dvS ln (i + 1) = (dvK (newC ln i) (ln[i]).words (dvS ln i) k) := by rw [dvS, hli, hkl]
          have hall : ∀ s ∈ (ln[i]).words, s ≠ ⟨#[]⟩ ∧ Prp s := fun s hs => okWd_iff.1 (all_of (by omega) hq s hs)
          refine SOps.fieldPin rfl fieldB_48_1_1 ?_
          refine SOps.loadPin rfl flatB_4 ?_
          refine SOps.un rfl rfl ?_
          refine SOps.nil ?_
          refine SCode.cond rfl (fun hc13 => ?_) (fun hc13 => ?_)
          · try simp only [decide_eq_true_eq, decide_eq_false_iff_not, Bool.not_eq_true', Bool.not_eq_false', beq_iff_eq, bne_iff_ne, ne_eq, beq_eq_false_iff_ne, bne_eq_false_iff_eq, Int.not_lt, Int.not_le, Nat.not_lt, Nat.not_le, Int.ofNat_lt, Int.ofNat_le, Bool.not_eq_eq_eq_not, Bool.not_true, Bool.not_false] at hc13
            have hdl : dline l ln w i = true := dline_iff.2 (by rw [hli]; exact ⟨hA1, hA2, hA3, hall, fun h => by simp_all⟩)
            refine SCode.exit ?_
            show SCode _ _ _ _
            refine SCode.region ?_
            refine SOps.addI rfl rfl (by first | omega | (simp only [lenB] <;> omega)) (by first | omega | (simp only [lenB] <;> omega)) ?_
            refine SOps.move rfl ?_
            refine SOps.nil ?_
            rw [← hDe]
            exact ⟨i + 1, ⟨by omega, lt_step hg hdl⟩, by omega, St.Le.of ⟨rfl, rfl, rfl, rfl, rfl, rfl, rfl, rfl, trivial⟩⟩
          · try simp only [decide_eq_true_eq, decide_eq_false_iff_not, Bool.not_eq_true', Bool.not_eq_false', beq_iff_eq, bne_iff_ne, ne_eq, beq_eq_false_iff_ne, bne_eq_false_iff_eq, Int.not_lt, Int.not_le, Nat.not_lt, Nat.not_le, Int.ofNat_lt, Int.ofNat_le, Bool.not_eq_eq_eq_not, Bool.not_true, Bool.not_false] at hc13
            refine SCode.skip ?_
            show SCode _ _ _ _
            refine SCode.seqR ?_
            refine SOps.assign rfl ?_
            refine SOps.nil ?_
            refine SCode.seq ?_
            refine SCode.seqR ?_
            have hdi : (dvS ln (i + 1)).1 < l.length := dv_in hjn hil (lt_step (fun j h => by have h9 := dline_iff.1 (hg j h); exact ⟨h9.2.1, fun x hx => (h9.2.2.2.1 x hx).2⟩) (by rw [hli]; exact ⟨hA2, fun x hx => (hall x hx).2⟩))
            have hpa : ptsAt l (dvS ln (i + 1)).1 = (l[(dvS ln (i + 1)).1]).pts := by unfold ptsAt; rw [getD_lt hdi]
            rw [← hDe]
            refine SOps.move rfl ?_
            refine SOps.move rfl ?_
            refine SOps.indexM ((dvS ln (i + 1)).1) rfl rfl sliceB_22_43_2 (by first | omega | (simp only [lenB] <;> omega)) (by first | omega | (simp only [lenB] <;> omega)) ?_
            refine SOps.fieldPin rfl fieldB_43_1_1 ?_
            refine SOps.loadPin rfl flatB_41 ?_
            refine SOps.lenM rfl sliceB_41_3_1 ?_
            refine SOps.move rfl ?_
            refine SOps.nil ?_
            refine SCode.block ?_
            refine SCode.loop1 (fun (q : Nat) => (⟨112, [(0, DBxs l), (1, DLns ln), (2, .v (.int .i64 w)), (7, .v (.int .i64 (((dvS ln (i + 1)).1 : Nat) : Int))), (8, .v (.int .i64 (((dvS ln (i + 1)).2 : Nat) : Int))), (9, .v (.int .i64 (i : Int))), (10, .ipin (encLn (ln[i]))), (13, .v (.bool (((l[(dvS ln (i + 1)).1]).pts.take q).any (fun h => decide (h = (((dvS ln (i + 1)).2 : Nat) : Int)))))), (21, DLns ln), (22, .v (.int .i64 (ln.length : Int))), (23, .v (.int .i64 (i : Int))), (96, DInts (l[(dvS ln (i + 1)).1]).pts), (97, .v (.int .i64 ((l[(dvS ln (i + 1)).1]).pts.length : Int))), (98, .v (.int .i64 (q : Int)))], []⟩ : St)) (fun (q : Nat) => q ≤ (l[(dvS ln (i + 1)).1]).pts.length) (fun (q : Nat) => (l[(dvS ln (i + 1)).1]).pts.length - q) (0) (by exact Nat.zero_le _) (St.Le.of ⟨(by first | rfl | (show some _ = some _; simp)), (by first | rfl | (show some _ = some _; simp)), (by first | rfl | (show some _ = some _; simp)), (by first | rfl | (show some _ = some _; simp)), (by first | rfl | (show some _ = some _; simp)), (by first | rfl | (show some _ = some _; simp)), (by first | rfl | (show some _ = some _; simp)), (by first | rfl | (show some _ = some _; simp)), (by first | rfl | (show some _ = some _; simp)), (by first | rfl | (show some _ = some _; simp)), (by first | rfl | (show some _ = some _; simp)), (by first | rfl | (show some _ = some _; simp)), (by first | rfl | (show some _ = some _; simp)), (by first | rfl | (show some _ = some _; simp)), trivial⟩ rfl (by first | rfl | (simp))) ?_
            rintro q hqn
            refine SCode.fact (isl_len (t := 96) rfl) (fun hB => ?_)
            simp only [List.length_map, lenB] at hB
            refine SCode.seqR ?_
            refine SOps.bin rfl rfl rfl ?_
            refine SOps.nil ?_
            refine SCode.seq ?_
            refine SCode.cond rfl (fun hc14 => ?_) (fun hc14 => ?_)
            · try simp only [decide_eq_true_eq, decide_eq_false_iff_not, Bool.not_eq_true', Bool.not_eq_false', beq_iff_eq, bne_iff_ne, ne_eq, beq_eq_false_iff_ne, bne_eq_false_iff_eq, Int.not_lt, Int.not_le, Nat.not_lt, Nat.not_le, Int.ofNat_lt, Int.ofNat_le, Bool.not_eq_eq_eq_not, Bool.not_true, Bool.not_false] at hc14
              refine SCode.skip ?_
              show SCode _ _ _ _
              refine SCode.seq ?_
              refine SCode.block ?_
              refine SCode.seqR ?_
              refine SOps.indexM (q) rfl rfl sliceB_41_3_1 (by first | omega | (simp only [lenB] <;> omega)) (by first | omega | (simp only [lenB] <;> omega)) ?_
              refine SOps.loadPin rfl flatB_3 ?_
              refine SOps.assign rfl ?_
              refine SOps.nil ?_
              refine SCode.region ?_
              have hqk : q < (l[(dvS ln (i + 1)).1]).pts.length := by omega
              refine SOps.move rfl ?_
              refine SOps.move rfl ?_
              refine SOps.caseB 103 rfl (fun hb15 => ?_) (fun hb15 => ?_)
              · try simp only [decide_eq_true_eq, decide_eq_false_iff_not, Bool.not_eq_true', Bool.not_eq_false', beq_iff_eq, bne_iff_ne, ne_eq, beq_eq_false_iff_ne, bne_eq_false_iff_eq, Int.not_lt, Int.not_le, Nat.not_lt, Nat.not_le, Int.ofNat_lt, Int.ofNat_le, Bool.not_eq_eq_eq_not, Bool.not_true, Bool.not_false] at hb15
                refine SOps.skip rfl ?_
                refine SOps.skip rfl ?_
                refine SOps.skip rfl ?_
                refine SOps.pick rfl rfl ?_
                refine SOps.assign rfl ?_
                refine SOps.nil ?_
                show SCode _ _ _ _
                refine SCode.region ?_
                refine SOps.addI rfl rfl (by first | omega | (simp only [lenB] <;> omega)) (by first | omega | (simp only [lenB] <;> omega)) ?_
                refine SOps.move rfl ?_
                refine SOps.nil ?_
                have hat := any_take_step (f := fun h => decide (h = (((dvS ln (i + 1)).2 : Nat) : Int))) hqk
                exact ⟨q + 1, by omega, by omega, St.Le.of ⟨rfl, rfl, rfl, rfl, rfl, rfl, rfl, (by show some _ = some _; rw [hat, (by assumption : (((l[(dvS ln (i + 1)).1]).pts.take q).any (fun h => decide (h = (((dvS ln (i + 1)).2 : Nat) : Int)))) = true), Bool.true_or] <;> rfl), rfl, rfl, rfl, rfl, rfl, rfl, trivial⟩⟩
              · try simp only [decide_eq_true_eq, decide_eq_false_iff_not, Bool.not_eq_true', Bool.not_eq_false', beq_iff_eq, bne_iff_ne, ne_eq, beq_eq_false_iff_ne, bne_eq_false_iff_eq, Int.not_lt, Int.not_le, Nat.not_lt, Nat.not_le, Int.ofNat_lt, Int.ofNat_le, Bool.not_eq_eq_eq_not, Bool.not_true, Bool.not_false] at hb15
                refine SOps.move rfl ?_
                refine SOps.move rfl ?_
                refine SOps.bin rfl rfl rfl ?_
                refine SOps.pick rfl rfl ?_
                refine SOps.assign rfl ?_
                refine SOps.nil ?_
                show SCode _ _ _ _
                refine SCode.region ?_
                refine SOps.addI rfl rfl (by first | omega | (simp only [lenB] <;> omega)) (by first | omega | (simp only [lenB] <;> omega)) ?_
                refine SOps.move rfl ?_
                refine SOps.nil ?_
                have hat := any_take_step (f := fun h => decide (h = (((dvS ln (i + 1)).2 : Nat) : Int))) hqk
                exact ⟨q + 1, by omega, by omega, St.Le.of ⟨rfl, rfl, rfl, rfl, rfl, rfl, rfl, (by show some _ = some _; rw [hat, (by assumption : (((l[(dvS ln (i + 1)).1]).pts.take q).any (fun h => decide (h = (((dvS ln (i + 1)).2 : Nat) : Int)))) = false), Bool.false_or] <;> rfl), rfl, rfl, rfl, rfl, rfl, rfl, trivial⟩⟩
            · try simp only [decide_eq_true_eq, decide_eq_false_iff_not, Bool.not_eq_true', Bool.not_eq_false', beq_iff_eq, bne_iff_ne, ne_eq, beq_eq_false_iff_ne, bne_eq_false_iff_eq, Int.not_lt, Int.not_le, Nat.not_lt, Nat.not_le, Int.ofNat_lt, Int.ofNat_le, Bool.not_eq_eq_eq_not, Bool.not_true, Bool.not_false] at hc14
              refine SCode.exit ?_
              show SCode _ _ _ _
              refine SCode.seqR ?_
              refine SOps.move rfl ?_
              refine SOps.un rfl rfl ?_
              refine SOps.nil ?_
              refine SCode.cond rfl (fun hc16 => ?_) (fun hc16 => ?_)
              · try simp only [decide_eq_true_eq, decide_eq_false_iff_not, Bool.not_eq_true', Bool.not_eq_false', beq_iff_eq, bne_iff_ne, ne_eq, beq_eq_false_iff_ne, bne_eq_false_iff_eq, Int.not_lt, Int.not_le, Nat.not_lt, Nat.not_le, Int.ofNat_lt, Int.ofNat_le, Bool.not_eq_eq_eq_not, Bool.not_true, Bool.not_false] at hc16
                refine SCode.seqR ?_
                refine SOps.assign rfl ?_
                refine SOps.nil ?_
                refine SCode.ret ?_
                exact ⟨_, Res.one (.tmp rfl), congrArg (fun b => DV.v (.bool b)) (show _ = divB l ln w from Eq.symm (by refine divB_bad hil (Bool.eq_false_iff.2 (fun h => ?_)); have h9 := dline_iff.1 h; rw [hli] at h9; obtain ⟨q1, q2, q3, q4, q5⟩ := h9; have q6 := q5 (by assumption); rw [hpa] at q6; have h8 := (by assumption : (((l[(dvS ln (i + 1)).1]).pts.take q).any (fun h => decide (h = (((dvS ln (i + 1)).2 : Nat) : Int)))) = false); rw [List.take_of_length_le (by omega), List.any_eq_false] at h8; exact h8 _ q6 (decide_eq_true rfl))), rfl⟩
              · try simp only [decide_eq_true_eq, decide_eq_false_iff_not, Bool.not_eq_true', Bool.not_eq_false', beq_iff_eq, bne_iff_ne, ne_eq, beq_eq_false_iff_ne, bne_eq_false_iff_eq, Int.not_lt, Int.not_le, Nat.not_lt, Nat.not_le, Int.ofNat_lt, Int.ofNat_le, Bool.not_eq_eq_eq_not, Bool.not_true, Bool.not_false] at hc16
                have hdl : dline l ln w i = true := dline_iff.2 (by rw [hli]; exact ⟨hA1, hA2, hA3, hall, fun _ => by rw [hpa]; have h8 := (by assumption : (((l[(dvS ln (i + 1)).1]).pts.take q).any (fun h => decide (h = (((dvS ln (i + 1)).2 : Nat) : Int)))) = true); rw [List.take_of_length_le (by omega), List.any_eq_true] at h8; obtain ⟨x, hx, hx2⟩ := h8; rw [← of_decide_eq_true hx2]; exact hx⟩)
                refine SCode.skip ?_
                show SCode _ _ _ _
                refine SCode.region ?_
                refine SOps.addI rfl rfl (by first | omega | (simp only [lenB] <;> omega)) (by first | omega | (simp only [lenB] <;> omega)) ?_
                refine SOps.move rfl ?_
                refine SOps.nil ?_
                exact ⟨i + 1, ⟨by omega, lt_step hg hdl⟩, by omega, St.Le.of ⟨rfl, rfl, rfl, rfl, rfl, rfl, rfl, rfl, trivial⟩⟩
    · try simp only [decide_eq_true_eq, decide_eq_false_iff_not, Bool.not_eq_true', Bool.not_eq_false', beq_iff_eq, bne_iff_ne, ne_eq, beq_eq_false_iff_ne, bne_eq_false_iff_eq, Int.not_lt, Int.not_le, Nat.not_lt, Nat.not_le, Int.ofNat_lt, Int.ofNat_le, Bool.not_eq_eq_eq_not, Bool.not_true, Bool.not_false] at hc2
      refine SCode.exit ?_
      show SCode _ _ _ _
      refine SCode.seqR ?_
      refine SOps.assign rfl ?_
      refine SOps.nil ?_
      refine SCode.ret ?_
      exact ⟨_, Res.one (.tmp rfl), congrArg (fun b => DV.v (.bool b)) (show _ = divB l ln w from Eq.symm (by exact divB_iff.2 ⟨hjn, fun j hj => hg j (by omega)⟩)), rfl⟩
end Go.GH
