/-
  Part 5 of the texts behind the walks of this claim: an own layer over the kit's wp, plain laws, and walks. No conditions.
-/
import Derived.Test.YtkhohgmmgipfbaaDoorMb4
set_option linter.unusedVariables false
set_option linter.unusedSimpArgs false
set_option linter.deprecated false
namespace Go.GH
open Go Go.Proofs
variable {E : Env}
theorem sJoin (l : List Ln) (hk : ∀ x ∈ l, LnOK x) (hl : l.length ≤ 1000) : GCall Tryd.prog E 32 [DLns l] [] (fun d H => d = DStrs (joinL l) ∧ H = []) := by
  refine GCall.body (C := ⟨Tryd.prog, E, true⟩) Tryd.func32 rfl (fun _ => rfl) (by kernel_rfl) rfl ?_
  refine SCode.seqR ?_
  refine SOps.assign rfl ?_
  refine SOps.nil ?_
  refine SCode.seqR ?_
  refine SOps.assign rfl ?_
  refine SOps.nil ?_
  refine SCode.seq ?_
  refine SCode.seqR ?_
  refine SOps.move rfl ?_
  refine SOps.lenM rfl sliceB_25_48_2 ?_
  refine SOps.move rfl ?_
  refine SOps.nil ?_
  refine SCode.block ?_
  refine SCode.loop2 (fun (i : Nat) (b : Nat) => (⟨58, [(0, DLns l), (3, accD 1 b ((joinI l i).map encS)), (8, DLns l), (9, .v (.int .i64 (l.length : Int))), (10, .v (.int .i64 (i : Int)))], accH 9 1 b ((joinI l i).map encS) ++ []⟩ : St)) (fun (i : Nat) (b : Nat) => i ≤ l.length) (fun (i : Nat) (b : Nat) => l.length - i) (0) (0) (by exact Nat.zero_le _) (St.Le.of ⟨(by first | rfl | (show some _ = some _; simp)), (by first | rfl | (show some _ = some _; simp)), (by first | rfl | (show some _ = some _; simp)), (by first | rfl | (show some _ = some _; simp)), (by first | rfl | (show some _ = some _; simp)), trivial⟩ rfl (by first | rfl | (simp))) ?_
  rintro i b hin
  refine SCode.seqR ?_
  refine SOps.bin rfl rfl rfl ?_
  refine SOps.nil ?_
  refine SCode.seq ?_
  refine SCode.cond rfl (fun hc1 => ?_) (fun hc1 => ?_)
  · try simp only [decide_eq_true_eq, decide_eq_false_iff_not, Bool.not_eq_true', Bool.not_eq_false', beq_iff_eq, bne_iff_ne, ne_eq, beq_eq_false_iff_ne, bne_eq_false_iff_eq, Int.not_lt, Int.not_le, Nat.not_lt, Nat.not_le, Int.ofNat_lt, Int.ofNat_le, Bool.not_eq_eq_eq_not, Bool.not_true, Bool.not_false] at hc1
    refine SCode.skip ?_
    show SCode _ _ _ _
    refine SCode.seq ?_
    refine SCode.block ?_
    refine SCode.seqR ?_
    refine SOps.move rfl ?_
    refine SOps.indexM (i) rfl rfl sliceB_25_48_2 (by first | omega | (simp only [lenB] <;> omega)) (by first | omega | (simp only [lenB] <;> omega)) ?_
    refine SOps.loadPinA rfl aggB_48_2 (Nat.le_of_ble_eq_true rfl) ?_
    refine SOps.alloc (sz := 2) zeroIs_48 (fun b0 hb_0 => ?_)
    refine SOps.assign rfl ?_
    refine SOps.storeAM 0 rfl rfl aggB_48_2 rfl ?_
    refine SOps.freezeRef (t := 5) 0 0 rfl rfl rfl rfl rfl ?_
    refine SOps.nil ?_
    refine SCode.seqR ?_
    have hil : i < l.length := by omega
    have hki := hk _ (List.getElem_mem hil)
    have hjb := joinI_bound hk i (by omega)
    have hli := lnAt_lt hil
    refine SOps.fieldPin rfl fieldB_48_0_0 ?_
    refine SOps.loadPin rfl flatB_46 ?_
    refine SOps.lenM rfl sliceB_46_9_1 ?_
    refine SOps.move rfl ?_
    refine SOps.nil ?_
    refine SCode.block ?_
    refine SCode.loop2 (fun (k : Nat) (c : Nat) => (⟨58, [(0, DLns l), (3, accD 1 c ((joinK (joinI l i) (prevH l i) (l[i]).words k).map encS)), (4, .v (.int .i64 (i : Int))), (5, .ipin (encLn (l[i]))), (8, DLns l), (9, .v (.int .i64 (l.length : Int))), (10, .v (.int .i64 (i : Int))), (16, DStrs (l[i]).words), (17, .v (.int .i64 ((l[i]).words.length : Int))), (18, .v (.int .i64 (k : Int)))], accH 9 1 c ((joinK (joinI l i) (prevH l i) (l[i]).words k).map encS) ++ []⟩ : St)) (fun (k : Nat) (c : Nat) => k ≤ (l[i]).words.length) (fun (k : Nat) (c : Nat) => (l[i]).words.length - k) (0) (b) (by exact Nat.zero_le _) (St.Le.of ⟨(by first | rfl | (show some _ = some _; simp)), (by first | rfl | (show some _ = some _; simp)), (by first | rfl | (show some _ = some _; simp)), (by first | rfl | (show some _ = some _; simp)), (by first | rfl | (show some _ = some _; simp)), (by first | rfl | (show some _ = some _; simp)), (by first | rfl | (show some _ = some _; simp)), (by first | rfl | (show some _ = some _; simp)), (by first | rfl | (show some _ = some _; simp)), (by first | rfl | (show some _ = some _; simp)), trivial⟩ rfl (by first | rfl | (simp))) ?_
    rintro k c hkn
    refine SCode.seqR ?_
    refine SOps.bin rfl rfl rfl ?_
    refine SOps.nil ?_
    refine SCode.seq ?_
    refine SCode.cond rfl (fun hc2 => ?_) (fun hc2 => ?_)
    · try simp only [decide_eq_true_eq, decide_eq_false_iff_not, Bool.not_eq_true', Bool.not_eq_false', beq_iff_eq, bne_iff_ne, ne_eq, beq_eq_false_iff_ne, bne_eq_false_iff_eq, Int.not_lt, Int.not_le, Nat.not_lt, Nat.not_le, Int.ofNat_lt, Int.ofNat_le, Bool.not_eq_eq_eq_not, Bool.not_true, Bool.not_false] at hc2
      refine SCode.skip ?_
      show SCode _ _ _ _
      refine SCode.seq ?_
      refine SCode.block ?_
      refine SCode.seqR ?_
      refine SOps.move rfl ?_
      refine SOps.indexM (k) rfl rfl sliceB_46_9_1 (by first | omega | (simp only [lenB] <;> omega)) (by first | omega | (simp only [lenB] <;> omega)) ?_
      refine SOps.loadPin rfl flatB_9 ?_
      refine SOps.assign rfl ?_
      refine SOps.assign rfl ?_
      refine SOps.nil ?_
      refine SCode.seqR ?_
      have hkw : k < (l[i]).words.length := by omega
      have hww := hki.2 _ (List.getElem_mem hkw)
      have hkb := joinK_bound (h := prevH l i) hjb.2 hki.2 k
      have hki1 := hki.1
      have hml : (List.map encS (joinK (joinI l i) (prevH l i) (l[i]).words k)).length = (joinK (joinI l i) (prevH l i) (l[i]).words k).length := List.length_map ..
      have hJs : (joinK (joinI l i) (prevH l i) (l[i]).words (k + 1)) = addW (joinK (joinI l i) (prevH l i) (l[i]).words k) (decide (k = 0) && prevH l i) ((l[i]).words[k]) := by rw [joinK, getD_lt hkw]
      refine SOps.move rfl ?_
      refine SOps.bin rfl rfl rfl ?_
      refine SOps.move rfl ?_
      refine SOps.caseB 25 rfl (fun hb3 => ?_) (fun hb3 => ?_)
      · try simp only [decide_eq_true_eq, decide_eq_false_iff_not, Bool.not_eq_true', Bool.not_eq_false', beq_iff_eq, bne_iff_ne, ne_eq, beq_eq_false_iff_ne, bne_eq_false_iff_eq, Int.not_lt, Int.not_le, Nat.not_lt, Nat.not_le, Int.ofNat_lt, Int.ofNat_le, Bool.not_eq_eq_eq_not, Bool.not_true, Bool.not_false] at hb3
        refine SOps.move rfl ?_
        refine SOps.bin rfl rfl rfl ?_
        refine SOps.pick rfl rfl ?_
        refine SOps.move rfl ?_
        refine SOps.caseB 29 rfl (fun hb4 => ?_) (fun hb4 => ?_)
        · try simp only [decide_eq_true_eq, decide_eq_false_iff_not, Bool.not_eq_true', Bool.not_eq_false', beq_iff_eq, bne_iff_ne, ne_eq, beq_eq_false_iff_ne, bne_eq_false_iff_eq, Int.not_lt, Int.not_le, Nat.not_lt, Nat.not_le, Int.ofNat_lt, Int.ofNat_le, Bool.not_eq_eq_eq_not, Bool.not_true, Bool.not_false] at hb4
          refine SOps.move rfl ?_
          refine SOps.move rfl ?_
          refine SOps.subI rfl rfl (by first | omega | (simp only [lenB] <;> omega)) (by first | omega | (simp only [lenB] <;> omega)) ?_
          refine SOps.indexM ((i - 1)) rfl rfl sliceB_25_48_2 (by first | omega | (simp only [lenB] <;> omega)) (by first | omega | (simp only [lenB] <;> omega)) ?_
          refine SOps.fieldPin rfl fieldB_48_1_1 ?_
          refine SOps.loadPin rfl flatB_4 ?_
          refine SOps.pick rfl rfl ?_
          refine SOps.move rfl ?_
          refine SOps.caseB 37 rfl (fun hb5 => ?_) (fun hb5 => ?_)
          · try simp only [decide_eq_true_eq, decide_eq_false_iff_not, Bool.not_eq_true', Bool.not_eq_false', beq_iff_eq, bne_iff_ne, ne_eq, beq_eq_false_iff_ne, bne_eq_false_iff_eq, Int.not_lt, Int.not_le, Nat.not_lt, Nat.not_le, Int.ofNat_lt, Int.ofNat_le, Bool.not_eq_eq_eq_not, Bool.not_true, Bool.not_false] at hb5
            refine SOps.move rfl ?_
            refine SOps.lenAcc rfl sliceB_46_9_1 ?_
            refine SOps.bin rfl rfl rfl ?_
            refine SOps.pick rfl rfl ?_
            refine SOps.nil ?_
            refine SCode.cond rfl (fun hc6 => ?_) (fun hc6 => ?_)
            · try simp only [decide_eq_true_eq, decide_eq_false_iff_not, Bool.not_eq_true', Bool.not_eq_false', beq_iff_eq, bne_iff_ne, ne_eq, beq_eq_false_iff_ne, bne_eq_false_iff_eq, Int.not_lt, Int.not_le, Nat.not_lt, Nat.not_le, Int.ofNat_lt, Int.ofNat_le, Bool.not_eq_eq_eq_not, Bool.not_true, Bool.not_false] at hc6
              have hJp : 0 < (joinK (joinI l i) (prevH l i) (l[i]).words k).length := by omega
              have hJl : ((joinK (joinI l i) (prevH l i) (l[i]).words k).length - 1) < (joinK (joinI l i) (prevH l i) (l[i]).words k).length := by omega
              have hJb := hkb.2 _ (List.getElem_mem hJl)
              have hJa : (joinK (joinI l i) (prevH l i) (l[i]).words (k + 1)) = (joinK (joinI l i) (prevH l i) (l[i]).words k).set ((joinK (joinI l i) (prevH l i) (l[i]).words k).length - 1) ((joinK (joinI l i) (prevH l i) (l[i]).words k)[((joinK (joinI l i) (prevH l i) (l[i]).words k).length - 1)] ++ (l[i]).words[k]) := by rw [hJs, show (decide (k = 0) && prevH l i) = true from by rw [decide_eq_true (show k = 0 by omega), prevH, decide_eq_true (show 0 < i by omega), lnAt_lt (show i - 1 < l.length by omega)]; simp_all, addW_set hJp, getD_lt hJl]
              refine SCode.region ?_
              refine SOps.reSlot (t := 3) rfl (show _ = DV.sl c 1 0 (((joinK (joinI l i) (prevH l i) (l[i]).words k).map encS)).length from accD_ne (by rw [List.length_map]; omega)) ?_
              refine SOps.reHeap (H' := [(c, DO.row 9 1 ((joinK (joinI l i) (prevH l i) (l[i]).words k).map encS))]) (by rw [accH_ne (by rw [List.length_map]; omega)] <;> rfl) ?_
              refine SOps.move rfl ?_
              refine SOps.move rfl ?_
              refine SOps.lenSl rfl sliceB_46_9_1 ?_
              refine SOps.subI rfl rfl (by first | omega | (simp only [lenB] <;> omega)) (by first | omega | (simp only [lenB] <;> omega)) ?_
              refine SOps.indexS (((joinK (joinI l i) (prevH l i) (l[i]).words k).length - 1)) rfl rfl sliceB_46_9_1 (by first | omega | (simp only [lenB] <;> omega)) (by first | omega | (simp only [lenB] <;> omega)) ?_
              refine SOps.loadK 0 (((joinK (joinI l i) (prevH l i) (l[i]).words k).length - 1)) rfl flatB_9 rfl (by first | omega | (simp only [lenB] <;> omega)) (by first | omega | (simp; done) | (simp; omega)) rfl ?_
              refine SOps.move rfl ?_
              refine SOps.concat rfl rfl (by simp only [lenB]; omega) ?_
              refine SOps.indexS (((joinK (joinI l i) (prevH l i) (l[i]).words k).length - 1)) rfl rfl sliceB_46_9_1 (by first | omega | (simp only [lenB] <;> omega)) (by first | omega | (simp only [lenB] <;> omega)) ?_
              refine SOps.storeK 0 (((joinK (joinI l i) (prevH l i) (l[i]).words k).length - 1)) (v := ((joinK (joinI l i) (prevH l i) (l[i]).words k)[((joinK (joinI l i) (prevH l i) (l[i]).words k).length - 1)] ++ (l[i]).words[k])) rfl rfl oneB_9 rfl (by first | omega | (simp only [lenB] <;> omega)) (by first | omega | (simp; done) | (simp; omega)) rfl (fun _ => rfl) ?_
              refine SOps.nil ?_
              show SCode _ _ _ _
              refine SCode.region ?_
              refine SOps.addI rfl rfl (by first | omega | (simp only [lenB] <;> omega)) (by first | omega | (simp only [lenB] <;> omega)) ?_
              refine SOps.move rfl ?_
              refine SOps.nil ?_
              exact ⟨k + 1, c, by omega, by omega, St.Le.of ⟨rfl, (by show some _ = some _; rw [hJa, accD_ne (by rw [List.length_map, List.length_set]; omega)]; simp only [List.length_map, List.length_set]), rfl, rfl, rfl, rfl, rfl, rfl, rfl, rfl, trivial⟩ rfl (by rw [hJa, accH_ne (by rw [List.length_map, List.length_set]; omega)] <;> rfl)⟩
            · try simp only [decide_eq_true_eq, decide_eq_false_iff_not, Bool.not_eq_true', Bool.not_eq_false', beq_iff_eq, bne_iff_ne, ne_eq, beq_eq_false_iff_ne, bne_eq_false_iff_eq, Int.not_lt, Int.not_le, Nat.not_lt, Nat.not_le, Int.ofNat_lt, Int.ofNat_le, Bool.not_eq_eq_eq_not, Bool.not_true, Bool.not_false] at hc6
              have hJa : (joinK (joinI l i) (prevH l i) (l[i]).words (k + 1)) = (joinK (joinI l i) (prevH l i) (l[i]).words k) ++ [(l[i]).words[k]] := by rw [hJs]; exact addW_app (.inr (by omega))
              refine SCode.region ?_
              refine SOps.move rfl ?_
              refine SOps.move rfl ?_
              refine SOps.litF rfl sliceB_46_9_1 zeroIs_9 rfl ?_
              refine SOps.appendAcc [] [] sliceB_46_9_1 elemB_9_1_16 rfl rfl rfl SrcD.isl (by simp) (by first | (simp [lenB] <;> (first | omega | (simp only [lenB] <;> omega))) | (simp only [lenB]; (first | omega | (simp only [lenB] <;> omega)))) (by first | (simp <;> (first | omega | (simp only [lenB] <;> omega))) | (first | omega | (simp only [lenB] <;> omega))) (fun b1 => ?_)
              refine SOps.assign rfl ?_
              refine SOps.nil ?_
              show SCode _ _ _ _
              refine SCode.region ?_
              refine SOps.addI rfl rfl (by first | omega | (simp only [lenB] <;> omega)) (by first | omega | (simp only [lenB] <;> omega)) ?_
              refine SOps.move rfl ?_
              refine SOps.nil ?_
              exact ⟨k + 1, b1, by omega, by omega, St.Le.of ⟨rfl, (by show some _ = some _; rw [hJa, List.map_append] <;> rfl), rfl, rfl, rfl, rfl, rfl, rfl, rfl, rfl, trivial⟩ rfl (by rw [hJa, List.map_append] <;> rfl)⟩
          · try simp only [decide_eq_true_eq, decide_eq_false_iff_not, Bool.not_eq_true', Bool.not_eq_false', beq_iff_eq, bne_iff_ne, ne_eq, beq_eq_false_iff_ne, bne_eq_false_iff_eq, Int.not_lt, Int.not_le, Nat.not_lt, Nat.not_le, Int.ofNat_lt, Int.ofNat_le, Bool.not_eq_eq_eq_not, Bool.not_true, Bool.not_false] at hb5
            have hJa : (joinK (joinI l i) (prevH l i) (l[i]).words (k + 1)) = (joinK (joinI l i) (prevH l i) (l[i]).words k) ++ [(l[i]).words[k]] := by rw [hJs]; exact addW_app (.inl (by rw [prevH, lnAt_lt (show i - 1 < l.length by omega)]; simp_all))
            refine SOps.skip rfl ?_
            refine SOps.skip rfl ?_
            refine SOps.skip rfl ?_
            refine SOps.pick rfl rfl ?_
            refine SOps.nil ?_
            refine SCode.cond rfl (fun h => by cases h) (fun _ => ?_)
            refine SCode.region ?_
            refine SOps.move rfl ?_
            refine SOps.move rfl ?_
            refine SOps.litF rfl sliceB_46_9_1 zeroIs_9 rfl ?_
            refine SOps.appendAcc [] [] sliceB_46_9_1 elemB_9_1_16 rfl rfl rfl SrcD.isl (by simp) (by first | (simp [lenB] <;> (first | omega | (simp only [lenB] <;> omega))) | (simp only [lenB]; (first | omega | (simp only [lenB] <;> omega)))) (by first | (simp <;> (first | omega | (simp only [lenB] <;> omega))) | (first | omega | (simp only [lenB] <;> omega))) (fun b2 => ?_)
            refine SOps.assign rfl ?_
            refine SOps.nil ?_
            show SCode _ _ _ _
            refine SCode.region ?_
            refine SOps.addI rfl rfl (by first | omega | (simp only [lenB] <;> omega)) (by first | omega | (simp only [lenB] <;> omega)) ?_
            refine SOps.move rfl ?_
            refine SOps.nil ?_
            exact ⟨k + 1, b2, by omega, by omega, St.Le.of ⟨rfl, (by show some _ = some _; rw [hJa, List.map_append] <;> rfl), rfl, rfl, rfl, rfl, rfl, rfl, rfl, rfl, trivial⟩ rfl (by rw [hJa, List.map_append] <;> rfl)⟩
        · try simp only [decide_eq_true_eq, decide_eq_false_iff_not, Bool.not_eq_true', Bool.not_eq_false', beq_iff_eq, bne_iff_ne, ne_eq, beq_eq_false_iff_ne, bne_eq_false_iff_eq, Int.not_lt, Int.not_le, Nat.not_lt, Nat.not_le, Int.ofNat_lt, Int.ofNat_le, Bool.not_eq_eq_eq_not, Bool.not_true, Bool.not_false] at hb4
          have hJa : (joinK (joinI l i) (prevH l i) (l[i]).words (k + 1)) = (joinK (joinI l i) (prevH l i) (l[i]).words k) ++ [(l[i]).words[k]] := by rw [hJs]; exact addW_app (.inl (by rw [prevH, decide_eq_false (show ¬ 0 < i by omega), Bool.false_and, Bool.and_false]))
          refine SOps.skip rfl ?_
          refine SOps.skip rfl ?_
          refine SOps.skip rfl ?_
          refine SOps.skip rfl ?_
          refine SOps.skip rfl ?_
          refine SOps.skip rfl ?_
          refine SOps.pick rfl rfl ?_
          refine SOps.move rfl ?_
          refine SOps.skip rfl ?_
          refine SOps.skip rfl ?_
          refine SOps.skip rfl ?_
          refine SOps.pick rfl rfl ?_
          refine SOps.nil ?_
          refine SCode.cond rfl (fun h => by cases h) (fun _ => ?_)
          refine SCode.region ?_
          refine SOps.move rfl ?_
          refine SOps.move rfl ?_
          refine SOps.litF rfl sliceB_46_9_1 zeroIs_9 rfl ?_
          refine SOps.appendAcc [] [] sliceB_46_9_1 elemB_9_1_16 rfl rfl rfl SrcD.isl (by simp) (by first | (simp [lenB] <;> (first | omega | (simp only [lenB] <;> omega))) | (simp only [lenB]; (first | omega | (simp only [lenB] <;> omega)))) (by first | (simp <;> (first | omega | (simp only [lenB] <;> omega))) | (first | omega | (simp only [lenB] <;> omega))) (fun b3 => ?_)
          refine SOps.assign rfl ?_
          refine SOps.nil ?_
          show SCode _ _ _ _
          refine SCode.region ?_
          refine SOps.addI rfl rfl (by first | omega | (simp only [lenB] <;> omega)) (by first | omega | (simp only [lenB] <;> omega)) ?_
          refine SOps.move rfl ?_
          refine SOps.nil ?_
          exact ⟨k + 1, b3, by omega, by omega, St.Le.of ⟨rfl, (by show some _ = some _; rw [hJa, List.map_append] <;> rfl), rfl, rfl, rfl, rfl, rfl, rfl, rfl, rfl, trivial⟩ rfl (by rw [hJa, List.map_append] <;> rfl)⟩
      · try simp only [decide_eq_true_eq, decide_eq_false_iff_not, Bool.not_eq_true', Bool.not_eq_false', beq_iff_eq, bne_iff_ne, ne_eq, beq_eq_false_iff_ne, bne_eq_false_iff_eq, Int.not_lt, Int.not_le, Nat.not_lt, Nat.not_le, Int.ofNat_lt, Int.ofNat_le, Bool.not_eq_eq_eq_not, Bool.not_true, Bool.not_false] at hb3
        have hJa : (joinK (joinI l i) (prevH l i) (l[i]).words (k + 1)) = (joinK (joinI l i) (prevH l i) (l[i]).words k) ++ [(l[i]).words[k]] := by rw [hJs]; exact addW_app (.inl (by rw [decide_eq_false (by omega), Bool.false_and]))
        refine SOps.skip rfl ?_
        refine SOps.skip rfl ?_
        refine SOps.pick rfl rfl ?_
        refine SOps.move rfl ?_
        refine SOps.skip rfl ?_
        refine SOps.skip rfl ?_
        refine SOps.skip rfl ?_
        refine SOps.skip rfl ?_
        refine SOps.skip rfl ?_
        refine SOps.skip rfl ?_
        refine SOps.pick rfl rfl ?_
        refine SOps.move rfl ?_
        refine SOps.skip rfl ?_
        refine SOps.skip rfl ?_
        refine SOps.skip rfl ?_
        refine SOps.pick rfl rfl ?_
        refine SOps.nil ?_
        refine SCode.cond rfl (fun h => by cases h) (fun _ => ?_)
        refine SCode.region ?_
        refine SOps.move rfl ?_
        refine SOps.move rfl ?_
        refine SOps.litF rfl sliceB_46_9_1 zeroIs_9 rfl ?_
        refine SOps.appendAcc [] [] sliceB_46_9_1 elemB_9_1_16 rfl rfl rfl SrcD.isl (by simp) (by first | (simp [lenB] <;> (first | omega | (simp only [lenB] <;> omega))) | (simp only [lenB]; (first | omega | (simp only [lenB] <;> omega)))) (by first | (simp <;> (first | omega | (simp only [lenB] <;> omega))) | (first | omega | (simp only [lenB] <;> omega))) (fun b4 => ?_)
        refine SOps.assign rfl ?_
        refine SOps.nil ?_
        show SCode _ _ _ _
        refine SCode.region ?_
        refine SOps.addI rfl rfl (by first | omega | (simp only [lenB] <;> omega)) (by first | omega | (simp only [lenB] <;> omega)) ?_
        refine SOps.move rfl ?_
        refine SOps.nil ?_
        exact ⟨k + 1, b4, by omega, by omega, St.Le.of ⟨rfl, (by show some _ = some _; rw [hJa, List.map_append] <;> rfl), rfl, rfl, rfl, rfl, rfl, rfl, rfl, rfl, trivial⟩ rfl (by rw [hJa, List.map_append] <;> rfl)⟩
    · try simp only [decide_eq_true_eq, decide_eq_false_iff_not, Bool.not_eq_true', Bool.not_eq_false', beq_iff_eq, bne_iff_ne, ne_eq, beq_eq_false_iff_ne, bne_eq_false_iff_eq, Int.not_lt, Int.not_le, Nat.not_lt, Nat.not_le, Int.ofNat_lt, Int.ofNat_le, Bool.not_eq_eq_eq_not, Bool.not_true, Bool.not_false] at hc2
      refine SCode.exit ?_
      show SCode _ _ _ _
      refine SCode.region ?_
      refine SOps.addI rfl rfl (by first | omega | (simp only [lenB] <;> omega)) (by first | omega | (simp only [lenB] <;> omega)) ?_
      refine SOps.move rfl ?_
      refine SOps.nil ?_
      have hJe : (joinI l (i + 1)) = (joinK (joinI l i) (prevH l i) (l[i]).words k) := by rw [joinI, hli, show k = (l[i]).words.length by omega]
      exact ⟨i + 1, c, by omega, by omega, St.Le.of ⟨rfl, (by show some _ = some _; rw [hJe] <;> rfl), rfl, rfl, rfl, trivial⟩ rfl (by rw [hJe] <;> rfl)⟩
  · try simp only [decide_eq_true_eq, decide_eq_false_iff_not, Bool.not_eq_true', Bool.not_eq_false', beq_iff_eq, bne_iff_ne, ne_eq, beq_eq_false_iff_ne, bne_eq_false_iff_eq, Int.not_lt, Int.not_le, Nat.not_lt, Nat.not_le, Int.ofNat_lt, Int.ofNat_le, Bool.not_eq_eq_eq_not, Bool.not_true, Bool.not_false] at hc1
    refine SCode.exit ?_
    show SCode _ _ _ _
    refine SCode.seqR ?_
    refine SOps.freezeAcc (t := 3) [] [] rfl rfl rfl ?_
    refine SOps.move rfl ?_
    refine SOps.assign rfl ?_
    refine SOps.nil ?_
    refine SCode.ret ?_
    exact ⟨_, Res.one (.tmp rfl), by rw [joinL, show l.length = i by omega], rfl⟩
theorem qJoin (l : List Ln) (hk : ∀ x ∈ l, LnOK x) (hl : l.length ≤ 1000) : GCall Tryd.prog E 33 [DLns l] [] (fun d H => d = DStrs (joinL l) ∧ H = []) := by
  refine GCall.body (C := ⟨Tryd.prog, E, true⟩) Tryd.func33 rfl (fun _ => rfl) (by kernel_rfl) rfl ?_
  refine SCode.seqR ?_
  refine SOps.assign rfl ?_
  refine SOps.nil ?_
  refine SCode.seqR ?_
  refine SOps.assign rfl ?_
  refine SOps.nil ?_
  refine SCode.seqR ?_
  refine SOps.assign rfl ?_
  refine SOps.nil ?_
  refine SCode.seq ?_
  refine SCode.seqR ?_
  refine SOps.move rfl ?_
  refine SOps.lenM rfl sliceB_25_48_2 ?_
  refine SOps.move rfl ?_
  refine SOps.nil ?_
  refine SCode.block ?_
  refine SCode.loop2 (fun (i : Nat) (b : Nat) => (⟨55, [(0, DLns l), (3, accD 1 b ((joinI l i).map encS)), (4, .v (.bool (prevH l i))), (9, DLns l), (10, .v (.int .i64 (l.length : Int))), (11, .v (.int .i64 (i : Int)))], accH 9 1 b ((joinI l i).map encS) ++ []⟩ : St)) (fun (i : Nat) (b : Nat) => i ≤ l.length) (fun (i : Nat) (b : Nat) => l.length - i) (0) (0) (by exact Nat.zero_le _) (St.Le.of ⟨(by first | rfl | (show some _ = some _; simp)), (by first | rfl | (show some _ = some _; simp)), (by first | rfl | (show some _ = some _; simp)), (by first | rfl | (show some _ = some _; simp)), (by first | rfl | (show some _ = some _; simp)), (by first | rfl | (show some _ = some _; simp)), trivial⟩ rfl (by first | rfl | (simp))) ?_
  rintro i b hin
  refine SCode.seqR ?_
  refine SOps.bin rfl rfl rfl ?_
  refine SOps.nil ?_
  refine SCode.seq ?_
  refine SCode.cond rfl (fun hc1 => ?_) (fun hc1 => ?_)
  · try simp only [decide_eq_true_eq, decide_eq_false_iff_not, Bool.not_eq_true', Bool.not_eq_false', beq_iff_eq, bne_iff_ne, ne_eq, beq_eq_false_iff_ne, bne_eq_false_iff_eq, Int.not_lt, Int.not_le, Nat.not_lt, Nat.not_le, Int.ofNat_lt, Int.ofNat_le, Bool.not_eq_eq_eq_not, Bool.not_true, Bool.not_false] at hc1
    refine SCode.skip ?_
    show SCode _ _ _ _
    refine SCode.seq ?_
    refine SCode.block ?_
    refine SCode.seqR ?_
    refine SOps.indexM (i) rfl rfl sliceB_25_48_2 (by first | omega | (simp only [lenB] <;> omega)) (by first | omega | (simp only [lenB] <;> omega)) ?_
    refine SOps.loadPinA rfl aggB_48_2 (Nat.le_of_ble_eq_true rfl) ?_
    refine SOps.alloc (sz := 2) zeroIs_48 (fun b0 hb_0 => ?_)
    refine SOps.storeAM 0 rfl rfl aggB_48_2 rfl ?_
    refine SOps.freezeRef (t := 6) 0 0 rfl rfl rfl rfl rfl ?_
    refine SOps.nil ?_
    refine SCode.seq ?_
    refine SCode.seqR ?_
    have hil : i < l.length := by omega
    have hki := hk _ (List.getElem_mem hil)
    have hjb := joinI_bound hk i (by omega)
    have hli := lnAt_lt hil
    refine SOps.fieldPin rfl fieldB_48_0_0 ?_
    refine SOps.loadPin rfl flatB_46 ?_
    refine SOps.lenM rfl sliceB_46_9_1 ?_
    refine SOps.move rfl ?_
    refine SOps.nil ?_
    refine SCode.block ?_
    refine SCode.loop2 (fun (k : Nat) (c : Nat) => (⟨55, [(0, DLns l), (3, accD 1 c ((joinK (joinI l i) (prevH l i) (l[i]).words k).map encS)), (4, .v (.bool (prevH l i))), (6, .ipin (encLn (l[i]))), (9, DLns l), (10, .v (.int .i64 (l.length : Int))), (11, .v (.int .i64 (i : Int))), (16, DStrs (l[i]).words), (17, .v (.int .i64 ((l[i]).words.length : Int))), (18, .v (.int .i64 (k : Int)))], accH 9 1 c ((joinK (joinI l i) (prevH l i) (l[i]).words k).map encS) ++ []⟩ : St)) (fun (k : Nat) (c : Nat) => k ≤ (l[i]).words.length) (fun (k : Nat) (c : Nat) => (l[i]).words.length - k) (0) (b) (by exact Nat.zero_le _) (St.Le.of ⟨(by first | rfl | (show some _ = some _; simp)), (by first | rfl | (show some _ = some _; simp)), (by first | rfl | (show some _ = some _; simp)), (by first | rfl | (show some _ = some _; simp)), (by first | rfl | (show some _ = some _; simp)), (by first | rfl | (show some _ = some _; simp)), (by first | rfl | (show some _ = some _; simp)), (by first | rfl | (show some _ = some _; simp)), (by first | rfl | (show some _ = some _; simp)), (by first | rfl | (show some _ = some _; simp)), trivial⟩ rfl (by first | rfl | (simp))) ?_
    rintro k c hkn
    refine SCode.seqR ?_
    refine SOps.bin rfl rfl rfl ?_
    refine SOps.nil ?_
    refine SCode.seq ?_
    refine SCode.cond rfl (fun hc2 => ?_) (fun hc2 => ?_)
    · try simp only [decide_eq_true_eq, decide_eq_false_iff_not, Bool.not_eq_true', Bool.not_eq_false', beq_iff_eq, bne_iff_ne, ne_eq, beq_eq_false_iff_ne, bne_eq_false_iff_eq, Int.not_lt, Int.not_le, Nat.not_lt, Nat.not_le, Int.ofNat_lt, Int.ofNat_le, Bool.not_eq_eq_eq_not, Bool.not_true, Bool.not_false] at hc2
      refine SCode.skip ?_
      show SCode _ _ _ _
      refine SCode.seq ?_
      refine SCode.block ?_
      refine SCode.seqR ?_
      refine SOps.move rfl ?_
      refine SOps.indexM (k) rfl rfl sliceB_46_9_1 (by first | omega | (simp only [lenB] <;> omega)) (by first | omega | (simp only [lenB] <;> omega)) ?_
      refine SOps.loadPin rfl flatB_9 ?_
      refine SOps.assign rfl ?_
      refine SOps.assign rfl ?_
      refine SOps.nil ?_
      refine SCode.seq ?_
      refine SCode.seqR ?_
      have hkw : k < (l[i]).words.length := by omega
      have hww := hki.2 _ (List.getElem_mem hkw)
      have hkb := joinK_bound (h := prevH l i) hjb.2 hki.2 k
      have hki1 := hki.1
      have hml : (List.map encS (joinK (joinI l i) (prevH l i) (l[i]).words k)).length = (joinK (joinI l i) (prevH l i) (l[i]).words k).length := List.length_map ..
      have hJs : (joinK (joinI l i) (prevH l i) (l[i]).words (k + 1)) = addW (joinK (joinI l i) (prevH l i) (l[i]).words k) (decide (k = 0) && prevH l i) ((l[i]).words[k]) := by rw [joinK, getD_lt hkw]
      refine SOps.move rfl ?_
      refine SOps.bin rfl rfl rfl ?_
      refine SOps.move rfl ?_
      refine SOps.caseB 25 rfl (fun hb3 => ?_) (fun hb3 => ?_)
      · try simp only [decide_eq_true_eq, decide_eq_false_iff_not, Bool.not_eq_true', Bool.not_eq_false', beq_iff_eq, bne_iff_ne, ne_eq, beq_eq_false_iff_ne, bne_eq_false_iff_eq, Int.not_lt, Int.not_le, Nat.not_lt, Nat.not_le, Int.ofNat_lt, Int.ofNat_le, Bool.not_eq_eq_eq_not, Bool.not_true, Bool.not_false] at hb3
        refine SOps.move rfl ?_
        refine SOps.pick rfl rfl ?_
        refine SOps.move rfl ?_
        refine SOps.caseB 28 rfl (fun hb4 => ?_) (fun hb4 => ?_)
        · try simp only [decide_eq_true_eq, decide_eq_false_iff_not, Bool.not_eq_true', Bool.not_eq_false', beq_iff_eq, bne_iff_ne, ne_eq, beq_eq_false_iff_ne, bne_eq_false_iff_eq, Int.not_lt, Int.not_le, Nat.not_lt, Nat.not_le, Int.ofNat_lt, Int.ofNat_le, Bool.not_eq_eq_eq_not, Bool.not_true, Bool.not_false] at hb4
          refine SOps.move rfl ?_
          refine SOps.lenAcc rfl sliceB_46_9_1 ?_
          refine SOps.bin rfl rfl rfl ?_
          refine SOps.pick rfl rfl ?_
          refine SOps.nil ?_
          refine SCode.cond rfl (fun hc5 => ?_) (fun hc5 => ?_)
          · try simp only [decide_eq_true_eq, decide_eq_false_iff_not, Bool.not_eq_true', Bool.not_eq_false', beq_iff_eq, bne_iff_ne, ne_eq, beq_eq_false_iff_ne, bne_eq_false_iff_eq, Int.not_lt, Int.not_le, Nat.not_lt, Nat.not_le, Int.ofNat_lt, Int.ofNat_le, Bool.not_eq_eq_eq_not, Bool.not_true, Bool.not_false] at hc5
            have hJp : 0 < (joinK (joinI l i) (prevH l i) (l[i]).words k).length := by omega
            have hJl : ((joinK (joinI l i) (prevH l i) (l[i]).words k).length - 1) < (joinK (joinI l i) (prevH l i) (l[i]).words k).length := by omega
            have hJb := hkb.2 _ (List.getElem_mem hJl)
            have hJa : (joinK (joinI l i) (prevH l i) (l[i]).words (k + 1)) = (joinK (joinI l i) (prevH l i) (l[i]).words k).set ((joinK (joinI l i) (prevH l i) (l[i]).words k).length - 1) ((joinK (joinI l i) (prevH l i) (l[i]).words k)[((joinK (joinI l i) (prevH l i) (l[i]).words k).length - 1)] ++ (l[i]).words[k]) := by rw [hJs, show (decide (k = 0) && prevH l i) = true from by rw [decide_eq_true (show k = 0 by omega), hb4]; rfl, addW_set hJp, getD_lt hJl]
            refine SCode.seqR ?_
            refine SOps.reSlot (t := 3) rfl (show _ = DV.sl c 1 0 (((joinK (joinI l i) (prevH l i) (l[i]).words k).map encS)).length from accD_ne (by rw [List.length_map]; omega)) ?_
            refine SOps.reHeap (H' := [(c, DO.row 9 1 ((joinK (joinI l i) (prevH l i) (l[i]).words k).map encS))]) (by rw [accH_ne (by rw [List.length_map]; omega)] <;> rfl) ?_
            refine SOps.move rfl ?_
            refine SOps.move rfl ?_
            refine SOps.lenSl rfl sliceB_46_9_1 ?_
            refine SOps.subI rfl rfl (by first | omega | (simp only [lenB] <;> omega)) (by first | omega | (simp only [lenB] <;> omega)) ?_
            refine SOps.move rfl ?_
            refine SOps.move rfl ?_
            refine SOps.lenSl rfl sliceB_46_9_1 ?_
            refine SOps.subI rfl rfl (by first | omega | (simp only [lenB] <;> omega)) (by first | omega | (simp only [lenB] <;> omega)) ?_
            refine SOps.indexS (((joinK (joinI l i) (prevH l i) (l[i]).words k).length - 1)) rfl rfl sliceB_46_9_1 (by first | omega | (simp only [lenB] <;> omega)) (by first | omega | (simp only [lenB] <;> omega)) ?_
            refine SOps.loadK 0 (((joinK (joinI l i) (prevH l i) (l[i]).words k).length - 1)) rfl flatB_9 rfl (by first | omega | (simp only [lenB] <;> omega)) (by first | omega | (simp; done) | (simp; omega)) rfl ?_
            refine SOps.move rfl ?_
            refine SOps.concat rfl rfl (by simp only [lenB]; omega) ?_
            refine SOps.indexS (((joinK (joinI l i) (prevH l i) (l[i]).words k).length - 1)) rfl rfl sliceB_46_9_1 (by first | omega | (simp only [lenB] <;> omega)) (by first | omega | (simp only [lenB] <;> omega)) ?_
            refine SOps.storeK 0 (((joinK (joinI l i) (prevH l i) (l[i]).words k).length - 1)) (v := ((joinK (joinI l i) (prevH l i) (l[i]).words k)[((joinK (joinI l i) (prevH l i) (l[i]).words k).length - 1)] ++ (l[i]).words[k])) rfl rfl oneB_9 rfl (by first | omega | (simp only [lenB] <;> omega)) (by first | omega | (simp; done) | (simp; omega)) rfl (fun _ => rfl) ?_
            refine SOps.nil ?_
            refine SCode.exit ?_
            show SCode _ _ _ _
            refine SCode.region ?_
            refine SOps.addI rfl rfl (by first | omega | (simp only [lenB] <;> omega)) (by first | omega | (simp only [lenB] <;> omega)) ?_
            refine SOps.move rfl ?_
            refine SOps.nil ?_
            exact ⟨k + 1, c, by omega, by omega, St.Le.of ⟨rfl, (by show some _ = some _; rw [hJa, accD_ne (by rw [List.length_map, List.length_set]; omega)]; simp only [List.length_map, List.length_set]), rfl, rfl, rfl, rfl, rfl, rfl, rfl, rfl, trivial⟩ rfl (by rw [hJa, accH_ne (by rw [List.length_map, List.length_set]; omega)] <;> rfl)⟩
          · try simp only [decide_eq_true_eq, decide_eq_false_iff_not, Bool.not_eq_true', Bool.not_eq_false', beq_iff_eq, bne_iff_ne, ne_eq, beq_eq_false_iff_ne, bne_eq_false_iff_eq, Int.not_lt, Int.not_le, Nat.not_lt, Nat.not_le, Int.ofNat_lt, Int.ofNat_le, Bool.not_eq_eq_eq_not, Bool.not_true, Bool.not_false] at hc5
            have hJa : (joinK (joinI l i) (prevH l i) (l[i]).words (k + 1)) = (joinK (joinI l i) (prevH l i) (l[i]).words k) ++ [(l[i]).words[k]] := by rw [hJs]; exact addW_app (.inr (by omega))
            refine SCode.skip ?_
            show SCode _ _ _ _
            refine SCode.region ?_
            refine SOps.move rfl ?_
            refine SOps.move rfl ?_
            refine SOps.litF rfl sliceB_46_9_1 zeroIs_9 rfl ?_
            refine SOps.appendAcc [] [] sliceB_46_9_1 elemB_9_1_16 rfl rfl rfl SrcD.isl (by simp) (by first | (simp [lenB] <;> (first | omega | (simp only [lenB] <;> omega))) | (simp only [lenB]; (first | omega | (simp only [lenB] <;> omega)))) (by first | (simp <;> (first | omega | (simp only [lenB] <;> omega))) | (first | omega | (simp only [lenB] <;> omega))) (fun b1 => ?_)
            refine SOps.assign rfl ?_
            refine SOps.nil ?_
            show SCode _ _ _ _
            refine SCode.region ?_
            refine SOps.addI rfl rfl (by first | omega | (simp only [lenB] <;> omega)) (by first | omega | (simp only [lenB] <;> omega)) ?_
            refine SOps.move rfl ?_
            refine SOps.nil ?_
            exact ⟨k + 1, b1, by omega, by omega, St.Le.of ⟨rfl, (by show some _ = some _; rw [hJa, List.map_append] <;> rfl), rfl, rfl, rfl, rfl, rfl, rfl, rfl, rfl, trivial⟩ rfl (by rw [hJa, List.map_append] <;> rfl)⟩
        · try simp only [decide_eq_true_eq, decide_eq_false_iff_not, Bool.not_eq_true', Bool.not_eq_false', beq_iff_eq, bne_iff_ne, ne_eq, beq_eq_false_iff_ne, bne_eq_false_iff_eq, Int.not_lt, Int.not_le, Nat.not_lt, Nat.not_le, Int.ofNat_lt, Int.ofNat_le, Bool.not_eq_eq_eq_not, Bool.not_true, Bool.not_false] at hb4
          have hJa : (joinK (joinI l i) (prevH l i) (l[i]).words (k + 1)) = (joinK (joinI l i) (prevH l i) (l[i]).words k) ++ [(l[i]).words[k]] := by rw [hJs]; exact addW_app (.inl (by rw [hb4, Bool.and_false]))
          refine SOps.skip rfl ?_
          refine SOps.skip rfl ?_
          refine SOps.skip rfl ?_
          refine SOps.pick rfl rfl ?_
          refine SOps.nil ?_
          refine SCode.cond rfl (fun h => by cases h) (fun _ => ?_)
          refine SCode.skip ?_
          show SCode _ _ _ _
          refine SCode.region ?_
          refine SOps.move rfl ?_
          refine SOps.move rfl ?_
          refine SOps.litF rfl sliceB_46_9_1 zeroIs_9 rfl ?_
          refine SOps.appendAcc [] [] sliceB_46_9_1 elemB_9_1_16 rfl rfl rfl SrcD.isl (by simp) (by first | (simp [lenB] <;> (first | omega | (simp only [lenB] <;> omega))) | (simp only [lenB]; (first | omega | (simp only [lenB] <;> omega)))) (by first | (simp <;> (first | omega | (simp only [lenB] <;> omega))) | (first | omega | (simp only [lenB] <;> omega))) (fun b2 => ?_)
          refine SOps.assign rfl ?_
          refine SOps.nil ?_
          show SCode _ _ _ _
          refine SCode.region ?_
          refine SOps.addI rfl rfl (by first | omega | (simp only [lenB] <;> omega)) (by first | omega | (simp only [lenB] <;> omega)) ?_
          refine SOps.move rfl ?_
          refine SOps.nil ?_
          exact ⟨k + 1, b2, by omega, by omega, St.Le.of ⟨rfl, (by show some _ = some _; rw [hJa, List.map_append] <;> rfl), rfl, rfl, rfl, rfl, rfl, rfl, rfl, rfl, trivial⟩ rfl (by rw [hJa, List.map_append] <;> rfl)⟩
      · try simp only [decide_eq_true_eq, decide_eq_false_iff_not, Bool.not_eq_true', Bool.not_eq_false', beq_iff_eq, bne_iff_ne, ne_eq, beq_eq_false_iff_ne, bne_eq_false_iff_eq, Int.not_lt, Int.not_le, Nat.not_lt, Nat.not_le, Int.ofNat_lt, Int.ofNat_le, Bool.not_eq_eq_eq_not, Bool.not_true, Bool.not_false] at hb3
        have hJa : (joinK (joinI l i) (prevH l i) (l[i]).words (k + 1)) = (joinK (joinI l i) (prevH l i) (l[i]).words k) ++ [(l[i]).words[k]] := by rw [hJs]; exact addW_app (.inl (by rw [decide_eq_false (by omega), Bool.false_and]))
        refine SOps.skip rfl ?_
        refine SOps.pick rfl rfl ?_
        refine SOps.move rfl ?_
        refine SOps.skip rfl ?_
        refine SOps.skip rfl ?_
        refine SOps.skip rfl ?_
        refine SOps.pick rfl rfl ?_
        refine SOps.nil ?_
        refine SCode.cond rfl (fun h => by cases h) (fun _ => ?_)
        refine SCode.skip ?_
        show SCode _ _ _ _
        refine SCode.region ?_
        refine SOps.move rfl ?_
        refine SOps.move rfl ?_
        refine SOps.litF rfl sliceB_46_9_1 zeroIs_9 rfl ?_
        refine SOps.appendAcc [] [] sliceB_46_9_1 elemB_9_1_16 rfl rfl rfl SrcD.isl (by simp) (by first | (simp [lenB] <;> (first | omega | (simp only [lenB] <;> omega))) | (simp only [lenB]; (first | omega | (simp only [lenB] <;> omega)))) (by first | (simp <;> (first | omega | (simp only [lenB] <;> omega))) | (first | omega | (simp only [lenB] <;> omega))) (fun b3 => ?_)
        refine SOps.assign rfl ?_
        refine SOps.nil ?_
        show SCode _ _ _ _
        refine SCode.region ?_
        refine SOps.addI rfl rfl (by first | omega | (simp only [lenB] <;> omega)) (by first | omega | (simp only [lenB] <;> omega)) ?_
        refine SOps.move rfl ?_
        refine SOps.nil ?_
        exact ⟨k + 1, b3, by omega, by omega, St.Le.of ⟨rfl, (by show some _ = some _; rw [hJa, List.map_append] <;> rfl), rfl, rfl, rfl, rfl, rfl, rfl, rfl, rfl, trivial⟩ rfl (by rw [hJa, List.map_append] <;> rfl)⟩
    · try simp only [decide_eq_true_eq, decide_eq_false_iff_not, Bool.not_eq_true', Bool.not_eq_false', beq_iff_eq, bne_iff_ne, ne_eq, beq_eq_false_iff_ne, bne_eq_false_iff_eq, Int.not_lt, Int.not_le, Nat.not_lt, Nat.not_le, Int.ofNat_lt, Int.ofNat_le, Bool.not_eq_eq_eq_not, Bool.not_true, Bool.not_false] at hc2
      refine SCode.exit ?_
      show SCode _ _ _ _
      refine SCode.region ?_
      refine SOps.fieldPin rfl fieldB_48_1_1 ?_
      refine SOps.loadPin rfl flatB_4 ?_
      refine SOps.assign rfl ?_
      refine SOps.nil ?_
      show SCode _ _ _ _
      refine SCode.region ?_
      refine SOps.addI rfl rfl (by first | omega | (simp only [lenB] <;> omega)) (by first | omega | (simp only [lenB] <;> omega)) ?_
      refine SOps.move rfl ?_
      refine SOps.nil ?_
      have hJe : (joinI l (i + 1)) = (joinK (joinI l i) (prevH l i) (l[i]).words k) := by rw [joinI, hli, show k = (l[i]).words.length by omega]
      have hph : prevH l (i + 1) = (l[i]).hyph := by rw [prevH, decide_eq_true (Nat.succ_pos _), Nat.add_sub_cancel, hli]; rfl
      exact ⟨i + 1, c, by omega, by omega, St.Le.of ⟨rfl, (by show some _ = some _; rw [hJe] <;> rfl), (by show some _ = some _; rw [hph] <;> rfl), rfl, rfl, rfl, trivial⟩ rfl (by rw [hJe] <;> rfl)⟩
  · try simp only [decide_eq_true_eq, decide_eq_false_iff_not, Bool.not_eq_true', Bool.not_eq_false', beq_iff_eq, bne_iff_ne, ne_eq, beq_eq_false_iff_ne, bne_eq_false_iff_eq, Int.not_lt, Int.not_le, Nat.not_lt, Nat.not_le, Int.ofNat_lt, Int.ofNat_le, Bool.not_eq_eq_eq_not, Bool.not_true, Bool.not_false] at hc1
    refine SCode.exit ?_
    show SCode _ _ _ _
    refine SCode.seqR ?_
    refine SOps.freezeAcc (t := 3) [] [] rfl rfl rfl ?_
    refine SOps.move rfl ?_
    refine SOps.assign rfl ?_
    refine SOps.nil ?_
    refine SCode.ret ?_
    exact ⟨_, Res.one (.tmp rfl), by rw [joinL, show l.length = i by omega], rfl⟩
end Go.GH
namespace Go.GH
open Go Go.Proofs
variable {E : Env}
theorem l44Text (hV : VS E) (l : List Ln)  : GCall Tryd.prog E 8 [DLns l] [] (fun d H => d = .v (.bool true) ∧ H = []) := by
  refine GCall.body (C := ⟨Tryd.prog, E, true⟩) Tryd.func8 rfl (fun _ => rfl) (by kernel_rfl) rfl ?_
  refine SCode.seqR ?_
  refine SOps.assign rfl ?_
  refine SOps.nil ?_
  refine SCode.seq ?_
  refine SCode.seqR ?_
  refine SOps.callP (sAwake hV) rfl ?_
  rintro _ rfl
  refine SOps.un rfl rfl ?_
  refine SOps.nil ?_
  refine SCode.cond rfl (fun h => by cases h) (fun _ => ?_)
  refine SCode.skip ?_
  show SCode _ _ _ _
  refine SCode.seq ?_
  refine SCode.seqR ?_
  refine SOps.move rfl ?_
  refine SOps.callP (lWide _) rfl ?_
  rintro _ rfl
  refine SOps.nil ?_
  refine SCode.cond rfl (fun hc1 => ?_) (fun hc1 => ?_)
  · try simp only [decide_eq_true_eq, decide_eq_false_iff_not, Bool.not_eq_true', Bool.not_eq_false', beq_iff_eq, bne_iff_ne, ne_eq, beq_eq_false_iff_ne, bne_eq_false_iff_eq, Int.not_lt, Int.not_le, Nat.not_lt, Nat.not_le, Int.ofNat_lt, Int.ofNat_le, Bool.not_eq_eq_eq_not, Bool.not_true, Bool.not_false] at hc1
    refine SCode.seqR ?_
    refine SOps.assign rfl ?_
    refine SOps.nil ?_
    refine SCode.ret ?_
    exact ⟨_, Res.one (.tmp rfl), rfl, rfl⟩
  · try simp only [decide_eq_true_eq, decide_eq_false_iff_not, Bool.not_eq_true', Bool.not_eq_false', beq_iff_eq, bne_iff_ne, ne_eq, beq_eq_false_iff_ne, bne_eq_false_iff_eq, Int.not_lt, Int.not_le, Nat.not_lt, Nat.not_le, Int.ofNat_lt, Int.ofNat_le, Bool.not_eq_eq_eq_not, Bool.not_true, Bool.not_false] at hc1
    have hk := wide_ln hc1
    have hl30 := (wide_ok hc1).1
    refine SCode.skip ?_
    show SCode _ _ _ _
    refine SCode.seq ?_
    refine SCode.seqR ?_
    refine SOps.move rfl ?_
    refine SOps.lenM rfl sliceB_25_48_2 ?_
    refine SOps.move rfl ?_
    refine SOps.nil ?_
    refine SCode.block ?_
    refine SCode.loop1 (fun (i : Nat) => (⟨26, [(0, DLns l), (9, DLns l), (10, .v (.int .i64 (l.length : Int))), (11, .v (.int .i64 (i : Int)))], []⟩ : St)) (fun (i : Nat) => i ≤ l.length) (fun (i : Nat) => l.length - i) (0) (by exact Nat.zero_le _) (St.Le.of ⟨(by first | rfl | (show some _ = some _; simp)), (by first | rfl | (show some _ = some _; simp)), (by first | rfl | (show some _ = some _; simp)), (by first | rfl | (show some _ = some _; simp)), trivial⟩ rfl (by first | rfl | (simp))) ?_
    rintro i hin
    refine SCode.seqR ?_
    refine SOps.bin rfl rfl rfl ?_
    refine SOps.nil ?_
    refine SCode.seq ?_
    refine SCode.cond rfl (fun hc2 => ?_) (fun hc2 => ?_)
    · try simp only [decide_eq_true_eq, decide_eq_false_iff_not, Bool.not_eq_true', Bool.not_eq_false', beq_iff_eq, bne_iff_ne, ne_eq, beq_eq_false_iff_ne, bne_eq_false_iff_eq, Int.not_lt, Int.not_le, Nat.not_lt, Nat.not_le, Int.ofNat_lt, Int.ofNat_le, Bool.not_eq_eq_eq_not, Bool.not_true, Bool.not_false] at hc2
      refine SCode.skip ?_
      show SCode _ _ _ _
      refine SCode.seq ?_
      refine SCode.block ?_
      refine SCode.seqR ?_
      have hil : i < l.length := by omega
      have hki := (hk _ (List.getElem_mem hil)).words
      refine SOps.indexM (i) rfl rfl sliceB_25_48_2 (by first | omega | (simp only [lenB] <;> omega)) (by first | omega | (simp only [lenB] <;> omega)) ?_
      refine SOps.loadPinA rfl aggB_48_2 (Nat.le_of_ble_eq_true rfl) ?_
      refine SOps.alloc (sz := 2) zeroIs_48 (fun b0 hb_0 => ?_)
      refine SOps.storeAM 0 rfl rfl aggB_48_2 rfl ?_
      refine SOps.freezeRef (t := 4) 0 0 rfl rfl rfl rfl rfl ?_
      refine SOps.nil ?_
      refine SCode.seq ?_
      apply SCode.drawAuto mixed_ [15, 16, 17, 18, 19] [[.inr 4], [.inl 0], [.inr 4], [.inl 2], [.inl 1, .inl 3]]
      · kernel_rfl
      · kernel_rfl
      · apply DOk.cons 15 
        · rfl
        · exact (NeedIs.inr _ rfl NeedIs.nil)
        · intro rest
          refine SOps.loadPinA rfl aggB_48_2 (Nat.le_of_ble_eq_true rfl) ?_
          exact SOps.nil rfl
        apply DOk.cons 16 
        · rfl
        · exact (NeedIs.inl 0 _ _ rfl rfl NeedIs.nil)
        · intro rest
          refine SOps.callP (sText _ hki.1 hki.2) rfl ?_
          rintro _ rfl
          exact SOps.nil rfl
        apply DOk.cons 17 
        · rfl
        · exact (NeedIs.inr _ rfl NeedIs.nil)
        · intro rest
          refine SOps.loadPinA rfl aggB_48_2 (Nat.le_of_ble_eq_true rfl) ?_
          exact SOps.nil rfl
        apply DOk.cons 18 
        · rfl
        · exact (NeedIs.inl 0 _ _ rfl rfl NeedIs.nil)
        · intro rest
          refine SOps.callP (qText _ hki.1 hki.2) rfl ?_
          rintro _ rfl
          exact SOps.nil rfl
        apply DOk.cons 19 (.v (.bool false))
        · rfl
        · exact (NeedIs.inl 2 _ _ rfl rfl (NeedIs.inl 0 _ _ rfl rfl NeedIs.nil))
        · intro rest
          refine SOps.bin rfl rfl rfl ?_
          exact SOps.nil (congrArg (fun b => St.put _ 19 (.v (.bool b))) (by simp))
        exact DOk.nil
      · rfl
      · show SCode _ _ _ _
        refine SCode.cond rfl (fun h => by cases h) (fun _ => ?_)
        refine SCode.skip ?_
        show SCode _ _ _ _
        refine SCode.region ?_
        refine SOps.addI rfl rfl (by first | omega | (simp only [lenB] <;> omega)) (by first | omega | (simp only [lenB] <;> omega)) ?_
        refine SOps.move rfl ?_
        refine SOps.nil ?_
        exact ⟨i + 1, by omega, by omega, (St.Le.of ⟨(by first | rfl | (show some _ = some _; simp)), (by first | rfl | (show some _ = some _; simp)), (by first | rfl | (show some _ = some _; simp)), (by first | rfl | (show some _ = some _; simp)), trivial⟩ rfl (by first | rfl | (simp)))⟩
    · try simp only [decide_eq_true_eq, decide_eq_false_iff_not, Bool.not_eq_true', Bool.not_eq_false', beq_iff_eq, bne_iff_ne, ne_eq, beq_eq_false_iff_ne, bne_eq_false_iff_eq, Int.not_lt, Int.not_le, Nat.not_lt, Nat.not_le, Int.ofNat_lt, Int.ofNat_le, Bool.not_eq_eq_eq_not, Bool.not_true, Bool.not_false] at hc2
      refine SCode.exit ?_
      show SCode _ _ _ _
      refine SCode.seqR ?_
      refine SOps.move rfl ?_
      refine SOps.callP (sJoin _ hk (by omega)) rfl ?_
      rintro _ rfl
      refine SOps.move rfl ?_
      refine SOps.callP (qJoin _ hk (by omega)) rfl ?_
      rintro _ rfl
      refine SOps.callP (qWords _ _) rfl ?_
      rintro _ rfl
      refine SOps.reSlot (t := 25) rfl (show _ = DV.v (.bool true) from congrArg (fun b => DV.v (.bool b)) (decide_eq_true rfl)) ?_
      refine SOps.assign rfl ?_
      refine SOps.nil ?_
      refine SCode.ret ?_
      exact ⟨_, Res.one (.tmp rfl), rfl, rfl⟩
end Go.GH
