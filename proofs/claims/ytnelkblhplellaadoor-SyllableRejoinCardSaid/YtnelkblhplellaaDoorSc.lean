/-
  The walks of the laws on syllables. No conditions.
-/
import Derived.Test.YtnelkblhplellaaDoorSb
set_option linter.unusedVariables false
set_option linter.unusedSimpArgs false
namespace Go.GH
open Go Go.Proofs
variable {E : Env}
theorem boolTy_4 : boolTy Tryd.prog 4 = true := by kernel_rfl
theorem placesB_24 : placesB Tryd.prog 24 [(0, 1), (1, 1), (2, 1)] = true := by kernel_rfl
theorem placesB_51 : placesB Tryd.prog 51 [(0, 1), (1, 1)] = true := by kernel_rfl
theorem zeroIs_24 : zeroIs Tryd.prog 24 (.agg #[.slice none 0 0, .int .i64 0, .int .i64 0]) := by unfold zeroIs; kernel_rfl
theorem zeroIs_33 : zeroIs Tryd.prog 33 (.slice none 0 0) := by unfold zeroIs; kernel_rfl
theorem zeroIs_49 : zeroIs Tryd.prog 49 (.int .u32 0) := by unfold zeroIs; kernel_rfl
theorem lFew (a : List Letter) (ons : List (List Int)) (ml mr : Int) (s : ByteArray)  : GCall Tryd.prog E 15 [DLs a, DP ons ml mr, .v (.string s)] [] (fun d H => d = .v (.bool (fewA a ons s)) ∧ H = []) := by
  refine GCall.body (C := ⟨Tryd.prog, E, true⟩) Tryd.func15 rfl (fun _ => rfl) (by kernel_rfl) rfl ?_
  refine SCode.seqR ?_
  refine SOps.boxAM rfl rfl ?_
  refine SOps.assign rfl ?_
  refine SOps.nil ?_
  refine SCode.seq ?_
  refine SCode.seqR ?_
  refine SOps.assign rfl ?_
  refine SOps.nil ?_
  refine SCode.block ?_
  refine SCode.loop1 (fun (i : Nat) => (⟨36, [(0, DLs a), (2, .v (.string s)), (4, .ipin [DOns ons, .v (.int .i64 ml), .v (.int .i64 mr)]), (6, .v (.bool false)), (7, .v (.int .i64 (i : Int)))], []⟩ : St)) (fun (i : Nat) => i ≤ ons.length ∧ ∀ x ∈ ons.take i, decide (x.length ≤ 8) = true) (fun (i : Nat) => ons.length - i) (0) (by simp) (St.Le.of ⟨(by first | rfl | (show some _ = some _; simp)), (by first | rfl | (show some _ = some _; simp)), (by first | rfl | (show some _ = some _; simp)), (by first | rfl | (show some _ = some _; simp)), (by first | rfl | (show some _ = some _; simp)), trivial⟩ rfl (by first | rfl | (simp))) ?_
  rintro i ⟨hi, hq⟩
  refine SCode.seq ?_
  refine SCode.seqR ?_
  refine SOps.move rfl ?_
  refine SOps.fieldPin rfl fieldB_24_0_0 ?_
  refine SOps.loadPin rfl flatB_22 ?_
  refine SOps.fact (isl_len (t := 10) rfl) (fun hB => ?_)
  simp only [List.length_map, lenB] at hB
  refine SOps.lenM rfl sliceB_22_33_1 ?_
  refine SOps.bin rfl rfl rfl ?_
  refine SOps.nil ?_
  refine SCode.cond rfl (fun hc1 => ?_) (fun hc1 => ?_)
  · try simp only [decide_eq_true_eq, decide_eq_false_iff_not, Bool.not_eq_true', Bool.not_eq_false', beq_iff_eq, bne_iff_ne, ne_eq, beq_eq_false_iff_ne, bne_eq_false_iff_eq, Int.not_lt, Int.not_le, Nat.not_lt, Nat.not_le, Int.ofNat_lt, Int.ofNat_le, Bool.not_eq_eq_eq_not, Bool.not_true, Bool.not_false] at hc1
    refine SCode.skip ?_
    show SCode _ _ _ _
    refine SCode.seq ?_
    refine SCode.block ?_
    refine SCode.seqR ?_
    refine SOps.fieldPin rfl fieldB_24_0_0 ?_
    refine SOps.loadPin rfl flatB_22 ?_
    refine SOps.move rfl ?_
    refine SOps.indexM (i) rfl rfl sliceB_22_33_1 (by omega) (by omega) ?_
    refine SOps.loadPin rfl flatB_33 ?_
    refine SOps.lenM rfl sliceB_33_49_1 ?_
    refine SOps.bin rfl rfl rfl ?_
    refine SOps.nil ?_
    refine SCode.cond rfl (fun hc2 => ?_) (fun hc2 => ?_)
    · try simp only [decide_eq_true_eq, decide_eq_false_iff_not, Bool.not_eq_true', Bool.not_eq_false', beq_iff_eq, bne_iff_ne, ne_eq, beq_eq_false_iff_ne, bne_eq_false_iff_eq, Int.not_lt, Int.not_le, Nat.not_lt, Nat.not_le, Int.ofNat_lt, Int.ofNat_le, Bool.not_eq_eq_eq_not, Bool.not_true, Bool.not_false] at hc2
      refine SCode.seqR ?_
      refine SOps.assign rfl ?_
      refine SOps.nil ?_
      refine SCode.ret ?_
      exact ⟨_, Res.one (.tmp rfl), congrArg (fun b => DV.v (.bool b)) (by rw [fewA, List.all_eq_false.2 ⟨_, List.getElem_mem (show i < ons.length by omega), by simp; omega⟩]; rfl), rfl⟩
    · try simp only [decide_eq_true_eq, decide_eq_false_iff_not, Bool.not_eq_true', Bool.not_eq_false', beq_iff_eq, bne_iff_ne, ne_eq, beq_eq_false_iff_ne, bne_eq_false_iff_eq, Int.not_lt, Int.not_le, Nat.not_lt, Nat.not_le, Int.ofNat_lt, Int.ofNat_le, Bool.not_eq_eq_eq_not, Bool.not_true, Bool.not_false] at hc2
      refine SCode.skip ?_
      show SCode _ _ _ _
      refine SCode.region ?_
      refine SOps.move rfl ?_
      refine SOps.addI rfl rfl (by omega) (by omega) ?_
      refine SOps.assign rfl ?_
      refine SOps.nil ?_
      exact ⟨i + 1, by exact ⟨by omega, take_more hq (by omega) (decide_eq_true (by omega))⟩, by omega, (St.Le.of ⟨(by first | rfl | (show some _ = some _; simp)), (by first | rfl | (show some _ = some _; simp)), (by first | rfl | (show some _ = some _; simp)), (by first | rfl | (show some _ = some _; simp)), (by first | rfl | (show some _ = some _; simp)), trivial⟩ rfl (by first | rfl | (simp)))⟩
  · try simp only [decide_eq_true_eq, decide_eq_false_iff_not, Bool.not_eq_true', Bool.not_eq_false', beq_iff_eq, bne_iff_ne, ne_eq, beq_eq_false_iff_ne, bne_eq_false_iff_eq, Int.not_lt, Int.not_le, Nat.not_lt, Nat.not_le, Int.ofNat_lt, Int.ofNat_le, Bool.not_eq_eq_eq_not, Bool.not_true, Bool.not_false] at hc1
    have hall : ons.all (fun o => decide (o.length ≤ 8)) = true := List.all_eq_true.2 (all_of (by omega) hq)
    refine SCode.exit ?_
    show SCode _ _ _ _
    refine SCode.seqR ?_
    refine SOps.move rfl ?_
    refine SOps.lenM rfl sliceB_28_51_2 ?_
    refine SOps.bin rfl rfl rfl ?_
    refine SOps.move rfl ?_
    refine SOps.caseB 25 rfl (fun hb3 => ?_) (fun hb3 => ?_)
    · try simp only [decide_eq_true_eq, decide_eq_false_iff_not, Bool.not_eq_true', Bool.not_eq_false', beq_iff_eq, bne_iff_ne, ne_eq, beq_eq_false_iff_ne, bne_eq_false_iff_eq, Int.not_lt, Int.not_le, Nat.not_lt, Nat.not_le, Int.ofNat_lt, Int.ofNat_le, Bool.not_eq_eq_eq_not, Bool.not_true, Bool.not_false] at hb3
      refine SOps.fieldPin rfl fieldB_24_0_0 ?_
      refine SOps.loadPin rfl flatB_22 ?_
      refine SOps.lenM rfl sliceB_22_33_1 ?_
      refine SOps.bin rfl rfl rfl ?_
      refine SOps.pick rfl rfl ?_
      refine SOps.move rfl ?_
      refine SOps.caseB 31 rfl (fun hb4 => ?_) (fun hb4 => ?_)
      · try simp only [decide_eq_true_eq, decide_eq_false_iff_not, Bool.not_eq_true', Bool.not_eq_false', beq_iff_eq, bne_iff_ne, ne_eq, beq_eq_false_iff_ne, bne_eq_false_iff_eq, Int.not_lt, Int.not_le, Nat.not_lt, Nat.not_le, Int.ofNat_lt, Int.ofNat_le, Bool.not_eq_eq_eq_not, Bool.not_true, Bool.not_false] at hb4
        refine SOps.move rfl ?_
        refine SOps.lenStr rfl strB_9 ?_
        refine SOps.bin rfl rfl rfl ?_
        refine SOps.pick rfl rfl ?_
        refine SOps.assign rfl ?_
        refine SOps.nil ?_
        refine SCode.ret ?_
        exact ⟨_, Res.one (.tmp rfl), congrArg (fun b => DV.v (.bool b)) (by rw [fewA, hall, Bool.true_and, Bool.eq_iff_iff]; simp only [Bool.and_eq_true, decide_eq_true_eq, Bool.false_eq_true, false_iff]; omega), rfl⟩
      · try simp only [decide_eq_true_eq, decide_eq_false_iff_not, Bool.not_eq_true', Bool.not_eq_false', beq_iff_eq, bne_iff_ne, ne_eq, beq_eq_false_iff_ne, bne_eq_false_iff_eq, Int.not_lt, Int.not_le, Nat.not_lt, Nat.not_le, Int.ofNat_lt, Int.ofNat_le, Bool.not_eq_eq_eq_not, Bool.not_true, Bool.not_false] at hb4
        refine SOps.skip rfl ?_
        refine SOps.skip rfl ?_
        refine SOps.skip rfl ?_
        refine SOps.pick rfl rfl ?_
        refine SOps.assign rfl ?_
        refine SOps.nil ?_
        refine SCode.ret ?_
        exact ⟨_, Res.one (.tmp rfl), congrArg (fun b => DV.v (.bool b)) (by rw [fewA, hall, Bool.true_and, Bool.eq_iff_iff]; simp only [Bool.and_eq_true, decide_eq_true_eq, Bool.false_eq_true, false_iff]; omega), rfl⟩
    · try simp only [decide_eq_true_eq, decide_eq_false_iff_not, Bool.not_eq_true', Bool.not_eq_false', beq_iff_eq, bne_iff_ne, ne_eq, beq_eq_false_iff_ne, bne_eq_false_iff_eq, Int.not_lt, Int.not_le, Nat.not_lt, Nat.not_le, Int.ofNat_lt, Int.ofNat_le, Bool.not_eq_eq_eq_not, Bool.not_true, Bool.not_false] at hb3
      refine SOps.skip rfl ?_
      refine SOps.skip rfl ?_
      refine SOps.skip rfl ?_
      refine SOps.skip rfl ?_
      refine SOps.pick rfl rfl ?_
      refine SOps.move rfl ?_
      refine SOps.skip rfl ?_
      refine SOps.skip rfl ?_
      refine SOps.skip rfl ?_
      refine SOps.pick rfl rfl ?_
      refine SOps.assign rfl ?_
      refine SOps.nil ?_
      refine SCode.ret ?_
      exact ⟨_, Res.one (.tmp rfl), congrArg (fun b => DV.v (.bool b)) (by rw [fewA, hall, Bool.true_and, Bool.eq_iff_iff]; simp only [Bool.and_eq_true, decide_eq_true_eq, Bool.false_eq_true, false_iff]; omega), rfl⟩
def HY (E : Env) : Prop := ∀ (s : ByteArray) (pts : List Int), s.size ≤ 65536 → pts.length ≤ 65536 → GCall Tryd.prog E 30 [.v (.string s), DInts pts] [] (fun d H => d = .v (.string (hyph pts s)) ∧ H = [])
theorem awSplit (hV : VS E) : GCall Tryd.prog E 23 [DLs awL, DP awO 2 2, .v (.string awS)] [] (fun d H => d = .tup [DStrs awP, .v (.int .i64 0)] ∧ H = []) := GCall.mono (sSplit hV _ _ _ _ _ (by decide)) (fun d H h => ⟨h.1.trans (by rw [aw_check, if_pos rfl, aw_split]), h.2⟩)
theorem awPoints (hV : VS E) : GCall Tryd.prog E 26 [DLs awL, DP awO 2 2, .v (.string awS)] [] (fun d H => d = .tup [DInts [3, 6], .v (.int .i64 0)] ∧ H = []) := GCall.mono (sPoints hV _ _ _ _ _ (by decide)) (fun d H h => ⟨h.1.trans (by rw [aw_check, if_pos rfl, aw_points]; rfl), h.2⟩)
theorem awSame  : GCall Tryd.prog E 25 [DStrs awP, DStrs awP] [] (fun d H => d = .v (.bool true) ∧ H = []) := GCall.mono (r1Same _ _) (fun d H h => ⟨h.1.trans (by rw [decide_eq_true rfl]), h.2⟩)
theorem awInts  : GCall Tryd.prog E 18 [DInts [3, 6], DInts [3, 6]] [] (fun d H => d = .v (.bool true) ∧ H = []) := GCall.mono (rInts _ _) (fun d H h => ⟨h.1.trans (by rw [decide_eq_true rfl]), h.2⟩)
theorem awHyph (hH : HY E) : GCall Tryd.prog E 30 [.v (.string awS), DInts [3, 6]] [] (fun d H => d = .v (.string awH) ∧ H = []) := GCall.mono (hH _ _ (by decide) (by decide)) (fun d H h => ⟨h.1.trans (by rw [aw_hyph]), h.2⟩)
theorem awTr  : GCall Tryd.prog E 21 [DLs awL, DP awO 2 2, .v (.string { data := #[116, 114] })] [] (fun d H => d = .v (.bool true) ∧ H = []) := GCall.mono (sOnset _ _ _ _ _ (by decide)) (fun d H h => ⟨h.1.trans (by rw [aw_tr]), h.2⟩)
theorem awRt  : GCall Tryd.prog E 21 [DLs awL, DP awO 2 2, .v (.string { data := #[114, 116] })] [] (fun d H => d = .v (.bool false) ∧ H = []) := GCall.mono (sOnset _ _ _ _ _ (by decide)) (fun d H h => ⟨h.1.trans (by rw [aw_rt]), h.2⟩)
theorem awake (hV : VS E) (hH : HY E)  : GCall Tryd.prog E 14 [] [] (fun d H => d = .v (.bool true) ∧ H = []) := by
  refine GCall.body (C := ⟨Tryd.prog, E, true⟩) Tryd.func14 rfl (fun _ => rfl) (by kernel_rfl) rfl ?_
  refine SCode.seqR ?_
  refine SOps.assign rfl ?_
  refine SOps.nil ?_
  refine SCode.seqR ?_
  refine SOps.buildM placesB_51 zeroIs_51 rfl rfl ?_
  refine SOps.buildM placesB_51 zeroIs_51 rfl rfl ?_
  refine SOps.buildM placesB_51 zeroIs_51 rfl rfl ?_
  refine SOps.buildM placesB_51 zeroIs_51 rfl rfl ?_
  refine SOps.buildM placesB_51 zeroIs_51 rfl rfl ?_
  refine SOps.litF rfl sliceB_28_51_2 zeroIs_51 rfl ?_
  refine SOps.assign rfl ?_
  refine SOps.nil ?_
  refine SCode.seqR ?_
  refine SOps.litF rfl sliceB_33_49_1 zeroIs_49 rfl ?_
  refine SOps.litF rfl sliceB_33_49_1 zeroIs_49 rfl ?_
  refine SOps.litF rfl sliceB_22_33_1 zeroIs_33 rfl ?_
  refine SOps.buildM placesB_24 zeroIs_24 rfl rfl ?_
  refine SOps.alloc (sz := 3) zeroIs_24 (fun b0 hb_0 => ?_)
  refine SOps.storeAM 0 rfl rfl aggB_24_3 rfl ?_
  refine SOps.freezeRef (t := 2) 0 0 rfl rfl rfl rfl rfl ?_
  refine SOps.nil ?_
  refine SCode.seqR ?_
  refine SOps.move rfl ?_
  refine SOps.loadPinA rfl aggB_24_3 (Nat.le_of_ble_eq_true rfl) ?_
  refine SOps.callP (awSplit hV) rfl ?_
  rintro _ rfl
  refine SOps.move rfl ?_
  refine SOps.extract rfl rfl ?_
  refine SOps.extract rfl rfl ?_
  refine SOps.assign rfl ?_
  refine SOps.assign rfl ?_
  refine SOps.nil ?_
  refine SCode.seqR ?_
  refine SOps.move rfl ?_
  refine SOps.loadPinA rfl aggB_24_3 (Nat.le_of_ble_eq_true rfl) ?_
  refine SOps.callP (awPoints hV) rfl ?_
  rintro _ rfl
  refine SOps.move rfl ?_
  refine SOps.extract rfl rfl ?_
  refine SOps.extract rfl rfl ?_
  refine SOps.assign rfl ?_
  refine SOps.assign rfl ?_
  refine SOps.nil ?_
  refine SCode.seqR ?_
  refine SOps.move rfl ?_
  refine SOps.bin rfl rfl rfl ?_
  refine SOps.move rfl ?_
  refine SOps.move rfl ?_
  refine SOps.bin rfl rfl rfl ?_
  refine SOps.pick rfl rfl ?_
  refine SOps.move rfl ?_
  refine SOps.move rfl ?_
  refine SOps.litF rfl sliceB_35_9_1 zeroIs_9 rfl ?_
  refine SOps.callP awSame rfl ?_
  rintro _ rfl
  refine SOps.pick rfl rfl ?_
  refine SOps.move rfl ?_
  refine SOps.move rfl ?_
  refine SOps.litF rfl sliceB_30_3_1 zeroIs_3 rfl ?_
  refine SOps.callP awInts rfl ?_
  rintro _ rfl
  refine SOps.pick rfl rfl ?_
  refine SOps.move rfl ?_
  refine SOps.move rfl ?_
  refine SOps.callP (awHyph hH) rfl ?_
  rintro _ rfl
  refine SOps.bin rfl rfl rfl ?_
  refine SOps.pick rfl rfl ?_
  refine SOps.move rfl ?_
  refine SOps.caseB 50 rfl (fun hb1 => ?_) (fun hb1 => ?_)
  · try simp only [decide_eq_true_eq, decide_eq_false_iff_not, Bool.not_eq_true', Bool.not_eq_false', beq_iff_eq, bne_iff_ne, ne_eq, beq_eq_false_iff_ne, bne_eq_false_iff_eq, Int.not_lt, Int.not_le, Nat.not_lt, Nat.not_le, Int.ofNat_lt, Int.ofNat_le, Bool.not_eq_eq_eq_not, Bool.not_true, Bool.not_false] at hb1
    refine SOps.move rfl ?_
    refine SOps.loadPinA rfl aggB_24_3 (Nat.le_of_ble_eq_true rfl) ?_
    refine SOps.callP awTr rfl ?_
    rintro _ rfl
    refine SOps.pick rfl rfl ?_
    refine SOps.move rfl ?_
    refine SOps.move rfl ?_
    refine SOps.loadPinA rfl aggB_24_3 (Nat.le_of_ble_eq_true rfl) ?_
    refine SOps.callP awRt rfl ?_
    rintro _ rfl
    refine SOps.un rfl rfl ?_
    refine SOps.pick rfl rfl ?_
    refine SOps.assign rfl ?_
    refine SOps.nil ?_
    refine SCode.ret ?_
    exact ⟨_, Res.one (.tmp rfl), rfl, rfl⟩
  · try simp only [decide_eq_true_eq, decide_eq_false_iff_not, Bool.not_eq_true', Bool.not_eq_false', beq_iff_eq, bne_iff_ne, ne_eq, beq_eq_false_iff_ne, bne_eq_false_iff_eq, Int.not_lt, Int.not_le, Nat.not_lt, Nat.not_le, Int.ofNat_lt, Int.ofNat_le, Bool.not_eq_eq_eq_not, Bool.not_true, Bool.not_false] at hb1
    all_goals (simp [awH] at hb1)
def AW (E : Env) : Prop := GCall Tryd.prog E 14 [] [] (fun d H => d = .v (.bool true) ∧ H = [])
theorem lawValid (hA : AW E) (ons : List (List Int)) (ml mr : Int)  : GCall Tryd.prog E 3 [DP ons ml mr] [] (fun d H => d = .v (.bool true) ∧ H = []) := by
  refine GCall.body (C := ⟨Tryd.prog, E, true⟩) Tryd.func3 rfl (fun _ => rfl) (by kernel_rfl) rfl ?_
  refine SCode.seqR ?_
  refine SOps.boxAM rfl rfl ?_
  refine SOps.assign rfl ?_
  refine SOps.nil ?_
  refine SCode.seq ?_
  refine SCode.seqR ?_
  refine SOps.callP hA rfl ?_
  rintro _ rfl
  refine SOps.un rfl rfl ?_
  refine SOps.move rfl ?_
  refine SOps.loadPinA rfl aggB_24_3 (Nat.le_of_ble_eq_true rfl) ?_
  refine SOps.callP (lFew [] _ _ _ .empty).nil0 rfl ?_
  rintro _ rfl
  refine SOps.un rfl rfl ?_
  refine SOps.pick rfl rfl ?_
  refine SOps.nil ?_
  refine SCode.cond rfl (fun hc1 => ?_) (fun hc1 => ?_)
  · try simp only [decide_eq_true_eq, decide_eq_false_iff_not, Bool.not_eq_true', Bool.not_eq_false', beq_iff_eq, bne_iff_ne, ne_eq, beq_eq_false_iff_ne, bne_eq_false_iff_eq, Int.not_lt, Int.not_le, Nat.not_lt, Nat.not_le, Int.ofNat_lt, Int.ofNat_le, Bool.not_eq_eq_eq_not, Bool.not_true, Bool.not_false] at hc1
    refine SCode.seqR ?_
    refine SOps.callP hA rfl ?_
    rintro _ rfl
    refine SOps.assign rfl ?_
    refine SOps.nil ?_
    refine SCode.ret ?_
    exact ⟨_, Res.one (.tmp rfl), rfl, rfl⟩
  · try simp only [decide_eq_true_eq, decide_eq_false_iff_not, Bool.not_eq_true', Bool.not_eq_false', beq_iff_eq, bne_iff_ne, ne_eq, beq_eq_false_iff_ne, bne_eq_false_iff_eq, Int.not_lt, Int.not_le, Nat.not_lt, Nat.not_le, Int.ofNat_lt, Int.ofNat_le, Bool.not_eq_eq_eq_not, Bool.not_true, Bool.not_false] at hc1
    refine SCode.skip ?_
    show SCode _ _ _ _
    refine SCode.seq ?_
    refine SCode.drawPure mixed_ [(11, DP ons ml mr), (12, .v (.bool (validP ons ml mr))), (13, DP ons ml mr), (14, .v (.bool (validP ons ml mr))), (15, .v (.bool (validP ons ml mr == validP ons ml mr))), (2, .v (.bool true))] [11, 12, 13, 14, 15, 2] [[.inr 1], [.inl 0], [.inr 1], [.inl 2], [.inl 1, .inl 3], [.inl 4]] [[(1, .ipin [DOns ons, .v (.int .i64 ml), .v (.int .i64 mr)])], [(11, DP ons ml mr)], [(1, .ipin [DOns ons, .v (.int .i64 ml), .v (.int .i64 mr)])], [(13, DP ons ml mr)], [(12, .v (.bool (validP ons ml mr))), (14, .v (.bool (validP ons ml mr)))], [(15, .v (.bool (validP ons ml mr == validP ons ml mr)))]] rfl (by kernel_rfl) (by kernel_rfl) rfl ?_ ?_
    · refine OpsOk.cons (fun rest => ?_) ?_
      · refine SOps.loadPinA rfl aggB_24_3 (Nat.le_of_ble_eq_true rfl) ?_
        exact SOps.nil (by first | rfl | simp_all)
      refine OpsOk.cons (fun rest => ?_) ?_
      · refine SOps.callP (sValid _ _ _) rfl ?_
        rintro _ rfl
        exact SOps.nil (by first | rfl | simp_all)
      refine OpsOk.cons (fun rest => ?_) ?_
      · refine SOps.loadPinA rfl aggB_24_3 (Nat.le_of_ble_eq_true rfl) ?_
        exact SOps.nil (by first | rfl | simp_all)
      refine OpsOk.cons (fun rest => ?_) ?_
      · refine SOps.callP (rValid _ _ _) rfl ?_
        rintro _ rfl
        exact SOps.nil (by first | rfl | simp_all)
      refine OpsOk.cons (fun rest => ?_) ?_
      · refine SOps.boolEq rfl rfl boolTy_4 ?_
        exact SOps.nil (by first | rfl | simp_all)
      refine OpsOk.cons (fun rest => ?_) ?_
      · refine SOps.assign rfl ?_
        exact SOps.nil (by rw [beq_self_eq_true]; rfl)
      exact OpsOk.nil
    · show SCode _ _ _ _
      refine SCode.ret ?_
      exact ⟨_, Res.one (.tmp rfl), rfl, rfl⟩
end Go.GH
