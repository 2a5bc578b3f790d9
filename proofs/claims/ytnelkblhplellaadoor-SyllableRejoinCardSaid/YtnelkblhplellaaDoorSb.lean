/-
  The walks of the functions on syllables: each returns what its plain definition says. No conditions.
-/
import Derived.Test.YtnelkblhplellaaDoorHb
import Derived.Test.YtnelkblhplellaaDoorSa
set_option linter.unusedVariables false
set_option linter.unusedSimpArgs false
namespace Go.GH
open Go Go.Proofs
variable {E : Env}
theorem aggB_24_3 : aggB Tryd.prog 24 3 = true := by kernel_rfl
theorem elemB_3_1_8 : elemB Tryd.prog 3 1 8 = true := by kernel_rfl
theorem elemB_5_1_1 : elemB Tryd.prog 5 1 1 = true := by kernel_rfl
theorem elemB_9_1_16 : elemB Tryd.prog 9 1 16 = true := by kernel_rfl
theorem fieldB_24_0_0 : fieldB Tryd.prog 24 0 0 = true := by kernel_rfl
theorem fieldB_24_1_1 : fieldB Tryd.prog 24 1 1 = true := by kernel_rfl
theorem fieldB_24_2_2 : fieldB Tryd.prog 24 2 2 = true := by kernel_rfl
theorem flatB_22 : flatB Tryd.prog 22 = true := by kernel_rfl
theorem flatB_28 : flatB Tryd.prog 28 = true := by kernel_rfl
theorem flatB_3 : flatB Tryd.prog 3 = true := by kernel_rfl
theorem flatB_33 : flatB Tryd.prog 33 = true := by kernel_rfl
theorem flatB_40 : flatB Tryd.prog 40 = true := by kernel_rfl
theorem intB_5_u8 : intB Tryd.prog 5 .u8 = true := by kernel_rfl
theorem oneB_40 : oneB Tryd.prog 40 = true := by kernel_rfl
theorem sliceB_22_33_1 : sliceB Tryd.prog 22 33 1 = true := by kernel_rfl
theorem sliceB_30_3_1 : sliceB Tryd.prog 30 3 1 = true := by kernel_rfl
theorem sliceB_33_49_1 : sliceB Tryd.prog 33 49 1 = true := by kernel_rfl
theorem sliceB_66_5_1 : sliceB Tryd.prog 66 5 1 = true := by kernel_rfl
theorem someB_21 : (Tryd.prog.underlying 21).isSome = true := by kernel_rfl
theorem zeroIs_40 : zeroIs Tryd.prog 40 (.slice none 0 0) := by unfold zeroIs; kernel_rfl
theorem zeroIs_5 : zeroIs Tryd.prog 5 (.int .u8 0) := by unfold zeroIs; kernel_rfl
theorem zeroIs_9 : zeroIs Tryd.prog 9 (.string .empty) := by unfold zeroIs; kernel_rfl
theorem sValid1 (n : Int)  : GCall Tryd.prog E 34 [.v (.int .i64 n)] [] (fun d H => d = .v (.bool (sideOK n)) ∧ H = []) := by
  refine GCall.body (C := ⟨Tryd.prog, E, true⟩) Tryd.func34 rfl (fun _ => rfl) (by kernel_rfl) rfl ?_
  refine SCode.seqR ?_
  refine SOps.assign rfl ?_
  refine SOps.nil ?_
  refine SCode.seqR ?_
  refine SOps.move rfl ?_
  refine SOps.bin rfl rfl rfl ?_
  refine SOps.move rfl ?_
  refine SOps.caseB 5 rfl (fun hb1 => ?_) (fun hb1 => ?_)
  · try simp only [decide_eq_true_eq, decide_eq_false_iff_not, Bool.not_eq_true', Bool.not_eq_false', beq_iff_eq, bne_iff_ne, ne_eq, beq_eq_false_iff_ne, bne_eq_false_iff_eq, Int.not_lt, Int.not_le, Nat.not_lt, Nat.not_le, Int.ofNat_lt, Int.ofNat_le, Bool.not_eq_eq_eq_not, Bool.not_true, Bool.not_false] at hb1
    refine SOps.move rfl ?_
    refine SOps.bin rfl rfl rfl ?_
    refine SOps.pick rfl rfl ?_
    refine SOps.assign rfl ?_
    refine SOps.nil ?_
    refine SCode.ret ?_
    exact ⟨_, Res.one (.tmp rfl), congrArg (fun b => DV.v (.bool b)) (by rw [Bool.eq_iff_iff]; simp only [sideOK, Bool.and_eq_true, decide_eq_true_eq, Bool.false_eq_true, Bool.true_eq_false, beq_iff_eq]; first | omega | (simp; omega)), rfl⟩
  · try simp only [decide_eq_true_eq, decide_eq_false_iff_not, Bool.not_eq_true', Bool.not_eq_false', beq_iff_eq, bne_iff_ne, ne_eq, beq_eq_false_iff_ne, bne_eq_false_iff_eq, Int.not_lt, Int.not_le, Nat.not_lt, Nat.not_le, Int.ofNat_lt, Int.ofNat_le, Bool.not_eq_eq_eq_not, Bool.not_true, Bool.not_false] at hb1
    refine SOps.skip rfl ?_
    refine SOps.skip rfl ?_
    refine SOps.pick rfl rfl ?_
    refine SOps.assign rfl ?_
    refine SOps.nil ?_
    refine SCode.ret ?_
    exact ⟨_, Res.one (.tmp rfl), congrArg (fun b => DV.v (.bool b)) (by rw [Bool.eq_iff_iff]; simp only [sideOK, Bool.and_eq_true, decide_eq_true_eq, Bool.false_eq_true, Bool.true_eq_false, beq_iff_eq]; first | omega | (simp; omega)), rfl⟩
theorem sValid2 (o : List Int)  : GCall Tryd.prog E 36 [DMasks o] [] (fun d H => d = .v (.bool (decide (4 < o.length))) ∧ H = []) := by
  refine GCall.body (C := ⟨Tryd.prog, E, true⟩) Tryd.func36 rfl (fun _ => rfl) (by kernel_rfl) rfl ?_
  refine SCode.seqR ?_
  refine SOps.assign rfl ?_
  refine SOps.nil ?_
  refine SCode.seqR ?_
  refine SOps.move rfl ?_
  refine SOps.lenM rfl sliceB_33_49_1 ?_
  refine SOps.bin rfl rfl rfl ?_
  refine SOps.assign rfl ?_
  refine SOps.nil ?_
  refine SCode.ret ?_
  exact ⟨_, Res.one (.tmp rfl), congrArg (fun b => DV.v (.bool b)) (by rw [Bool.eq_iff_iff]; simp only [Bool.and_eq_true, decide_eq_true_eq, Bool.false_eq_true, Bool.true_eq_false, beq_iff_eq]; first | omega | (simp; omega)), rfl⟩
theorem lIndexFunc {f : FuncId} {cap : List DV} (q : List Int → Bool) (ons : List (List Int)) (hf : ∀ x, GCall Tryd.prog E f (encO x ++ cap) [] (fun d H => d = .v (.bool (q x)) ∧ H = [])) : GCall Tryd.prog E 53 [DOns ons, .fn f cap] [] (fun d H => d = .v (.int .i64 (findI q ons)) ∧ H = []) := by
  refine GCall.body (C := ⟨Tryd.prog, E, true⟩) Tryd.func53 rfl (fun _ => rfl) (by kernel_rfl) rfl ?_
  refine SCode.seqR ?_
  refine SOps.assign rfl ?_
  refine SOps.nil ?_
  refine SCode.seq ?_
  refine SCode.seqR ?_
  refine SOps.move rfl ?_
  refine SOps.lenM rfl sliceB_22_33_1 ?_
  refine SOps.move rfl ?_
  refine SOps.nil ?_
  refine SCode.block ?_
  refine SCode.loop1 (fun (i : Nat) => (⟨19, [(0, DOns ons), (1, .fn f cap), (4, .v (.int .i64 0)), (7, .v (.int .i64 (ons.length : Int))), (8, .v (.int .i64 (i : Int)))], []⟩ : St)) (fun (i : Nat) => i ≤ ons.length ∧ ∀ x ∈ ons.take i, q x = false) (fun (i : Nat) => ons.length - i) (0) (by simp) (St.Le.of ⟨(by first | rfl | (show some _ = some _; simp)), (by first | rfl | (show some _ = some _; simp)), (by first | rfl | (show some _ = some _; simp)), (by first | rfl | (show some _ = some _; simp)), (by first | rfl | (show some _ = some _; simp)), trivial⟩ rfl (by first | rfl | (simp))) ?_
  rintro i ⟨hi, hq⟩
  refine SCode.fact (isl_len (t := 0) rfl) (fun hB => ?_)
  simp only [List.length_map, lenB] at hB
  refine SCode.seqR ?_
  refine SOps.bin rfl rfl rfl ?_
  refine SOps.nil ?_
  refine SCode.seq ?_
  refine SCode.cond rfl (fun hc1 => ?_) (fun hc1 => ?_)
  · try simp only [decide_eq_true_eq, decide_eq_false_iff_not, Bool.not_eq_true', Bool.not_eq_false', beq_iff_eq, bne_iff_ne, ne_eq, beq_eq_false_iff_ne, bne_eq_false_iff_eq, Int.not_lt, Int.not_le, Nat.not_lt, Nat.not_le, Int.ofNat_lt, Int.ofNat_le, Bool.not_eq_eq_eq_not, Bool.not_true, Bool.not_false] at hc1
    refine SCode.skip ?_
    show SCode _ _ _ _
    refine SCode.seq ?_
    refine SCode.block ?_
    refine SCode.seqR ?_
    refine SOps.move rfl ?_
    refine SOps.assign rfl ?_
    refine SOps.nil ?_
    refine SCode.seqR ?_
    refine SOps.move rfl ?_
    refine SOps.move rfl ?_
    refine SOps.move rfl ?_
    refine SOps.indexM (i) rfl rfl sliceB_22_33_1 (by omega) (by omega) ?_
    refine SOps.loadPin rfl flatB_33 ?_
    refine SOps.callFn (ds := [_]) rfl (hf _) rfl ?_
    rintro _ _ ⟨rfl, rfl⟩
    refine SOps.nil ?_
    refine SCode.cond rfl (fun hc2 => ?_) (fun hc2 => ?_)
    · try simp only [decide_eq_true_eq, decide_eq_false_iff_not, Bool.not_eq_true', Bool.not_eq_false', beq_iff_eq, bne_iff_ne, ne_eq, beq_eq_false_iff_ne, bne_eq_false_iff_eq, Int.not_lt, Int.not_le, Nat.not_lt, Nat.not_le, Int.ofNat_lt, Int.ofNat_le, Bool.not_eq_eq_eq_not, Bool.not_true, Bool.not_false] at hc2
      refine SCode.seqR ?_
      refine SOps.move rfl ?_
      refine SOps.assign rfl ?_
      refine SOps.nil ?_
      refine SCode.ret ?_
      exact ⟨_, Res.one (.tmp rfl), by rw [findI_at hq (by omega) hc2], rfl⟩
    · try simp only [decide_eq_true_eq, decide_eq_false_iff_not, Bool.not_eq_true', Bool.not_eq_false', beq_iff_eq, bne_iff_ne, ne_eq, beq_eq_false_iff_ne, bne_eq_false_iff_eq, Int.not_lt, Int.not_le, Nat.not_lt, Nat.not_le, Int.ofNat_lt, Int.ofNat_le, Bool.not_eq_eq_eq_not, Bool.not_true, Bool.not_false] at hc2
      refine SCode.skip ?_
      show SCode _ _ _ _
      refine SCode.region ?_
      refine SOps.addI rfl rfl (by omega) (by omega) ?_
      refine SOps.move rfl ?_
      refine SOps.nil ?_
      exact ⟨i + 1, by exact ⟨by omega, take_more hq (by omega) hc2⟩, by omega, (St.Le.of ⟨(by first | rfl | (show some _ = some _; simp)), (by first | rfl | (show some _ = some _; simp)), (by first | rfl | (show some _ = some _; simp)), (by first | rfl | (show some _ = some _; simp)), (by first | rfl | (show some _ = some _; simp)), trivial⟩ rfl (by first | rfl | (simp)))⟩
  · try simp only [decide_eq_true_eq, decide_eq_false_iff_not, Bool.not_eq_true', Bool.not_eq_false', beq_iff_eq, bne_iff_ne, ne_eq, beq_eq_false_iff_ne, bne_eq_false_iff_eq, Int.not_lt, Int.not_le, Nat.not_lt, Nat.not_le, Int.ofNat_lt, Int.ofNat_le, Bool.not_eq_eq_eq_not, Bool.not_true, Bool.not_false] at hc1
    refine SCode.exit ?_
    show SCode _ _ _ _
    refine SCode.seqR ?_
    refine SOps.assign rfl ?_
    refine SOps.nil ?_
    refine SCode.ret ?_
    exact ⟨_, Res.one (.tmp rfl), by rw [findI_none (all_of (by omega) hq)], rfl⟩
theorem lContainsFunc {f : FuncId} {cap : List DV} (q : List Int → Bool) (ons : List (List Int)) (hf : ∀ x, GCall Tryd.prog E f (encO x ++ cap) [] (fun d H => d = .v (.bool (q x)) ∧ H = [])) : GCall Tryd.prog E 35 [DOns ons, .fn f cap] [] (fun d H => d = .v (.bool (ons.any q)) ∧ H = []) := by
  refine GCall.body (C := ⟨Tryd.prog, E, true⟩) Tryd.func35 rfl (fun _ => rfl) (by kernel_rfl) rfl ?_
  refine SCode.seqR ?_
  refine SOps.assign rfl ?_
  refine SOps.nil ?_
  refine SCode.seqR ?_
  refine SOps.move rfl ?_
  refine SOps.move rfl ?_
  refine SOps.callP (lIndexFunc _ _ hf) rfl ?_
  rintro _ rfl
  refine SOps.bin rfl rfl rfl ?_
  refine SOps.assign rfl ?_
  refine SOps.nil ?_
  refine SCode.ret ?_
  exact ⟨_, Res.one (.tmp rfl), congrArg (fun b => DV.v (.bool b)) findI_nonneg, rfl⟩
theorem sValid (ons : List (List Int)) (ml mr : Int)  : GCall Tryd.prog E 16 [DP ons ml mr] [] (fun d H => d = .v (.bool (validP ons ml mr)) ∧ H = []) := by
  refine GCall.body (C := ⟨Tryd.prog, E, true⟩) Tryd.func16 rfl (fun _ => rfl) (by kernel_rfl) rfl ?_
  refine SCode.seqR ?_
  refine SOps.boxAM rfl rfl ?_
  refine SOps.assign rfl ?_
  refine SOps.nil ?_
  refine SCode.seqR ?_
  refine SOps.assign rfl ?_
  refine SOps.nil ?_
  refine SCode.seqR ?_
  refine SOps.fieldPin rfl fieldB_24_0_0 ?_
  refine SOps.loadPin rfl flatB_22 ?_
  refine SOps.lenM rfl sliceB_22_33_1 ?_
  refine SOps.bin rfl rfl rfl ?_
  refine SOps.move rfl ?_
  refine SOps.caseB 8 rfl (fun hb1 => ?_) (fun hb1 => ?_)
  · try simp only [decide_eq_true_eq, decide_eq_false_iff_not, Bool.not_eq_true', Bool.not_eq_false', beq_iff_eq, bne_iff_ne, ne_eq, beq_eq_false_iff_ne, bne_eq_false_iff_eq, Int.not_lt, Int.not_le, Nat.not_lt, Nat.not_le, Int.ofNat_lt, Int.ofNat_le, Bool.not_eq_eq_eq_not, Bool.not_true, Bool.not_false] at hb1
    refine SOps.move rfl ?_
    refine SOps.fieldPin rfl fieldB_24_1_1 ?_
    refine SOps.loadPin rfl flatB_3 ?_
    refine SOps.callFn (ds := [_]) rfl (sValid1 _) rfl ?_
    rintro _ _ ⟨rfl, rfl⟩
    refine SOps.pick rfl rfl ?_
    refine SOps.move rfl ?_
    refine SOps.caseB 14 rfl (fun hb2 => ?_) (fun hb2 => ?_)
    · try simp only [decide_eq_true_eq, decide_eq_false_iff_not, Bool.not_eq_true', Bool.not_eq_false', beq_iff_eq, bne_iff_ne, ne_eq, beq_eq_false_iff_ne, bne_eq_false_iff_eq, Int.not_lt, Int.not_le, Nat.not_lt, Nat.not_le, Int.ofNat_lt, Int.ofNat_le, Bool.not_eq_eq_eq_not, Bool.not_true, Bool.not_false] at hb2
      refine SOps.move rfl ?_
      refine SOps.fieldPin rfl fieldB_24_2_2 ?_
      refine SOps.loadPin rfl flatB_3 ?_
      refine SOps.callFn (ds := [_]) rfl (sValid1 _) rfl ?_
      rintro _ _ ⟨rfl, rfl⟩
      refine SOps.pick rfl rfl ?_
      refine SOps.move rfl ?_
      refine SOps.caseB 20 rfl (fun hb3 => ?_) (fun hb3 => ?_)
      · try simp only [decide_eq_true_eq, decide_eq_false_iff_not, Bool.not_eq_true', Bool.not_eq_false', beq_iff_eq, bne_iff_ne, ne_eq, beq_eq_false_iff_ne, bne_eq_false_iff_eq, Int.not_lt, Int.not_le, Nat.not_lt, Nat.not_le, Int.ofNat_lt, Int.ofNat_le, Bool.not_eq_eq_eq_not, Bool.not_true, Bool.not_false] at hb3
        refine SOps.fieldPin rfl fieldB_24_0_0 ?_
        refine SOps.loadPin rfl flatB_22 ?_
        refine SOps.callP (lContainsFunc (fun o => decide (4 < o.length)) _ (fun x => sValid2 x)) rfl ?_
        rintro _ rfl
        refine SOps.un rfl rfl ?_
        refine SOps.pick rfl rfl ?_
        refine SOps.assign rfl ?_
        refine SOps.nil ?_
        refine SCode.ret ?_
        exact ⟨_, Res.one (.tmp rfl), congrArg (fun b => DV.v (.bool b)) (by simp only [validP]; first | (have h0 : ons.length ≤ 32 := (by omega); simp_all; done) | (rw [decide_eq_false (show ¬ ons.length ≤ 32 by omega)]; rfl)), rfl⟩
      · try simp only [decide_eq_true_eq, decide_eq_false_iff_not, Bool.not_eq_true', Bool.not_eq_false', beq_iff_eq, bne_iff_ne, ne_eq, beq_eq_false_iff_ne, bne_eq_false_iff_eq, Int.not_lt, Int.not_le, Nat.not_lt, Nat.not_le, Int.ofNat_lt, Int.ofNat_le, Bool.not_eq_eq_eq_not, Bool.not_true, Bool.not_false] at hb3
        refine SOps.skip rfl ?_
        refine SOps.skip rfl ?_
        refine SOps.skip rfl ?_
        refine SOps.skip rfl ?_
        refine SOps.pick rfl rfl ?_
        refine SOps.assign rfl ?_
        refine SOps.nil ?_
        refine SCode.ret ?_
        exact ⟨_, Res.one (.tmp rfl), congrArg (fun b => DV.v (.bool b)) (by simp only [validP]; first | (have h0 : ons.length ≤ 32 := (by omega); simp_all; done) | (rw [decide_eq_false (show ¬ ons.length ≤ 32 by omega)]; rfl)), rfl⟩
    · try simp only [decide_eq_true_eq, decide_eq_false_iff_not, Bool.not_eq_true', Bool.not_eq_false', beq_iff_eq, bne_iff_ne, ne_eq, beq_eq_false_iff_ne, bne_eq_false_iff_eq, Int.not_lt, Int.not_le, Nat.not_lt, Nat.not_le, Int.ofNat_lt, Int.ofNat_le, Bool.not_eq_eq_eq_not, Bool.not_true, Bool.not_false] at hb2
      refine SOps.skip rfl ?_
      refine SOps.skip rfl ?_
      refine SOps.skip rfl ?_
      refine SOps.skip rfl ?_
      refine SOps.pick rfl rfl ?_
      refine SOps.move rfl ?_
      refine SOps.skip rfl ?_
      refine SOps.skip rfl ?_
      refine SOps.skip rfl ?_
      refine SOps.skip rfl ?_
      refine SOps.pick rfl rfl ?_
      refine SOps.assign rfl ?_
      refine SOps.nil ?_
      refine SCode.ret ?_
      exact ⟨_, Res.one (.tmp rfl), congrArg (fun b => DV.v (.bool b)) (by simp only [validP]; first | (have h0 : ons.length ≤ 32 := (by omega); simp_all; done) | (rw [decide_eq_false (show ¬ ons.length ≤ 32 by omega)]; rfl)), rfl⟩
  · try simp only [decide_eq_true_eq, decide_eq_false_iff_not, Bool.not_eq_true', Bool.not_eq_false', beq_iff_eq, bne_iff_ne, ne_eq, beq_eq_false_iff_ne, bne_eq_false_iff_eq, Int.not_lt, Int.not_le, Nat.not_lt, Nat.not_le, Int.ofNat_lt, Int.ofNat_le, Bool.not_eq_eq_eq_not, Bool.not_true, Bool.not_false] at hb1
    refine SOps.skip rfl ?_
    refine SOps.skip rfl ?_
    refine SOps.skip rfl ?_
    refine SOps.skip rfl ?_
    refine SOps.pick rfl rfl ?_
    refine SOps.move rfl ?_
    refine SOps.skip rfl ?_
    refine SOps.skip rfl ?_
    refine SOps.skip rfl ?_
    refine SOps.skip rfl ?_
    refine SOps.pick rfl rfl ?_
    refine SOps.move rfl ?_
    refine SOps.skip rfl ?_
    refine SOps.skip rfl ?_
    refine SOps.skip rfl ?_
    refine SOps.skip rfl ?_
    refine SOps.pick rfl rfl ?_
    refine SOps.assign rfl ?_
    refine SOps.nil ?_
    refine SCode.ret ?_
    exact ⟨_, Res.one (.tmp rfl), congrArg (fun b => DV.v (.bool b)) (by simp only [validP]; first | (have h0 : ons.length ≤ 32 := (by omega); simp_all; done) | (rw [decide_eq_false (show ¬ ons.length ≤ 32 by omega)]; rfl)), rfl⟩
theorem rValid (ons : List (List Int)) (ml mr : Int)  : GCall Tryd.prog E 17 [DP ons ml mr] [] (fun d H => d = .v (.bool (validP ons ml mr)) ∧ H = []) := by
  refine GCall.body (C := ⟨Tryd.prog, E, true⟩) Tryd.func17 rfl (fun _ => rfl) (by kernel_rfl) rfl ?_
  refine SCode.seqR ?_
  refine SOps.boxAM rfl rfl ?_
  refine SOps.assign rfl ?_
  refine SOps.nil ?_
  refine SCode.seq ?_
  refine SCode.seqR ?_
  refine SOps.assign rfl ?_
  refine SOps.nil ?_
  refine SCode.block ?_
  refine SCode.loop1 (fun (i : Nat) => (⟨42, [(1, .ipin [DOns ons, .v (.int .i64 ml), .v (.int .i64 mr)]), (2, .v (.bool false)), (3, .v (.int .i64 (i : Int)))], []⟩ : St)) (fun (i : Nat) => i ≤ ons.length ∧ ∀ x ∈ ons.take i, decide (4 < x.length) = false) (fun (i : Nat) => ons.length - i) (0) (by simp) (St.Le.of ⟨(by first | rfl | (show some _ = some _; simp)), (by first | rfl | (show some _ = some _; simp)), (by first | rfl | (show some _ = some _; simp)), trivial⟩ rfl (by first | rfl | (simp))) ?_
  rintro i ⟨hi, hq⟩
  refine SCode.seq ?_
  refine SCode.seqR ?_
  refine SOps.move rfl ?_
  refine SOps.fieldPin rfl fieldB_24_0_0 ?_
  refine SOps.loadPin rfl flatB_22 ?_
  refine SOps.fact (isl_len (t := 6) rfl) (fun hB => ?_)
  simp only [List.length_map, lenB] at hB
  refine SOps.lenM rfl sliceB_22_33_1 ?_
  refine SOps.bin rfl rfl rfl ?_
  refine SOps.nil ?_
  refine SCode.cond rfl (fun hc1 => ?_) (fun hc1 => ?_)
  · try simp only [decide_eq_true_eq, decide_eq_false_iff_not, Bool.not_eq_true', Bool.not_eq_false', beq_iff_eq, bne_iff_ne, ne_eq, beq_eq_false_iff_ne, bne_eq_false_iff_eq, Int.not_lt, Int.not_le, Nat.not_lt, Nat.not_le, Int.ofNat_lt, Int.ofNat_le, Bool.not_eq_eq_eq_not, Bool.not_true, Bool.not_false] at hc1
    refine SCode.skip ?_
    show SCode _ _ _ _
    refine SCode.seq ?_
    refine SCode.block ?_
    refine SCode.seqR ?_
    refine SOps.fieldPin rfl fieldB_24_0_0 ?_
    refine SOps.loadPin rfl flatB_22 ?_
    refine SOps.move rfl ?_
    refine SOps.indexM (i) rfl rfl sliceB_22_33_1 (by omega) (by omega) ?_
    refine SOps.loadPin rfl flatB_33 ?_
    refine SOps.lenM rfl sliceB_33_49_1 ?_
    refine SOps.bin rfl rfl rfl ?_
    refine SOps.nil ?_
    refine SCode.cond rfl (fun hc2 => ?_) (fun hc2 => ?_)
    · try simp only [decide_eq_true_eq, decide_eq_false_iff_not, Bool.not_eq_true', Bool.not_eq_false', beq_iff_eq, bne_iff_ne, ne_eq, beq_eq_false_iff_ne, bne_eq_false_iff_eq, Int.not_lt, Int.not_le, Nat.not_lt, Nat.not_le, Int.ofNat_lt, Int.ofNat_le, Bool.not_eq_eq_eq_not, Bool.not_true, Bool.not_false] at hc2
      refine SCode.seqR ?_
      refine SOps.assign rfl ?_
      refine SOps.nil ?_
      refine SCode.ret ?_
      exact ⟨_, Res.one (.tmp rfl), congrArg (fun b => DV.v (.bool b)) (by rw [validP, List.any_eq_true.2 ⟨_, List.getElem_mem (show i < ons.length by omega), decide_eq_true (by omega)⟩]; simp), rfl⟩
    · try simp only [decide_eq_true_eq, decide_eq_false_iff_not, Bool.not_eq_true', Bool.not_eq_false', beq_iff_eq, bne_iff_ne, ne_eq, beq_eq_false_iff_ne, bne_eq_false_iff_eq, Int.not_lt, Int.not_le, Nat.not_lt, Nat.not_le, Int.ofNat_lt, Int.ofNat_le, Bool.not_eq_eq_eq_not, Bool.not_true, Bool.not_false] at hc2
      refine SCode.skip ?_
      show SCode _ _ _ _
      refine SCode.region ?_
      refine SOps.move rfl ?_
      refine SOps.addI rfl rfl (by omega) (by omega) ?_
      refine SOps.assign rfl ?_
      refine SOps.nil ?_
      exact ⟨i + 1, by exact ⟨by omega, take_more hq (by omega) (decide_eq_false (by omega))⟩, by omega, (St.Le.of ⟨(by first | rfl | (show some _ = some _; simp)), (by first | rfl | (show some _ = some _; simp)), (by first | rfl | (show some _ = some _; simp)), trivial⟩ rfl (by first | rfl | (simp)))⟩
  · try simp only [decide_eq_true_eq, decide_eq_false_iff_not, Bool.not_eq_true', Bool.not_eq_false', beq_iff_eq, bne_iff_ne, ne_eq, beq_eq_false_iff_ne, bne_eq_false_iff_eq, Int.not_lt, Int.not_le, Nat.not_lt, Nat.not_le, Int.ofNat_lt, Int.ofNat_le, Bool.not_eq_eq_eq_not, Bool.not_true, Bool.not_false] at hc1
    refine SCode.exit ?_
    show SCode _ _ _ _
    refine SCode.seqR ?_
    have hany : ons.any (fun o => decide (4 < o.length)) = false := List.any_eq_false.2 (fun x hx => by rw [all_of (by omega) hq x hx]; simp)
    refine SOps.fieldPin rfl fieldB_24_0_0 ?_
    refine SOps.loadPin rfl flatB_22 ?_
    refine SOps.lenM rfl sliceB_22_33_1 ?_
    refine SOps.bin rfl rfl rfl ?_
    refine SOps.move rfl ?_
    refine SOps.caseB 22 rfl (fun hb3 => ?_) (fun hb3 => ?_)
    · try simp only [decide_eq_true_eq, decide_eq_false_iff_not, Bool.not_eq_true', Bool.not_eq_false', beq_iff_eq, bne_iff_ne, ne_eq, beq_eq_false_iff_ne, bne_eq_false_iff_eq, Int.not_lt, Int.not_le, Nat.not_lt, Nat.not_le, Int.ofNat_lt, Int.ofNat_le, Bool.not_eq_eq_eq_not, Bool.not_true, Bool.not_false] at hb3
      refine SOps.fieldPin rfl fieldB_24_1_1 ?_
      refine SOps.loadPin rfl flatB_3 ?_
      refine SOps.bin rfl rfl rfl ?_
      refine SOps.pick rfl rfl ?_
      refine SOps.move rfl ?_
      refine SOps.caseB 27 rfl (fun hb4 => ?_) (fun hb4 => ?_)
      · try simp only [decide_eq_true_eq, decide_eq_false_iff_not, Bool.not_eq_true', Bool.not_eq_false', beq_iff_eq, bne_iff_ne, ne_eq, beq_eq_false_iff_ne, bne_eq_false_iff_eq, Int.not_lt, Int.not_le, Nat.not_lt, Nat.not_le, Int.ofNat_lt, Int.ofNat_le, Bool.not_eq_eq_eq_not, Bool.not_true, Bool.not_false] at hb4
        refine SOps.fieldPin rfl fieldB_24_1_1 ?_
        refine SOps.loadPin rfl flatB_3 ?_
        refine SOps.bin rfl rfl rfl ?_
        refine SOps.pick rfl rfl ?_
        refine SOps.move rfl ?_
        refine SOps.caseB 32 rfl (fun hb5 => ?_) (fun hb5 => ?_)
        · try simp only [decide_eq_true_eq, decide_eq_false_iff_not, Bool.not_eq_true', Bool.not_eq_false', beq_iff_eq, bne_iff_ne, ne_eq, beq_eq_false_iff_ne, bne_eq_false_iff_eq, Int.not_lt, Int.not_le, Nat.not_lt, Nat.not_le, Int.ofNat_lt, Int.ofNat_le, Bool.not_eq_eq_eq_not, Bool.not_true, Bool.not_false] at hb5
          refine SOps.fieldPin rfl fieldB_24_2_2 ?_
          refine SOps.loadPin rfl flatB_3 ?_
          refine SOps.bin rfl rfl rfl ?_
          refine SOps.pick rfl rfl ?_
          refine SOps.move rfl ?_
          refine SOps.caseB 37 rfl (fun hb6 => ?_) (fun hb6 => ?_)
          · try simp only [decide_eq_true_eq, decide_eq_false_iff_not, Bool.not_eq_true', Bool.not_eq_false', beq_iff_eq, bne_iff_ne, ne_eq, beq_eq_false_iff_ne, bne_eq_false_iff_eq, Int.not_lt, Int.not_le, Nat.not_lt, Nat.not_le, Int.ofNat_lt, Int.ofNat_le, Bool.not_eq_eq_eq_not, Bool.not_true, Bool.not_false] at hb6
            refine SOps.fieldPin rfl fieldB_24_2_2 ?_
            refine SOps.loadPin rfl flatB_3 ?_
            refine SOps.bin rfl rfl rfl ?_
            refine SOps.pick rfl rfl ?_
            refine SOps.assign rfl ?_
            refine SOps.nil ?_
            refine SCode.ret ?_
            exact ⟨_, Res.one (.tmp rfl), congrArg (fun b => DV.v (.bool b)) (by rw [Bool.eq_iff_iff]; simp [validP, sideOK, hany, -Int.reduceLE]; omega), rfl⟩
          · try simp only [decide_eq_true_eq, decide_eq_false_iff_not, Bool.not_eq_true', Bool.not_eq_false', beq_iff_eq, bne_iff_ne, ne_eq, beq_eq_false_iff_ne, bne_eq_false_iff_eq, Int.not_lt, Int.not_le, Nat.not_lt, Nat.not_le, Int.ofNat_lt, Int.ofNat_le, Bool.not_eq_eq_eq_not, Bool.not_true, Bool.not_false] at hb6
            refine SOps.skip rfl ?_
            refine SOps.skip rfl ?_
            refine SOps.skip rfl ?_
            refine SOps.pick rfl rfl ?_
            refine SOps.assign rfl ?_
            refine SOps.nil ?_
            refine SCode.ret ?_
            exact ⟨_, Res.one (.tmp rfl), congrArg (fun b => DV.v (.bool b)) (by rw [Bool.eq_iff_iff]; simp [validP, sideOK, hany, -Int.reduceLE]; omega), rfl⟩
        · try simp only [decide_eq_true_eq, decide_eq_false_iff_not, Bool.not_eq_true', Bool.not_eq_false', beq_iff_eq, bne_iff_ne, ne_eq, beq_eq_false_iff_ne, bne_eq_false_iff_eq, Int.not_lt, Int.not_le, Nat.not_lt, Nat.not_le, Int.ofNat_lt, Int.ofNat_le, Bool.not_eq_eq_eq_not, Bool.not_true, Bool.not_false] at hb5
          refine SOps.skip rfl ?_
          refine SOps.skip rfl ?_
          refine SOps.skip rfl ?_
          refine SOps.pick rfl rfl ?_
          refine SOps.move rfl ?_
          refine SOps.skip rfl ?_
          refine SOps.skip rfl ?_
          refine SOps.skip rfl ?_
          refine SOps.pick rfl rfl ?_
          refine SOps.assign rfl ?_
          refine SOps.nil ?_
          refine SCode.ret ?_
          exact ⟨_, Res.one (.tmp rfl), congrArg (fun b => DV.v (.bool b)) (by rw [Bool.eq_iff_iff]; simp [validP, sideOK, hany, -Int.reduceLE]; omega), rfl⟩
      · try simp only [decide_eq_true_eq, decide_eq_false_iff_not, Bool.not_eq_true', Bool.not_eq_false', beq_iff_eq, bne_iff_ne, ne_eq, beq_eq_false_iff_ne, bne_eq_false_iff_eq, Int.not_lt, Int.not_le, Nat.not_lt, Nat.not_le, Int.ofNat_lt, Int.ofNat_le, Bool.not_eq_eq_eq_not, Bool.not_true, Bool.not_false] at hb4
        refine SOps.skip rfl ?_
        refine SOps.skip rfl ?_
        refine SOps.skip rfl ?_
        refine SOps.pick rfl rfl ?_
        refine SOps.move rfl ?_
        refine SOps.skip rfl ?_
        refine SOps.skip rfl ?_
        refine SOps.skip rfl ?_
        refine SOps.pick rfl rfl ?_
        refine SOps.move rfl ?_
        refine SOps.skip rfl ?_
        refine SOps.skip rfl ?_
        refine SOps.skip rfl ?_
        refine SOps.pick rfl rfl ?_
        refine SOps.assign rfl ?_
        refine SOps.nil ?_
        refine SCode.ret ?_
        exact ⟨_, Res.one (.tmp rfl), congrArg (fun b => DV.v (.bool b)) (by rw [Bool.eq_iff_iff]; simp [validP, sideOK, hany, -Int.reduceLE]; omega), rfl⟩
    · try simp only [decide_eq_true_eq, decide_eq_false_iff_not, Bool.not_eq_true', Bool.not_eq_false', beq_iff_eq, bne_iff_ne, ne_eq, beq_eq_false_iff_ne, bne_eq_false_iff_eq, Int.not_lt, Int.not_le, Nat.not_lt, Nat.not_le, Int.ofNat_lt, Int.ofNat_le, Bool.not_eq_eq_eq_not, Bool.not_true, Bool.not_false] at hb3
      refine SOps.skip rfl ?_
      refine SOps.skip rfl ?_
      refine SOps.skip rfl ?_
      refine SOps.pick rfl rfl ?_
      refine SOps.move rfl ?_
      refine SOps.skip rfl ?_
      refine SOps.skip rfl ?_
      refine SOps.skip rfl ?_
      refine SOps.pick rfl rfl ?_
      refine SOps.move rfl ?_
      refine SOps.skip rfl ?_
      refine SOps.skip rfl ?_
      refine SOps.skip rfl ?_
      refine SOps.pick rfl rfl ?_
      refine SOps.move rfl ?_
      refine SOps.skip rfl ?_
      refine SOps.skip rfl ?_
      refine SOps.skip rfl ?_
      refine SOps.pick rfl rfl ?_
      refine SOps.assign rfl ?_
      refine SOps.nil ?_
      refine SCode.ret ?_
      exact ⟨_, Res.one (.tmp rfl), congrArg (fun b => DV.v (.bool b)) (by rw [Bool.eq_iff_iff]; simp [validP, sideOK, hany, -Int.reduceLE]; omega), rfl⟩
theorem sVowel (a : List Letter) (r : Int)  : GCall Tryd.prog E 37 [DLs a, .v (.int .i32 r)] [] (fun d H => d = .v (.bool (vowelA a r)) ∧ H = []) := by
  refine GCall.body (C := ⟨Tryd.prog, E, true⟩) Tryd.func37 rfl (fun _ => rfl) (by kernel_rfl) rfl ?_
  refine SCode.seqR ?_
  refine SOps.assign rfl ?_
  refine SOps.nil ?_
  refine SCode.seqR ?_
  refine SOps.move rfl ?_
  refine SOps.move rfl ?_
  refine SOps.callP (aClasses _ _) rfl ?_
  rintro _ rfl
  refine SOps.bits rfl rfl rfl ?_
  refine SOps.bin rfl rfl rfl ?_
  refine SOps.assign rfl ?_
  refine SOps.nil ?_
  refine SCode.ret ?_
  exact ⟨_, Res.one (.tmp rfl), congrArg (fun b => DV.v (.bool b)) (vowel_ne a r), rfl⟩
theorem rVowel (a : List Letter) (r : Int)  : GCall Tryd.prog E 38 [DLs a, .v (.int .i32 r)] [] (fun d H => d = .v (.bool (vowelA a r)) ∧ H = []) := by
  refine GCall.body (C := ⟨Tryd.prog, E, true⟩) Tryd.func38 rfl (fun _ => rfl) (by kernel_rfl) rfl ?_
  refine SCode.seqR ?_
  refine SOps.assign rfl ?_
  refine SOps.nil ?_
  refine SCode.seqR ?_
  refine SOps.move rfl ?_
  refine SOps.move rfl ?_
  refine SOps.callP (r1Index _ _) rfl ?_
  rintro _ rfl
  refine SOps.bin rfl rfl rfl ?_
  refine SOps.move rfl ?_
  refine SOps.caseB 9 rfl (fun hb1 => ?_) (fun hb1 => ?_)
  · try simp only [decide_eq_true_eq, decide_eq_false_iff_not, Bool.not_eq_true', Bool.not_eq_false', beq_iff_eq, bne_iff_ne, ne_eq, beq_eq_false_iff_ne, bne_eq_false_iff_eq, Int.not_lt, Int.not_le, Nat.not_lt, Nat.not_le, Int.ofNat_lt, Int.ofNat_le, Bool.not_eq_eq_eq_not, Bool.not_true, Bool.not_false] at hb1
    refine SOps.move rfl ?_
    refine SOps.move rfl ?_
    refine SOps.callP (r1Classes _ _) rfl ?_
    rintro _ rfl
    refine SOps.callP (r1Has _ _) rfl ?_
    rintro _ rfl
    refine SOps.pick rfl rfl ?_
    refine SOps.assign rfl ?_
    refine SOps.nil ?_
    refine SCode.ret ?_
    exact ⟨_, Res.one (.tmp rfl), rfl, rfl⟩
  · try simp only [decide_eq_true_eq, decide_eq_false_iff_not, Bool.not_eq_true', Bool.not_eq_false', beq_iff_eq, bne_iff_ne, ne_eq, beq_eq_false_iff_ne, bne_eq_false_iff_eq, Int.not_lt, Int.not_le, Nat.not_lt, Nat.not_le, Int.ofNat_lt, Int.ofNat_le, Bool.not_eq_eq_eq_not, Bool.not_true, Bool.not_false] at hb1
    refine SOps.skip rfl ?_
    refine SOps.skip rfl ?_
    refine SOps.skip rfl ?_
    refine SOps.skip rfl ?_
    refine SOps.pick rfl rfl ?_
    refine SOps.assign rfl ?_
    refine SOps.nil ?_
    refine SCode.ret ?_
    exact ⟨_, Res.one (.tmp rfl), congrArg (fun b => DV.v (.bool b)) (vowel_none (by cases h : idx a r with | none => rfl | some k => rw [idxI_some h] at hb1; omega)).symm, rfl⟩
theorem sNuclei (a : List Letter) (s : ByteArray) (hs : s.size ≤ 1048576) : GCall Tryd.prog E 19 [DLs a, .v (.string s)] [] (fun d H => d = DNats (nuclei a s) ∧ H = []) := by
  refine GCall.body (C := ⟨Tryd.prog, E, true⟩) Tryd.func19 rfl (fun _ => rfl) (by kernel_rfl) rfl ?_
  refine SCode.seqR ?_
  refine SOps.assign rfl ?_
  refine SOps.nil ?_
  refine SCode.seqR ?_
  refine SOps.assign rfl ?_
  refine SOps.nil ?_
  refine SCode.seqR ?_
  refine SOps.assign rfl ?_
  refine SOps.nil ?_
  refine SCode.seq ?_
  refine SCode.seqR ?_
  refine SOps.move rfl ?_
  refine SOps.rangeStr rfl strB_9 (fun b0 hb_0 => ?_)
  refine SOps.nil ?_
  refine SCode.block ?_
  refine SCode.loop5 (fun (p : Nat) (n : Nat) (acc : List Nat) (b : Nat) (c : Nat) => (⟨24, [(0, DLs a), (1, .v (.string s)), (5, accD 1 c (acc.map encN)), (6, .v (.int .i64 (n : Int))), (10, .it b)], (b, .iter s p) :: (accH 3 1 c (acc.map encN) ++ [])⟩ : St)) (fun (p : Nat) (n : Nat) (acc : List Nat) (b : Nat) (c : Nat) => n ≤ p ∧ acc.length ≤ p ∧ acc ++ nucF (vowelA a) (runesAt s p) n = nuclei a s) (fun (p : Nat) (n : Nat) (acc : List Nat) (b : Nat) (c : Nat) => s.size - p) (0) (0) ([]) (b0) (0) (by exact ⟨Nat.le_refl _, Nat.le_refl _, rfl⟩) (St.Le.of ⟨(by first | rfl | (show some _ = some _; simp)), (by first | rfl | (show some _ = some _; simp)), (by first | rfl | (show some _ = some _; simp)), (by first | rfl | (show some _ = some _; simp)), (by first | rfl | (show some _ = some _; simp)), trivial⟩ rfl (by first | rfl | (simp))) ?_
  rintro p n acc b c ⟨hn, hl, hf⟩
  refine SCode.fact (v_scal (t := 1) rfl) (fun hS => ?_)
  simp only [scal, lenB] at hS
  refine SCode.seqR ?_
  refine SOps.next 0 rfl rfl (fun hn1 => ?_) (fun hn1 => ?_) (by first | omega | (simp only [lenB]; omega))
  · refine SOps.extract rfl rfl ?_
    refine SOps.nil ?_
    refine SCode.seq ?_
    refine SCode.cond rfl (fun _ => ?_) (fun h => by cases h)
    refine SCode.skip ?_
    show SCode _ _ _ _
    refine SCode.block ?_
    refine SCode.seqR ?_
    refine SOps.extract rfl rfl ?_
    refine SOps.assign rfl ?_
    refine SOps.nil ?_
    refine SCode.seq ?_
    refine SCode.seqR ?_
    refine SOps.move rfl ?_
    refine SOps.move rfl ?_
    refine SOps.callP (sVowel _ _) rfl ?_
    rintro _ rfl
    refine SOps.nil ?_
    refine SCode.cond rfl (fun hc2 => ?_) (fun hc2 => ?_)
    · try simp only [decide_eq_true_eq, decide_eq_false_iff_not, Bool.not_eq_true', Bool.not_eq_false', beq_iff_eq, bne_iff_ne, ne_eq, beq_eq_false_iff_ne, bne_eq_false_iff_eq, Int.not_lt, Int.not_le, Nat.not_lt, Nat.not_le, Int.ofNat_lt, Int.ofNat_le, Bool.not_eq_eq_eq_not, Bool.not_true, Bool.not_false] at hc2
      refine SCode.region ?_
      refine SOps.move rfl ?_
      refine SOps.move rfl ?_
      refine SOps.litF rfl sliceB_30_3_1 zeroIs_3 rfl ?_
      refine SOps.appendAcc [_] [] sliceB_30_3_1 elemB_3_1_8 rfl rfl rfl SrcD.isl (by simp) (by simp [lenB] <;> (first | omega | (simp only [lenB]; omega))) (by simp <;> (first | omega | (simp only [lenB]; omega))) (fun b1 => ?_)
      refine SOps.assign rfl ?_
      refine SOps.nil ?_
      show SCode _ _ _ _
      refine SCode.region ?_
      refine SOps.move rfl ?_
      refine SOps.addI rfl rfl (by first | omega | (simp only [lenB]; omega)) (by first | omega | (simp only [lenB]; omega)) ?_
      refine SOps.assign rfl ?_
      refine SOps.nil ?_
      first
        | exact ⟨p + (Utf8.decode s p).2, n + 1, acc ++ [n], b, b1, ⟨by have := decode_w s p; omega, by have := decode_w s p; simp; omega, by rw [← hf, runesAt_lt hn1, nucF_cons, if_pos hc2, List.append_assoc]⟩, by have := decode_w s p; omega, St.Le.of ⟨rfl, rfl, (by show some _ = some _; rw [List.map_append]; rfl), rfl, rfl, trivial⟩ rfl (by rw [List.map_append]; rfl)⟩
        | exact ⟨p + (Utf8.decode s p).2, n + 1, acc, b, c, ⟨by have := decode_w s p; omega, by have := decode_w s p; omega, by rw [← hf, runesAt_lt hn1, nucF_cons, if_neg (by rw [hc2]; simp), List.nil_append]⟩, by have := decode_w s p; omega, St.Le.of ⟨rfl, rfl, rfl, rfl, rfl, trivial⟩⟩
    · try simp only [decide_eq_true_eq, decide_eq_false_iff_not, Bool.not_eq_true', Bool.not_eq_false', beq_iff_eq, bne_iff_ne, ne_eq, beq_eq_false_iff_ne, bne_eq_false_iff_eq, Int.not_lt, Int.not_le, Nat.not_lt, Nat.not_le, Int.ofNat_lt, Int.ofNat_le, Bool.not_eq_eq_eq_not, Bool.not_true, Bool.not_false] at hc2
      refine SCode.skip ?_
      show SCode _ _ _ _
      refine SCode.region ?_
      refine SOps.move rfl ?_
      refine SOps.addI rfl rfl (by first | omega | (simp only [lenB]; omega)) (by first | omega | (simp only [lenB]; omega)) ?_
      refine SOps.assign rfl ?_
      refine SOps.nil ?_
      first
        | exact ⟨p + (Utf8.decode s p).2, n + 1, acc ++ [n], b, b1, ⟨by have := decode_w s p; omega, by have := decode_w s p; simp; omega, by rw [← hf, runesAt_lt hn1, nucF_cons, if_pos hc2, List.append_assoc]⟩, by have := decode_w s p; omega, St.Le.of ⟨rfl, rfl, (by show some _ = some _; rw [List.map_append]; rfl), rfl, rfl, trivial⟩ rfl (by rw [List.map_append]; rfl)⟩
        | exact ⟨p + (Utf8.decode s p).2, n + 1, acc, b, c, ⟨by have := decode_w s p; omega, by have := decode_w s p; omega, by rw [← hf, runesAt_lt hn1, nucF_cons, if_neg (by rw [hc2]; simp), List.nil_append]⟩, by have := decode_w s p; omega, St.Le.of ⟨rfl, rfl, rfl, rfl, rfl, trivial⟩⟩
  · refine SOps.extract rfl rfl ?_
    refine SOps.nil ?_
    refine SCode.seq ?_
    refine SCode.cond rfl (fun h => by cases h) (fun _ => ?_)
    refine SCode.exit ?_
    show SCode _ _ _ _
    refine SCode.seqR ?_
    obtain rfl : acc = nuclei a s := by rw [← hf, runesAt_ge hn1]; simp [nucF]
    refine SOps.freezeAcc (t := 5) [_] [] rfl rfl rfl ?_
    refine SOps.move rfl ?_
    refine SOps.assign rfl ?_
    refine SOps.nil ?_
    refine SCode.drop ?_
    refine SCode.ret ?_
    exact ⟨_, Res.one (.tmp rfl), rfl, rfl⟩
theorem rNuclei (a : List Letter) (s : ByteArray) (hs : s.size ≤ 1048576) : GCall Tryd.prog E 20 [DLs a, .v (.string s)] [] (fun d H => d = DNats (nuclei a s) ∧ H = []) := by
  have hrl := runes_len s
  refine GCall.body (C := ⟨Tryd.prog, E, true⟩) Tryd.func20 rfl (fun _ => rfl) (by kernel_rfl) rfl ?_
  refine SCode.seqR ?_
  refine SOps.assign rfl ?_
  refine SOps.nil ?_
  refine SCode.seqR ?_
  refine SOps.litO sliceB_30_3_1 zeroIs_3 rfl (fun b0 hb_0 => ?_)
  refine SOps.assign rfl ?_
  refine SOps.nil ?_
  refine SCode.seqR ?_
  refine SOps.move rfl ?_
  refine SOps.runesF rfl rfl strB_9 sliceB_40_21_1 intB_21_i32 ?_
  refine SOps.assign rfl ?_
  refine SOps.nil ?_
  refine SCode.seq ?_
  refine SCode.seqR ?_
  refine SOps.assign rfl ?_
  refine SOps.nil ?_
  refine SCode.block ?_
  refine SCode.loop3 (fun (i : Nat) (acc : List Nat) (c : Nat) => (⟨28, [(0, DLs a), (1, .v (.string s)), (5, .sl c 1 0 acc.length), (6, DRunes (runes s)), (7, .v (.int .i64 (i : Int)))], [(c, .row 3 1 (acc.map encN))]⟩ : St)) (fun (i : Nat) (acc : List Nat) (c : Nat) => i ≤ (runes s).length ∧ acc.length ≤ i ∧ acc ++ nucF (vowelA a) ((runes s).drop i) i = nuclei a s) (fun (i : Nat) (acc : List Nat) (c : Nat) => (runes s).length - i) (0) ([]) (b0) (by exact ⟨Nat.zero_le _, Nat.le_refl _, rfl⟩) (St.Le.of ⟨(by first | rfl | (show some _ = some _; simp)), (by first | rfl | (show some _ = some _; simp)), (by first | rfl | (show some _ = some _; simp)), (by first | rfl | (show some _ = some _; simp)), (by first | rfl | (show some _ = some _; simp)), trivial⟩ rfl (by first | rfl | (simp))) ?_
  rintro i acc c ⟨hi, hl, hf⟩
  refine SCode.seq ?_
  refine SCode.seqR ?_
  refine SOps.move rfl ?_
  refine SOps.move rfl ?_
  refine SOps.lenM rfl sliceB_40_21_1 ?_
  refine SOps.bin rfl rfl rfl ?_
  refine SOps.nil ?_
  refine SCode.cond rfl (fun hc1 => ?_) (fun hc1 => ?_)
  · try simp only [decide_eq_true_eq, decide_eq_false_iff_not, Bool.not_eq_true', Bool.not_eq_false', beq_iff_eq, bne_iff_ne, ne_eq, beq_eq_false_iff_ne, bne_eq_false_iff_eq, Int.not_lt, Int.not_le, Nat.not_lt, Nat.not_le, Int.ofNat_lt, Int.ofNat_le, Bool.not_eq_eq_eq_not, Bool.not_true, Bool.not_false] at hc1
    refine SCode.skip ?_
    show SCode _ _ _ _
    refine SCode.seq ?_
    refine SCode.block ?_
    refine SCode.seqR ?_
    refine SOps.move rfl ?_
    refine SOps.move rfl ?_
    refine SOps.move rfl ?_
    refine SOps.indexM (i) rfl rfl sliceB_40_21_1 (by first | omega | (simp only [lenB]; omega)) (by first | omega | (simp only [lenB]; omega)) ?_
    refine SOps.loadPin rfl flatB_21 ?_
    refine SOps.callP (rVowel _ _) rfl ?_
    rintro _ rfl
    refine SOps.nil ?_
    refine SCode.cond rfl (fun hc2 => ?_) (fun hc2 => ?_)
    · try simp only [decide_eq_true_eq, decide_eq_false_iff_not, Bool.not_eq_true', Bool.not_eq_false', beq_iff_eq, bne_iff_ne, ne_eq, beq_eq_false_iff_ne, bne_eq_false_iff_eq, Int.not_lt, Int.not_le, Nat.not_lt, Nat.not_le, Int.ofNat_lt, Int.ofNat_le, Bool.not_eq_eq_eq_not, Bool.not_true, Bool.not_false] at hc2
      refine SCode.region ?_
      refine SOps.move rfl ?_
      refine SOps.move rfl ?_
      refine SOps.litF rfl sliceB_30_3_1 zeroIs_3 rfl ?_
      refine SOps.appendOwn 0 sliceB_30_3_1 elemB_3_1_8 rfl rfl rfl (by simp) SrcD.isl (by simp) (by simp [lenB] <;> (first | omega | (simp only [lenB]; omega))) (by simp <;> (first | omega | (simp only [lenB]; omega))) (fun b1 hb_1 => ?_)
      refine SOps.assign rfl ?_
      refine SOps.nil ?_
      show SCode _ _ _ _
      refine SCode.region ?_
      refine SOps.move rfl ?_
      refine SOps.addI rfl rfl (by first | omega | (simp only [lenB]; omega)) (by first | omega | (simp only [lenB]; omega)) ?_
      refine SOps.assign rfl ?_
      refine SOps.nil ?_
      first
        | exact ⟨i + 1, acc ++ [i], b1, ⟨by omega, by simp; omega, by rw [← hf, List.drop_eq_getElem_cons (show i < (runes s).length by omega), nucF_cons, if_pos hc2, List.append_assoc]⟩, by omega, St.Le.of ⟨rfl, rfl, (by show some _ = some _; rw [List.length_append]; rfl), rfl, rfl, trivial⟩ rfl (by rw [List.map_append]; rfl)⟩
        | exact ⟨i + 1, acc, c, ⟨by omega, by omega, by rw [← hf, List.drop_eq_getElem_cons (show i < (runes s).length by omega), nucF_cons, if_neg (by rw [hc2]; simp), List.nil_append]⟩, by omega, St.Le.of ⟨rfl, rfl, rfl, rfl, rfl, trivial⟩⟩
    · try simp only [decide_eq_true_eq, decide_eq_false_iff_not, Bool.not_eq_true', Bool.not_eq_false', beq_iff_eq, bne_iff_ne, ne_eq, beq_eq_false_iff_ne, bne_eq_false_iff_eq, Int.not_lt, Int.not_le, Nat.not_lt, Nat.not_le, Int.ofNat_lt, Int.ofNat_le, Bool.not_eq_eq_eq_not, Bool.not_true, Bool.not_false] at hc2
      refine SCode.skip ?_
      show SCode _ _ _ _
      refine SCode.region ?_
      refine SOps.move rfl ?_
      refine SOps.addI rfl rfl (by first | omega | (simp only [lenB]; omega)) (by first | omega | (simp only [lenB]; omega)) ?_
      refine SOps.assign rfl ?_
      refine SOps.nil ?_
      first
        | exact ⟨i + 1, acc ++ [i], b1, ⟨by omega, by simp; omega, by rw [← hf, List.drop_eq_getElem_cons (show i < (runes s).length by omega), nucF_cons, if_pos hc2, List.append_assoc]⟩, by omega, St.Le.of ⟨rfl, rfl, (by show some _ = some _; rw [List.length_append]; rfl), rfl, rfl, trivial⟩ rfl (by rw [List.map_append]; rfl)⟩
        | exact ⟨i + 1, acc, c, ⟨by omega, by omega, by rw [← hf, List.drop_eq_getElem_cons (show i < (runes s).length by omega), nucF_cons, if_neg (by rw [hc2]; simp), List.nil_append]⟩, by omega, St.Le.of ⟨rfl, rfl, rfl, rfl, rfl, trivial⟩⟩
  · try simp only [decide_eq_true_eq, decide_eq_false_iff_not, Bool.not_eq_true', Bool.not_eq_false', beq_iff_eq, bne_iff_ne, ne_eq, beq_eq_false_iff_ne, bne_eq_false_iff_eq, Int.not_lt, Int.not_le, Nat.not_lt, Nat.not_le, Int.ofNat_lt, Int.ofNat_le, Bool.not_eq_eq_eq_not, Bool.not_true, Bool.not_false] at hc1
    refine SCode.exit ?_
    show SCode _ _ _ _
    refine SCode.seqR ?_
    obtain rfl : acc = nuclei a s := by rw [← hf, List.drop_eq_nil_of_le (by omega)]; simp [nucF]
    refine SOps.freezeS (t := 5) 0 rfl rfl rfl (by simp) ?_
    refine SOps.move rfl ?_
    refine SOps.assign rfl ?_
    refine SOps.nil ?_
    refine SCode.drop ?_
    refine SCode.ret ?_
    exact ⟨_, Res.one (.tmp rfl), rfl, rfl⟩
theorem sFits (a : List Letter) (ms rs : List Int)  : GCall Tryd.prog E 40 [DLs a, DMasks ms, DRunes rs] [] (fun d H => d = .v (.bool (fits a ms rs)) ∧ H = []) := by
  refine GCall.body (C := ⟨Tryd.prog, E, true⟩) Tryd.func40 rfl (fun _ => rfl) (by kernel_rfl) rfl ?_
  refine SCode.seqR ?_
  refine SOps.assign rfl ?_
  refine SOps.nil ?_
  refine SCode.seq ?_
  refine SCode.seqR ?_
  refine SOps.move rfl ?_
  refine SOps.lenM rfl sliceB_33_49_1 ?_
  refine SOps.move rfl ?_
  refine SOps.lenM rfl sliceB_40_21_1 ?_
  refine SOps.bin rfl rfl rfl ?_
  refine SOps.nil ?_
  refine SCode.cond rfl (fun hc1 => ?_) (fun hc1 => ?_)
  · try simp only [decide_eq_true_eq, decide_eq_false_iff_not, Bool.not_eq_true', Bool.not_eq_false', beq_iff_eq, bne_iff_ne, ne_eq, beq_eq_false_iff_ne, bne_eq_false_iff_eq, Int.not_lt, Int.not_le, Nat.not_lt, Nat.not_le, Int.ofNat_lt, Int.ofNat_le, Bool.not_eq_eq_eq_not, Bool.not_true, Bool.not_false] at hc1
    refine SCode.seqR ?_
    refine SOps.assign rfl ?_
    refine SOps.nil ?_
    refine SCode.ret ?_
    exact ⟨_, Res.one (.tmp rfl), congrArg (fun b => DV.v (.bool b)) (Eq.symm (by rw [fits, decide_eq_false (by omega)]; rfl)), rfl⟩
  · try simp only [decide_eq_true_eq, decide_eq_false_iff_not, Bool.not_eq_true', Bool.not_eq_false', beq_iff_eq, bne_iff_ne, ne_eq, beq_eq_false_iff_ne, bne_eq_false_iff_eq, Int.not_lt, Int.not_le, Nat.not_lt, Nat.not_le, Int.ofNat_lt, Int.ofNat_le, Bool.not_eq_eq_eq_not, Bool.not_true, Bool.not_false] at hc1
    refine SCode.skip ?_
    show SCode _ _ _ _
    refine SCode.seq ?_
    refine SCode.seqR ?_
    refine SOps.move rfl ?_
    refine SOps.lenM rfl sliceB_40_21_1 ?_
    refine SOps.move rfl ?_
    refine SOps.nil ?_
    refine SCode.block ?_
    refine SCode.loop1 (fun (i : Nat) => (⟨41, [(0, DLs a), (1, DMasks ms), (2, DRunes rs), (6, .v (.bool false)), (14, DRunes rs), (15, .v (.int .i64 (rs.length : Int))), (16, .v (.int .i64 (i : Int)))], []⟩ : St)) (fun (i : Nat) => i ≤ rs.length ∧ ((rs.zip ms).take i).all (fun p => (idx a p.1).isSome && hasC (clsOf a p.1) p.2) = true) (fun (i : Nat) => rs.length - i) (0) (by simp) (St.Le.of ⟨(by first | rfl | (show some _ = some _; simp)), (by first | rfl | (show some _ = some _; simp)), (by first | rfl | (show some _ = some _; simp)), (by first | rfl | (show some _ = some _; simp)), (by first | rfl | (show some _ = some _; simp)), (by first | rfl | (show some _ = some _; simp)), (by first | rfl | (show some _ = some _; simp)), trivial⟩ rfl (by first | rfl | (simp))) ?_
    rintro i ⟨hi, hf⟩
    refine SCode.fact (isl_len (t := 2) rfl) (fun hB => ?_)
    simp only [List.length_map, lenB] at hB
    refine SCode.seqR ?_
    refine SOps.bin rfl rfl rfl ?_
    refine SOps.nil ?_
    refine SCode.seq ?_
    refine SCode.cond rfl (fun hc2 => ?_) (fun hc2 => ?_)
    · try simp only [decide_eq_true_eq, decide_eq_false_iff_not, Bool.not_eq_true', Bool.not_eq_false', beq_iff_eq, bne_iff_ne, ne_eq, beq_eq_false_iff_ne, bne_eq_false_iff_eq, Int.not_lt, Int.not_le, Nat.not_lt, Nat.not_le, Int.ofNat_lt, Int.ofNat_le, Bool.not_eq_eq_eq_not, Bool.not_true, Bool.not_false] at hc2
      have hx : i < rs.length := by omega
      have hy : i < ms.length := by omega
      refine SCode.skip ?_
      show SCode _ _ _ _
      refine SCode.seq ?_
      refine SCode.block ?_
      refine SCode.seqR ?_
      refine SOps.move rfl ?_
      refine SOps.indexM (i) rfl rfl sliceB_40_21_1 (by omega) (by omega) ?_
      refine SOps.loadPin rfl flatB_21 ?_
      refine SOps.assign rfl ?_
      refine SOps.assign rfl ?_
      refine SOps.nil ?_
      refine SCode.seq ?_
      rcases hcase : decide (idxI a (rs[i]) < 0) with _ | _
      · refine SCode.drawPure mixed_ [(21, DLs a), (22, .v (.int .i32 (rs[i]))), (23, .v (.int .i64 (idxI a (rs[i])))), (24, .v (.bool false)), (25, .v (.bool false)), (26, DLs a), (27, .v (.int .i32 (rs[i]))), (28, .v (.int .u32 (clsOf a (rs[i])))), (29, DMasks ms), (30, .v (.int .i64 (i : Int))), (31, .ipin (encU (ms[i]))), (32, .v (.int .u32 (ms[i]))), (33, .v (.int .u32 (andU (clsOf a (rs[i])) (ms[i])))), (34, DMasks ms), (35, .v (.int .i64 (i : Int))), (36, .ipin (encU (ms[i]))), (37, .v (.int .u32 (ms[i]))), (38, .v (.bool (andU (clsOf a (rs[i])) (ms[i]) != ms[i]))), (39, .v (.bool (andU (clsOf a (rs[i])) (ms[i]) != ms[i])))] [21, 22, 23, 24, 25, 26, 27, 28, 29, 30, 31, 32, 33, 34, 35, 36, 37, 38, 39] [[.inr 0], [.inr 8], [.inl 0, .inl 1], [.inl 2], [.inl 3], [.inl 4, .inr 0], [.inl 4, .inr 8], [.inl 4, .inl 5, .inl 6], [.inl 4, .inr 1], [.inl 4, .inr 7], [.inl 4, .inl 8, .inl 9], [.inl 4, .inl 10], [.inl 4, .inl 7, .inl 11], [.inl 4, .inr 1], [.inl 4, .inr 7], [.inl 4, .inl 13, .inl 14], [.inl 4, .inl 15], [.inl 4, .inl 12, .inl 16], [.inl 4, .inl 17]] [[(0, DLs a)], [(8, .v (.int .i32 (rs[i])))], [(21, DLs a), (22, .v (.int .i32 (rs[i])))], [(23, .v (.int .i64 (idxI a (rs[i]))))], [(24, .v (.bool false))], [(25, .v (.bool false)), (0, DLs a)], [(25, .v (.bool false)), (8, .v (.int .i32 (rs[i])))], [(25, .v (.bool false)), (26, DLs a), (27, .v (.int .i32 (rs[i])))], [(25, .v (.bool false)), (1, DMasks ms)], [(25, .v (.bool false)), (7, .v (.int .i64 (i : Int)))], [(25, .v (.bool false)), (29, DMasks ms), (30, .v (.int .i64 (i : Int)))], [(25, .v (.bool false)), (31, .ipin (encU (ms[i])))], [(25, .v (.bool false)), (28, .v (.int .u32 (clsOf a (rs[i])))), (32, .v (.int .u32 (ms[i])))], [(25, .v (.bool false)), (1, DMasks ms)], [(25, .v (.bool false)), (7, .v (.int .i64 (i : Int)))], [(25, .v (.bool false)), (34, DMasks ms), (35, .v (.int .i64 (i : Int)))], [(25, .v (.bool false)), (36, .ipin (encU (ms[i])))], [(25, .v (.bool false)), (33, .v (.int .u32 (andU (clsOf a (rs[i])) (ms[i])))), (37, .v (.int .u32 (ms[i])))], [(25, .v (.bool false)), (38, .v (.bool (andU (clsOf a (rs[i])) (ms[i]) != ms[i])))]] rfl (by kernel_rfl) (by kernel_rfl) rfl ?_ ?_
        · refine OpsOk.cons (fun rest => ?_) ?_
          · refine SOps.move rfl ?_
            exact SOps.nil (by first | rfl | simp_all)
          refine OpsOk.cons (fun rest => ?_) ?_
          · refine SOps.move rfl ?_
            exact SOps.nil (by first | rfl | simp_all)
          refine OpsOk.cons (fun rest => ?_) ?_
          · refine SOps.callP (aIndex _ _) rfl ?_
            rintro _ rfl
            exact SOps.nil (by first | rfl | simp_all)
          refine OpsOk.cons (fun rest => ?_) ?_
          · refine SOps.bin rfl rfl rfl ?_
            exact SOps.nil (by simp only [hcase]; rfl)
          refine OpsOk.cons (fun rest => ?_) ?_
          · refine SOps.move rfl ?_
            exact SOps.nil (by first | rfl | simp_all)
          refine OpsOk.cons (fun rest => ?_) ?_
          · refine SOps.move rfl ?_
            exact SOps.nil (by first | rfl | simp_all)
          refine OpsOk.cons (fun rest => ?_) ?_
          · refine SOps.move rfl ?_
            exact SOps.nil (by first | rfl | simp_all)
          refine OpsOk.cons (fun rest => ?_) ?_
          · refine SOps.callP (aClasses _ _) rfl ?_
            rintro _ rfl
            exact SOps.nil (by first | rfl | simp_all)
          refine OpsOk.cons (fun rest => ?_) ?_
          · refine SOps.move rfl ?_
            exact SOps.nil (by first | rfl | simp_all)
          refine OpsOk.cons (fun rest => ?_) ?_
          · refine SOps.move rfl ?_
            exact SOps.nil (by first | rfl | simp_all)
          refine OpsOk.cons (fun rest => ?_) ?_
          · refine SOps.indexM (i) rfl rfl sliceB_33_49_1 (by omega) (by omega) ?_
            exact SOps.nil (by first | rfl | simp_all)
          refine OpsOk.cons (fun rest => ?_) ?_
          · refine SOps.loadPin rfl flatB_49 ?_
            exact SOps.nil (by first | rfl | simp_all)
          refine OpsOk.cons (fun rest => ?_) ?_
          · refine SOps.bits rfl rfl rfl ?_
            exact SOps.nil (by first | rfl | simp_all)
          refine OpsOk.cons (fun rest => ?_) ?_
          · refine SOps.move rfl ?_
            exact SOps.nil (by first | rfl | simp_all)
          refine OpsOk.cons (fun rest => ?_) ?_
          · refine SOps.move rfl ?_
            exact SOps.nil (by first | rfl | simp_all)
          refine OpsOk.cons (fun rest => ?_) ?_
          · refine SOps.indexM (i) rfl rfl sliceB_33_49_1 (by omega) (by omega) ?_
            exact SOps.nil (by first | rfl | simp_all)
          refine OpsOk.cons (fun rest => ?_) ?_
          · refine SOps.loadPin rfl flatB_49 ?_
            exact SOps.nil (by first | rfl | simp_all)
          refine OpsOk.cons (fun rest => ?_) ?_
          · refine SOps.bin rfl rfl rfl ?_
            exact SOps.nil (by first | rfl | simp_all)
          refine OpsOk.cons (fun rest => ?_) ?_
          · refine SOps.pick rfl rfl ?_
            exact SOps.nil (by first | rfl | simp_all)
          exact OpsOk.nil
        · show SCode _ _ _ _
          refine SCode.cond rfl (fun hc3 => ?_) (fun hc3 => ?_)
          · try simp only [decide_eq_true_eq, decide_eq_false_iff_not, Bool.not_eq_true', Bool.not_eq_false', beq_iff_eq, bne_iff_ne, ne_eq, beq_eq_false_iff_ne, bne_eq_false_iff_eq, Int.not_lt, Int.not_le, Nat.not_lt, Nat.not_le, Int.ofNat_lt, Int.ofNat_le, Bool.not_eq_eq_eq_not, Bool.not_true, Bool.not_false] at hc3
            refine SCode.seqR ?_
            refine SOps.assign rfl ?_
            refine SOps.nil ?_
            refine SCode.ret ?_
            exact ⟨_, Res.one (.tmp rfl), congrArg (fun b => DV.v (.bool b)) (Eq.symm (fits_bad hx hy (by simp [hasC, hc3]))), rfl⟩
          · try simp only [decide_eq_true_eq, decide_eq_false_iff_not, Bool.not_eq_true', Bool.not_eq_false', beq_iff_eq, bne_iff_ne, ne_eq, beq_eq_false_iff_ne, bne_eq_false_iff_eq, Int.not_lt, Int.not_le, Nat.not_lt, Nat.not_le, Int.ofNat_lt, Int.ofNat_le, Bool.not_eq_eq_eq_not, Bool.not_true, Bool.not_false] at hc3
            refine SCode.skip ?_
            show SCode _ _ _ _
            refine SCode.region ?_
            refine SOps.addI rfl rfl (by omega) (by omega) ?_
            refine SOps.move rfl ?_
            refine SOps.nil ?_
            exact ⟨i + 1, by exact ⟨by omega, fits_at (by omega) hx hy hf (by rw [Bool.and_eq_true]; refine ⟨?_, by simp [hasC, hc3]⟩; obtain ⟨k, hk⟩ := idxI_nonneg.1 (Int.not_lt.1 (of_decide_eq_false hcase)); rw [hk]; rfl)⟩, by omega, (St.Le.of ⟨(by first | rfl | (show some _ = some _; simp)), (by first | rfl | (show some _ = some _; simp)), (by first | rfl | (show some _ = some _; simp)), (by first | rfl | (show some _ = some _; simp)), (by first | rfl | (show some _ = some _; simp)), (by first | rfl | (show some _ = some _; simp)), (by first | rfl | (show some _ = some _; simp)), trivial⟩ rfl (by first | rfl | (simp)))⟩
      · refine SCode.drawPure mixed_ [(21, DLs a), (22, .v (.int .i32 (rs[i]))), (23, .v (.int .i64 (idxI a (rs[i])))), (24, .v (.bool true)), (25, .v (.bool true)), (26, .v (.tuple #[])), (27, .v (.tuple #[])), (28, .v (.tuple #[])), (29, .v (.tuple #[])), (30, .v (.tuple #[])), (31, .v (.tuple #[])), (32, .v (.tuple #[])), (33, .v (.tuple #[])), (34, .v (.tuple #[])), (35, .v (.tuple #[])), (36, .v (.tuple #[])), (37, .v (.tuple #[])), (38, .v (.tuple #[])), (39, .v (.bool true))] [21, 22, 23, 24, 25, 26, 27, 28, 29, 30, 31, 32, 33, 34, 35, 36, 37, 38, 39] [[.inr 0], [.inr 8], [.inl 0, .inl 1], [.inl 2], [.inl 3], [.inl 4], [.inl 4], [.inl 4], [.inl 4], [.inl 4], [.inl 4], [.inl 4], [.inl 4], [.inl 4], [.inl 4], [.inl 4], [.inl 4], [.inl 4], [.inl 4, .inl 17]] [[(0, DLs a)], [(8, .v (.int .i32 (rs[i])))], [(21, DLs a), (22, .v (.int .i32 (rs[i])))], [(23, .v (.int .i64 (idxI a (rs[i]))))], [(24, .v (.bool true))], [(25, .v (.bool true))], [(25, .v (.bool true))], [(25, .v (.bool true))], [(25, .v (.bool true))], [(25, .v (.bool true))], [(25, .v (.bool true))], [(25, .v (.bool true))], [(25, .v (.bool true))], [(25, .v (.bool true))], [(25, .v (.bool true))], [(25, .v (.bool true))], [(25, .v (.bool true))], [(25, .v (.bool true))], [(25, .v (.bool true)), (38, .v (.tuple #[]))]] rfl (by kernel_rfl) (by kernel_rfl) rfl ?_ ?_
        · refine OpsOk.cons (fun rest => ?_) ?_
          · refine SOps.move rfl ?_
            exact SOps.nil (by first | rfl | simp_all)
          refine OpsOk.cons (fun rest => ?_) ?_
          · refine SOps.move rfl ?_
            exact SOps.nil (by first | rfl | simp_all)
          refine OpsOk.cons (fun rest => ?_) ?_
          · refine SOps.callP (aIndex _ _) rfl ?_
            rintro _ rfl
            exact SOps.nil (by first | rfl | simp_all)
          refine OpsOk.cons (fun rest => ?_) ?_
          · refine SOps.bin rfl rfl rfl ?_
            exact SOps.nil (by simp only [hcase]; rfl)
          refine OpsOk.cons (fun rest => ?_) ?_
          · refine SOps.move rfl ?_
            exact SOps.nil (by first | rfl | simp_all)
          refine OpsOk.cons (fun rest => ?_) ?_
          · refine SOps.skip rfl ?_
            exact SOps.nil (by first | rfl | simp_all)
          refine OpsOk.cons (fun rest => ?_) ?_
          · refine SOps.skip rfl ?_
            exact SOps.nil (by first | rfl | simp_all)
          refine OpsOk.cons (fun rest => ?_) ?_
          · refine SOps.skip rfl ?_
            exact SOps.nil (by first | rfl | simp_all)
          refine OpsOk.cons (fun rest => ?_) ?_
          · refine SOps.skip rfl ?_
            exact SOps.nil (by first | rfl | simp_all)
          refine OpsOk.cons (fun rest => ?_) ?_
          · refine SOps.skip rfl ?_
            exact SOps.nil (by first | rfl | simp_all)
          refine OpsOk.cons (fun rest => ?_) ?_
          · refine SOps.skip rfl ?_
            exact SOps.nil (by first | rfl | simp_all)
          refine OpsOk.cons (fun rest => ?_) ?_
          · refine SOps.skip rfl ?_
            exact SOps.nil (by first | rfl | simp_all)
          refine OpsOk.cons (fun rest => ?_) ?_
          · refine SOps.skip rfl ?_
            exact SOps.nil (by first | rfl | simp_all)
          refine OpsOk.cons (fun rest => ?_) ?_
          · refine SOps.skip rfl ?_
            exact SOps.nil (by first | rfl | simp_all)
          refine OpsOk.cons (fun rest => ?_) ?_
          · refine SOps.skip rfl ?_
            exact SOps.nil (by first | rfl | simp_all)
          refine OpsOk.cons (fun rest => ?_) ?_
          · refine SOps.skip rfl ?_
            exact SOps.nil (by first | rfl | simp_all)
          refine OpsOk.cons (fun rest => ?_) ?_
          · refine SOps.skip rfl ?_
            exact SOps.nil (by first | rfl | simp_all)
          refine OpsOk.cons (fun rest => ?_) ?_
          · refine SOps.skip rfl ?_
            exact SOps.nil (by first | rfl | simp_all)
          refine OpsOk.cons (fun rest => ?_) ?_
          · refine SOps.pick rfl rfl ?_
            exact SOps.nil (by first | rfl | simp_all)
          exact OpsOk.nil
        · show SCode _ _ _ _
          refine SCode.cond rfl (fun _ => ?_) (fun h => by cases h)
          refine SCode.seqR ?_
          refine SOps.assign rfl ?_
          refine SOps.nil ?_
          refine SCode.ret ?_
          exact ⟨_, Res.one (.tmp rfl), congrArg (fun b => DV.v (.bool b)) (Eq.symm (fits_bad hx hy (by cases h : idx a (rs[i]) with | none => rfl | some k => (have := of_decide_eq_true hcase; rw [idxI_some h] at this; omega)))), rfl⟩
    · try simp only [decide_eq_true_eq, decide_eq_false_iff_not, Bool.not_eq_true', Bool.not_eq_false', beq_iff_eq, bne_iff_ne, ne_eq, beq_eq_false_iff_ne, bne_eq_false_iff_eq, Int.not_lt, Int.not_le, Nat.not_lt, Nat.not_le, Int.ofNat_lt, Int.ofNat_le, Bool.not_eq_eq_eq_not, Bool.not_true, Bool.not_false] at hc2
      refine SCode.exit ?_
      show SCode _ _ _ _
      refine SCode.seqR ?_
      refine SOps.assign rfl ?_
      refine SOps.nil ?_
      refine SCode.ret ?_
      exact ⟨_, Res.one (.tmp rfl), congrArg (fun b => DV.v (.bool b)) (Eq.symm (fits_end (by omega) (by omega) hf)), rfl⟩
theorem sOnset1 (a : List Letter) (ms rs : List Int)  : GCall Tryd.prog E 39 [DMasks ms, .ipin [DLs a], .ipin [DRunes rs]] [] (fun d H => d = .v (.bool (fits a ms rs)) ∧ H = []) := by
  refine GCall.body (C := ⟨Tryd.prog, E, true⟩) Tryd.func39 rfl (fun _ => rfl) (by kernel_rfl) rfl ?_
  refine SCode.seqR ?_
  refine SOps.assign rfl ?_
  refine SOps.nil ?_
  refine SCode.seqR ?_
  refine SOps.loadPin rfl flatB_28 ?_
  refine SOps.move rfl ?_
  refine SOps.loadPin rfl flatB_40 ?_
  refine SOps.callP (sFits _ _ _) rfl ?_
  rintro _ rfl
  refine SOps.assign rfl ?_
  refine SOps.nil ?_
  refine SCode.ret ?_
  exact ⟨_, Res.one (.tmp rfl), rfl, rfl⟩
theorem rFits (a : List Letter) (ms rs : List Int)  : GCall Tryd.prog E 59 [DLs a, DMasks ms, DRunes rs] [] (fun d H => d = .v (.bool (fits a ms rs)) ∧ H = []) := by
  refine GCall.body (C := ⟨Tryd.prog, E, true⟩) Tryd.func59 rfl (fun _ => rfl) (by kernel_rfl) rfl ?_
  refine SCode.seqR ?_
  refine SOps.assign rfl ?_
  refine SOps.nil ?_
  refine SCode.seq ?_
  refine SCode.seqR ?_
  refine SOps.move rfl ?_
  refine SOps.lenM rfl sliceB_33_49_1 ?_
  refine SOps.move rfl ?_
  refine SOps.lenM rfl sliceB_40_21_1 ?_
  refine SOps.bin rfl rfl rfl ?_
  refine SOps.nil ?_
  refine SCode.cond rfl (fun hc1 => ?_) (fun hc1 => ?_)
  · try simp only [decide_eq_true_eq, decide_eq_false_iff_not, Bool.not_eq_true', Bool.not_eq_false', beq_iff_eq, bne_iff_ne, ne_eq, beq_eq_false_iff_ne, bne_eq_false_iff_eq, Int.not_lt, Int.not_le, Nat.not_lt, Nat.not_le, Int.ofNat_lt, Int.ofNat_le, Bool.not_eq_eq_eq_not, Bool.not_true, Bool.not_false] at hc1
    refine SCode.seqR ?_
    refine SOps.assign rfl ?_
    refine SOps.nil ?_
    refine SCode.ret ?_
    exact ⟨_, Res.one (.tmp rfl), congrArg (fun b => DV.v (.bool b)) (Eq.symm (by rw [fits, decide_eq_false (by omega)]; rfl)), rfl⟩
  · try simp only [decide_eq_true_eq, decide_eq_false_iff_not, Bool.not_eq_true', Bool.not_eq_false', beq_iff_eq, bne_iff_ne, ne_eq, beq_eq_false_iff_ne, bne_eq_false_iff_eq, Int.not_lt, Int.not_le, Nat.not_lt, Nat.not_le, Int.ofNat_lt, Int.ofNat_le, Bool.not_eq_eq_eq_not, Bool.not_true, Bool.not_false] at hc1
    refine SCode.skip ?_
    show SCode _ _ _ _
    refine SCode.seq ?_
    refine SCode.seqR ?_
    refine SOps.assign rfl ?_
    refine SOps.nil ?_
    refine SCode.block ?_
    refine SCode.loop1 (fun (i : Nat) => (⟨40, [(0, DLs a), (1, DMasks ms), (2, DRunes rs), (6, .v (.bool false)), (7, .v (.int .i64 (i : Int)))], []⟩ : St)) (fun (i : Nat) => i ≤ rs.length ∧ ((rs.zip ms).take i).all (fun p => (idx a p.1).isSome && hasC (clsOf a p.1) p.2) = true) (fun (i : Nat) => rs.length - i) (0) (by simp) (St.Le.of ⟨(by first | rfl | (show some _ = some _; simp)), (by first | rfl | (show some _ = some _; simp)), (by first | rfl | (show some _ = some _; simp)), (by first | rfl | (show some _ = some _; simp)), (by first | rfl | (show some _ = some _; simp)), trivial⟩ rfl (by first | rfl | (simp))) ?_
    rintro i ⟨hi, hf⟩
    refine SCode.fact (isl_len (t := 2) rfl) (fun hB => ?_)
    simp only [List.length_map, lenB] at hB
    refine SCode.seq ?_
    refine SCode.seqR ?_
    refine SOps.move rfl ?_
    refine SOps.move rfl ?_
    refine SOps.lenM rfl sliceB_40_21_1 ?_
    refine SOps.bin rfl rfl rfl ?_
    refine SOps.nil ?_
    refine SCode.cond rfl (fun hc2 => ?_) (fun hc2 => ?_)
    · try simp only [decide_eq_true_eq, decide_eq_false_iff_not, Bool.not_eq_true', Bool.not_eq_false', beq_iff_eq, bne_iff_ne, ne_eq, beq_eq_false_iff_ne, bne_eq_false_iff_eq, Int.not_lt, Int.not_le, Nat.not_lt, Nat.not_le, Int.ofNat_lt, Int.ofNat_le, Bool.not_eq_eq_eq_not, Bool.not_true, Bool.not_false] at hc2
      have hx : i < rs.length := by omega
      have hy : i < ms.length := by omega
      refine SCode.skip ?_
      show SCode _ _ _ _
      refine SCode.seq ?_
      refine SCode.block ?_
      refine SCode.seq ?_
      rcases hcase : decide (idxI a (rs[i]) < 0) with _ | _
      · refine SCode.drawPure mixed_ [(19, DLs a), (20, DRunes rs), (21, .v (.int .i64 (i : Int))), (22, .ipin (rcell (rs[i]))), (23, .v (.int .i32 (rs[i]))), (24, .v (.int .i64 (idxI a (rs[i])))), (25, .v (.bool false)), (26, .v (.bool false)), (27, DLs a), (28, DRunes rs), (29, .v (.int .i64 (i : Int))), (30, .ipin (rcell (rs[i]))), (31, .v (.int .i32 (rs[i]))), (32, .v (.int .u32 (clsOf a (rs[i])))), (33, DMasks ms), (34, .v (.int .i64 (i : Int))), (35, .ipin (encU (ms[i]))), (36, .v (.int .u32 (ms[i]))), (37, .v (.bool (hasC (clsOf a (rs[i])) (ms[i])))), (38, .v (.bool (!hasC (clsOf a (rs[i])) (ms[i])))), (39, .v (.bool (!hasC (clsOf a (rs[i])) (ms[i]))))] [19, 20, 21, 22, 23, 24, 25, 26, 27, 28, 29, 30, 31, 32, 33, 34, 35, 36, 37, 38, 39] [[.inr 0], [.inr 2], [.inr 7], [.inl 1, .inl 2], [.inl 3], [.inl 0, .inl 4], [.inl 5], [.inl 6], [.inl 7, .inr 0], [.inl 7, .inr 2], [.inl 7, .inr 7], [.inl 7, .inl 9, .inl 10], [.inl 7, .inl 11], [.inl 7, .inl 8, .inl 12], [.inl 7, .inr 1], [.inl 7, .inr 7], [.inl 7, .inl 14, .inl 15], [.inl 7, .inl 16], [.inl 7, .inl 13, .inl 17], [.inl 7, .inl 18], [.inl 7, .inl 19]] [[(0, DLs a)], [(2, DRunes rs)], [(7, .v (.int .i64 (i : Int)))], [(20, DRunes rs), (21, .v (.int .i64 (i : Int)))], [(22, .ipin (rcell (rs[i])))], [(19, DLs a), (23, .v (.int .i32 (rs[i])))], [(24, .v (.int .i64 (idxI a (rs[i]))))], [(25, .v (.bool false))], [(26, .v (.bool false)), (0, DLs a)], [(26, .v (.bool false)), (2, DRunes rs)], [(26, .v (.bool false)), (7, .v (.int .i64 (i : Int)))], [(26, .v (.bool false)), (28, DRunes rs), (29, .v (.int .i64 (i : Int)))], [(26, .v (.bool false)), (30, .ipin (rcell (rs[i])))], [(26, .v (.bool false)), (27, DLs a), (31, .v (.int .i32 (rs[i])))], [(26, .v (.bool false)), (1, DMasks ms)], [(26, .v (.bool false)), (7, .v (.int .i64 (i : Int)))], [(26, .v (.bool false)), (33, DMasks ms), (34, .v (.int .i64 (i : Int)))], [(26, .v (.bool false)), (35, .ipin (encU (ms[i])))], [(26, .v (.bool false)), (32, .v (.int .u32 (clsOf a (rs[i])))), (36, .v (.int .u32 (ms[i])))], [(26, .v (.bool false)), (37, .v (.bool (hasC (clsOf a (rs[i])) (ms[i]))))], [(26, .v (.bool false)), (38, .v (.bool (!hasC (clsOf a (rs[i])) (ms[i]))))]] rfl (by kernel_rfl) (by kernel_rfl) rfl ?_ ?_
        · refine OpsOk.cons (fun rest => ?_) ?_
          · refine SOps.move rfl ?_
            exact SOps.nil (by first | rfl | simp_all)
          refine OpsOk.cons (fun rest => ?_) ?_
          · refine SOps.move rfl ?_
            exact SOps.nil (by first | rfl | simp_all)
          refine OpsOk.cons (fun rest => ?_) ?_
          · refine SOps.move rfl ?_
            exact SOps.nil (by first | rfl | simp_all)
          refine OpsOk.cons (fun rest => ?_) ?_
          · refine SOps.indexM (i) rfl rfl sliceB_40_21_1 (by omega) (by omega) ?_
            exact SOps.nil (by first | rfl | simp_all)
          refine OpsOk.cons (fun rest => ?_) ?_
          · refine SOps.loadPin rfl flatB_21 ?_
            exact SOps.nil (by first | rfl | simp_all)
          refine OpsOk.cons (fun rest => ?_) ?_
          · refine SOps.callP (r1Index _ _) rfl ?_
            rintro _ rfl
            exact SOps.nil (by first | rfl | simp_all)
          refine OpsOk.cons (fun rest => ?_) ?_
          · refine SOps.bin rfl rfl rfl ?_
            exact SOps.nil (by simp only [hcase]; rfl)
          refine OpsOk.cons (fun rest => ?_) ?_
          · refine SOps.move rfl ?_
            exact SOps.nil (by first | rfl | simp_all)
          refine OpsOk.cons (fun rest => ?_) ?_
          · refine SOps.move rfl ?_
            exact SOps.nil (by first | rfl | simp_all)
          refine OpsOk.cons (fun rest => ?_) ?_
          · refine SOps.move rfl ?_
            exact SOps.nil (by first | rfl | simp_all)
          refine OpsOk.cons (fun rest => ?_) ?_
          · refine SOps.move rfl ?_
            exact SOps.nil (by first | rfl | simp_all)
          refine OpsOk.cons (fun rest => ?_) ?_
          · refine SOps.indexM (i) rfl rfl sliceB_40_21_1 (by omega) (by omega) ?_
            exact SOps.nil (by first | rfl | simp_all)
          refine OpsOk.cons (fun rest => ?_) ?_
          · refine SOps.loadPin rfl flatB_21 ?_
            exact SOps.nil (by first | rfl | simp_all)
          refine OpsOk.cons (fun rest => ?_) ?_
          · refine SOps.callP (r1Classes _ _) rfl ?_
            rintro _ rfl
            exact SOps.nil (by first | rfl | simp_all)
          refine OpsOk.cons (fun rest => ?_) ?_
          · refine SOps.move rfl ?_
            exact SOps.nil (by first | rfl | simp_all)
          refine OpsOk.cons (fun rest => ?_) ?_
          · refine SOps.move rfl ?_
            exact SOps.nil (by first | rfl | simp_all)
          refine OpsOk.cons (fun rest => ?_) ?_
          · refine SOps.indexM (i) rfl rfl sliceB_33_49_1 (by omega) (by omega) ?_
            exact SOps.nil (by first | rfl | simp_all)
          refine OpsOk.cons (fun rest => ?_) ?_
          · refine SOps.loadPin rfl flatB_49 ?_
            exact SOps.nil (by first | rfl | simp_all)
          refine OpsOk.cons (fun rest => ?_) ?_
          · refine SOps.callP (r1Has _ _) rfl ?_
            rintro _ rfl
            exact SOps.nil (by first | rfl | simp_all)
          refine OpsOk.cons (fun rest => ?_) ?_
          · refine SOps.un rfl rfl ?_
            exact SOps.nil (by first | rfl | simp_all)
          refine OpsOk.cons (fun rest => ?_) ?_
          · refine SOps.pick rfl rfl ?_
            exact SOps.nil (by first | rfl | simp_all)
          exact OpsOk.nil
        · show SCode _ _ _ _
          refine SCode.cond rfl (fun hc3 => ?_) (fun hc3 => ?_)
          · try simp only [decide_eq_true_eq, decide_eq_false_iff_not, Bool.not_eq_true', Bool.not_eq_false', beq_iff_eq, bne_iff_ne, ne_eq, beq_eq_false_iff_ne, bne_eq_false_iff_eq, Int.not_lt, Int.not_le, Nat.not_lt, Nat.not_le, Int.ofNat_lt, Int.ofNat_le, Bool.not_eq_eq_eq_not, Bool.not_true, Bool.not_false] at hc3
            refine SCode.seqR ?_
            refine SOps.assign rfl ?_
            refine SOps.nil ?_
            refine SCode.ret ?_
            exact ⟨_, Res.one (.tmp rfl), congrArg (fun b => DV.v (.bool b)) (Eq.symm (fits_bad hx hy (by rw [hc3]; simp))), rfl⟩
          · try simp only [decide_eq_true_eq, decide_eq_false_iff_not, Bool.not_eq_true', Bool.not_eq_false', beq_iff_eq, bne_iff_ne, ne_eq, beq_eq_false_iff_ne, bne_eq_false_iff_eq, Int.not_lt, Int.not_le, Nat.not_lt, Nat.not_le, Int.ofNat_lt, Int.ofNat_le, Bool.not_eq_eq_eq_not, Bool.not_true, Bool.not_false] at hc3
            refine SCode.skip ?_
            show SCode _ _ _ _
            refine SCode.region ?_
            refine SOps.move rfl ?_
            refine SOps.addI rfl rfl (by omega) (by omega) ?_
            refine SOps.assign rfl ?_
            refine SOps.nil ?_
            exact ⟨i + 1, by exact ⟨by omega, fits_at (by omega) hx hy hf (by rw [Bool.and_eq_true]; refine ⟨?_, hc3⟩; obtain ⟨k, hk⟩ := idxI_nonneg.1 (Int.not_lt.1 (of_decide_eq_false hcase)); rw [hk]; rfl)⟩, by omega, (St.Le.of ⟨(by first | rfl | (show some _ = some _; simp)), (by first | rfl | (show some _ = some _; simp)), (by first | rfl | (show some _ = some _; simp)), (by first | rfl | (show some _ = some _; simp)), (by first | rfl | (show some _ = some _; simp)), trivial⟩ rfl (by first | rfl | (simp)))⟩
      · refine SCode.drawPure mixed_ [(19, DLs a), (20, DRunes rs), (21, .v (.int .i64 (i : Int))), (22, .ipin (rcell (rs[i]))), (23, .v (.int .i32 (rs[i]))), (24, .v (.int .i64 (idxI a (rs[i])))), (25, .v (.bool true)), (26, .v (.bool true)), (27, .v (.tuple #[])), (28, .v (.tuple #[])), (29, .v (.tuple #[])), (30, .v (.tuple #[])), (31, .v (.tuple #[])), (32, .v (.tuple #[])), (33, .v (.tuple #[])), (34, .v (.tuple #[])), (35, .v (.tuple #[])), (36, .v (.tuple #[])), (37, .v (.tuple #[])), (38, .v (.tuple #[])), (39, .v (.bool true))] [19, 20, 21, 22, 23, 24, 25, 26, 27, 28, 29, 30, 31, 32, 33, 34, 35, 36, 37, 38, 39] [[.inr 0], [.inr 2], [.inr 7], [.inl 1, .inl 2], [.inl 3], [.inl 0, .inl 4], [.inl 5], [.inl 6], [.inl 7], [.inl 7], [.inl 7], [.inl 7], [.inl 7], [.inl 7], [.inl 7], [.inl 7], [.inl 7], [.inl 7], [.inl 7], [.inl 7], [.inl 7, .inl 19]] [[(0, DLs a)], [(2, DRunes rs)], [(7, .v (.int .i64 (i : Int)))], [(20, DRunes rs), (21, .v (.int .i64 (i : Int)))], [(22, .ipin (rcell (rs[i])))], [(19, DLs a), (23, .v (.int .i32 (rs[i])))], [(24, .v (.int .i64 (idxI a (rs[i]))))], [(25, .v (.bool true))], [(26, .v (.bool true))], [(26, .v (.bool true))], [(26, .v (.bool true))], [(26, .v (.bool true))], [(26, .v (.bool true))], [(26, .v (.bool true))], [(26, .v (.bool true))], [(26, .v (.bool true))], [(26, .v (.bool true))], [(26, .v (.bool true))], [(26, .v (.bool true))], [(26, .v (.bool true))], [(26, .v (.bool true)), (38, .v (.tuple #[]))]] rfl (by kernel_rfl) (by kernel_rfl) rfl ?_ ?_
        · refine OpsOk.cons (fun rest => ?_) ?_
          · refine SOps.move rfl ?_
            exact SOps.nil (by first | rfl | simp_all)
          refine OpsOk.cons (fun rest => ?_) ?_
          · refine SOps.move rfl ?_
            exact SOps.nil (by first | rfl | simp_all)
          refine OpsOk.cons (fun rest => ?_) ?_
          · refine SOps.move rfl ?_
            exact SOps.nil (by first | rfl | simp_all)
          refine OpsOk.cons (fun rest => ?_) ?_
          · refine SOps.indexM (i) rfl rfl sliceB_40_21_1 (by omega) (by omega) ?_
            exact SOps.nil (by first | rfl | simp_all)
          refine OpsOk.cons (fun rest => ?_) ?_
          · refine SOps.loadPin rfl flatB_21 ?_
            exact SOps.nil (by first | rfl | simp_all)
          refine OpsOk.cons (fun rest => ?_) ?_
          · refine SOps.callP (r1Index _ _) rfl ?_
            rintro _ rfl
            exact SOps.nil (by first | rfl | simp_all)
          refine OpsOk.cons (fun rest => ?_) ?_
          · refine SOps.bin rfl rfl rfl ?_
            exact SOps.nil (by simp only [hcase]; rfl)
          refine OpsOk.cons (fun rest => ?_) ?_
          · refine SOps.move rfl ?_
            exact SOps.nil (by first | rfl | simp_all)
          refine OpsOk.cons (fun rest => ?_) ?_
          · refine SOps.skip rfl ?_
            exact SOps.nil (by first | rfl | simp_all)
          refine OpsOk.cons (fun rest => ?_) ?_
          · refine SOps.skip rfl ?_
            exact SOps.nil (by first | rfl | simp_all)
          refine OpsOk.cons (fun rest => ?_) ?_
          · refine SOps.skip rfl ?_
            exact SOps.nil (by first | rfl | simp_all)
          refine OpsOk.cons (fun rest => ?_) ?_
          · refine SOps.skip rfl ?_
            exact SOps.nil (by first | rfl | simp_all)
          refine OpsOk.cons (fun rest => ?_) ?_
          · refine SOps.skip rfl ?_
            exact SOps.nil (by first | rfl | simp_all)
          refine OpsOk.cons (fun rest => ?_) ?_
          · refine SOps.skip rfl ?_
            exact SOps.nil (by first | rfl | simp_all)
          refine OpsOk.cons (fun rest => ?_) ?_
          · refine SOps.skip rfl ?_
            exact SOps.nil (by first | rfl | simp_all)
          refine OpsOk.cons (fun rest => ?_) ?_
          · refine SOps.skip rfl ?_
            exact SOps.nil (by first | rfl | simp_all)
          refine OpsOk.cons (fun rest => ?_) ?_
          · refine SOps.skip rfl ?_
            exact SOps.nil (by first | rfl | simp_all)
          refine OpsOk.cons (fun rest => ?_) ?_
          · refine SOps.skip rfl ?_
            exact SOps.nil (by first | rfl | simp_all)
          refine OpsOk.cons (fun rest => ?_) ?_
          · refine SOps.skip rfl ?_
            exact SOps.nil (by first | rfl | simp_all)
          refine OpsOk.cons (fun rest => ?_) ?_
          · refine SOps.skip rfl ?_
            exact SOps.nil (by first | rfl | simp_all)
          refine OpsOk.cons (fun rest => ?_) ?_
          · refine SOps.pick rfl rfl ?_
            exact SOps.nil (by first | rfl | simp_all)
          exact OpsOk.nil
        · show SCode _ _ _ _
          refine SCode.cond rfl (fun _ => ?_) (fun h => by cases h)
          refine SCode.seqR ?_
          refine SOps.assign rfl ?_
          refine SOps.nil ?_
          refine SCode.ret ?_
          exact ⟨_, Res.one (.tmp rfl), congrArg (fun b => DV.v (.bool b)) (Eq.symm (fits_bad hx hy (by cases h : idx a (rs[i]) with | none => rfl | some k => (have := of_decide_eq_true hcase; rw [idxI_some h] at this; omega)))), rfl⟩
    · try simp only [decide_eq_true_eq, decide_eq_false_iff_not, Bool.not_eq_true', Bool.not_eq_false', beq_iff_eq, bne_iff_ne, ne_eq, beq_eq_false_iff_ne, bne_eq_false_iff_eq, Int.not_lt, Int.not_le, Nat.not_lt, Nat.not_le, Int.ofNat_lt, Int.ofNat_le, Bool.not_eq_eq_eq_not, Bool.not_true, Bool.not_false] at hc2
      refine SCode.exit ?_
      show SCode _ _ _ _
      refine SCode.seqR ?_
      refine SOps.assign rfl ?_
      refine SOps.nil ?_
      refine SCode.ret ?_
      exact ⟨_, Res.one (.tmp rfl), congrArg (fun b => DV.v (.bool b)) (Eq.symm (fits_end (by omega) (by omega) hf)), rfl⟩
theorem ronset (a : List Letter) (ons : List (List Int)) (ml mr : Int) (rs : List Int)  : GCall Tryd.prog E 41 [DLs a, DP ons ml mr, DRunes rs] [] (fun d H => d = .v (.bool (onsetR a ons rs)) ∧ H = []) := by
  refine GCall.body (C := ⟨Tryd.prog, E, true⟩) Tryd.func41 rfl (fun _ => rfl) (by kernel_rfl) rfl ?_
  refine SCode.seqR ?_
  refine SOps.boxAM rfl rfl ?_
  refine SOps.assign rfl ?_
  refine SOps.nil ?_
  refine SCode.seq ?_
  refine SCode.seqR ?_
  refine SOps.assign rfl ?_
  refine SOps.nil ?_
  refine SCode.block ?_
  refine SCode.loop1 (fun (i : Nat) => (⟨26, [(0, DLs a), (2, DRunes rs), (4, .ipin [DOns ons, .v (.int .i64 ml), .v (.int .i64 mr)]), (6, .v (.bool false)), (7, .v (.int .i64 (i : Int)))], []⟩ : St)) (fun (i : Nat) => i ≤ ons.length ∧ ∀ x ∈ ons.take i, fits a x rs = false) (fun (i : Nat) => ons.length - i) (0) (by simp) (St.Le.of ⟨(by first | rfl | (show some _ = some _; simp)), (by first | rfl | (show some _ = some _; simp)), (by first | rfl | (show some _ = some _; simp)), (by first | rfl | (show some _ = some _; simp)), (by first | rfl | (show some _ = some _; simp)), trivial⟩ rfl (by first | rfl | (simp))) ?_
  rintro i ⟨hi, hf⟩
  refine SCode.seq ?_
  refine SCode.seqR ?_
  refine SOps.move rfl ?_
  refine SOps.fieldPin rfl fieldB_24_0_0 ?_
  refine SOps.loadPin rfl flatB_22 ?_
  refine SOps.lenM rfl sliceB_22_33_1 ?_
  refine SOps.fact (isl_len (t := 10) rfl) (fun hB => ?_)
  simp only [List.length_map, lenB] at hB
  refine SOps.bin rfl rfl rfl ?_
  refine SOps.nil ?_
  refine SCode.cond rfl (fun hc1 => ?_) (fun hc1 => ?_)
  · try simp only [decide_eq_true_eq, decide_eq_false_iff_not, Bool.not_eq_true', Bool.not_eq_false', beq_iff_eq, bne_iff_ne, ne_eq, beq_eq_false_iff_ne, bne_eq_false_iff_eq, Int.not_lt, Int.not_le, Nat.not_lt, Nat.not_le, Int.ofNat_lt, Int.ofNat_le, Bool.not_eq_eq_eq_not, Bool.not_true, Bool.not_false] at hc1
    refine SCode.skip ?_
    show SCode _ _ _ _
    refine SCode.seq ?_
    refine SCode.block ?_
    refine SCode.seqR ?_
    refine SOps.move rfl ?_
    refine SOps.fieldPin rfl fieldB_24_0_0 ?_
    refine SOps.loadPin rfl flatB_22 ?_
    refine SOps.move rfl ?_
    refine SOps.indexM (i) rfl rfl sliceB_22_33_1 (by omega) (by omega) ?_
    refine SOps.loadPin rfl flatB_33 ?_
    refine SOps.move rfl ?_
    refine SOps.callP (rFits _ _ _) rfl ?_
    rintro _ rfl
    refine SOps.nil ?_
    refine SCode.cond rfl (fun hc2 => ?_) (fun hc2 => ?_)
    · try simp only [decide_eq_true_eq, decide_eq_false_iff_not, Bool.not_eq_true', Bool.not_eq_false', beq_iff_eq, bne_iff_ne, ne_eq, beq_eq_false_iff_ne, bne_eq_false_iff_eq, Int.not_lt, Int.not_le, Nat.not_lt, Nat.not_le, Int.ofNat_lt, Int.ofNat_le, Bool.not_eq_eq_eq_not, Bool.not_true, Bool.not_false] at hc2
      refine SCode.seqR ?_
      refine SOps.assign rfl ?_
      refine SOps.nil ?_
      refine SCode.ret ?_
      exact ⟨_, Res.one (.tmp rfl), congrArg (fun b => DV.v (.bool b)) (Eq.symm (by rw [onsetR, List.any_eq_true.2 ⟨_, List.getElem_mem (show i < ons.length by omega), hc2⟩]; simp)), rfl⟩
    · try simp only [decide_eq_true_eq, decide_eq_false_iff_not, Bool.not_eq_true', Bool.not_eq_false', beq_iff_eq, bne_iff_ne, ne_eq, beq_eq_false_iff_ne, bne_eq_false_iff_eq, Int.not_lt, Int.not_le, Nat.not_lt, Nat.not_le, Int.ofNat_lt, Int.ofNat_le, Bool.not_eq_eq_eq_not, Bool.not_true, Bool.not_false] at hc2
      refine SCode.skip ?_
      show SCode _ _ _ _
      refine SCode.region ?_
      refine SOps.move rfl ?_
      refine SOps.addI rfl rfl (by omega) (by omega) ?_
      refine SOps.assign rfl ?_
      refine SOps.nil ?_
      exact ⟨i + 1, by exact ⟨by omega, take_more hf (by omega) hc2⟩, by omega, (St.Le.of ⟨(by first | rfl | (show some _ = some _; simp)), (by first | rfl | (show some _ = some _; simp)), (by first | rfl | (show some _ = some _; simp)), (by first | rfl | (show some _ = some _; simp)), (by first | rfl | (show some _ = some _; simp)), trivial⟩ rfl (by first | rfl | (simp)))⟩
  · try simp only [decide_eq_true_eq, decide_eq_false_iff_not, Bool.not_eq_true', Bool.not_eq_false', beq_iff_eq, bne_iff_ne, ne_eq, beq_eq_false_iff_ne, bne_eq_false_iff_eq, Int.not_lt, Int.not_le, Nat.not_lt, Nat.not_le, Int.ofNat_lt, Int.ofNat_le, Bool.not_eq_eq_eq_not, Bool.not_true, Bool.not_false] at hc1
    refine SCode.exit ?_
    show SCode _ _ _ _
    refine SCode.seqR ?_
    refine SOps.move rfl ?_
    refine SOps.lenM rfl sliceB_40_21_1 ?_
    refine SOps.bin rfl rfl rfl ?_
    refine SOps.assign rfl ?_
    refine SOps.nil ?_
    refine SCode.ret ?_
    exact ⟨_, Res.one (.tmp rfl), congrArg (fun b => DV.v (.bool b)) (Eq.symm (by rw [onsetR, List.any_eq_false.2 (fun x hx => by rw [all_of (by omega) hf x hx]; simp)]; cases rs <;> simp; omega)), rfl⟩
theorem rOnset (a : List Letter) (ons : List (List Int)) (ml mr : Int) (s : ByteArray) (hs : s.size ≤ 1048576) : GCall Tryd.prog E 22 [DLs a, DP ons ml mr, .v (.string s)] [] (fun d H => d = .v (.bool (onset a ons s)) ∧ H = []) := by
  refine GCall.body (C := ⟨Tryd.prog, E, true⟩) Tryd.func22 rfl (fun _ => rfl) (by kernel_rfl) rfl ?_
  refine SCode.seqR ?_
  refine SOps.boxAM rfl rfl ?_
  refine SOps.assign rfl ?_
  refine SOps.nil ?_
  refine SCode.seqR ?_
  refine SOps.move rfl ?_
  refine SOps.loadPinA rfl aggB_24_3 (Nat.le_of_ble_eq_true rfl) ?_
  refine SOps.move rfl ?_
  refine SOps.runesF rfl rfl strB_9 sliceB_40_21_1 intB_21_i32 ?_
  refine SOps.callP (ronset _ _ _ _ _) rfl ?_
  rintro _ rfl
  refine SOps.assign rfl ?_
  refine SOps.nil ?_
  refine SCode.ret ?_
  exact ⟨_, Res.one (.tmp rfl), rfl, rfl⟩
theorem sOnset (a : List Letter) (ons : List (List Int)) (ml mr : Int) (s : ByteArray) (hs : s.size ≤ 1048576) : GCall Tryd.prog E 21 [DLs a, DP ons ml mr, .v (.string s)] [] (fun d H => d = .v (.bool (onset a ons s)) ∧ H = []) := by
  have hrl := runes_len s
  refine GCall.body (C := ⟨Tryd.prog, E, true⟩) Tryd.func21 rfl (fun _ => rfl) (by kernel_rfl) rfl ?_
  refine SCode.seqR ?_
  refine SOps.boxF rfl rfl rfl ?_
  refine SOps.boxAM rfl rfl ?_
  refine SOps.assign rfl ?_
  refine SOps.nil ?_
  refine SCode.seqR ?_
  refine SOps.move rfl ?_
  refine SOps.runesF rfl rfl strB_9 sliceB_40_21_1 intB_21_i32 ?_
  refine SOps.alloc (sz := 1) zeroIs_40 (fun b0 hb_0 => ?_)
  refine SOps.storeM 0 rfl rfl oneB_40 rfl ?_
  refine SOps.freezeRef (t := 7) 0 0 rfl rfl rfl rfl rfl ?_
  refine SOps.nil ?_
  refine SCode.seqR ?_
  refine SOps.loadPin rfl flatB_40 ?_
  refine SOps.lenM rfl sliceB_40_21_1 ?_
  refine SOps.bin rfl rfl rfl ?_
  refine SOps.move rfl ?_
  refine SOps.caseB 13 rfl (fun hb1 => ?_) (fun hb1 => ?_)
  · try simp only [decide_eq_true_eq, decide_eq_false_iff_not, Bool.not_eq_true', Bool.not_eq_false', beq_iff_eq, bne_iff_ne, ne_eq, beq_eq_false_iff_ne, bne_eq_false_iff_eq, Int.not_lt, Int.not_le, Nat.not_lt, Nat.not_le, Int.ofNat_lt, Int.ofNat_le, Bool.not_eq_eq_eq_not, Bool.not_true, Bool.not_false] at hb1
    refine SOps.skip rfl ?_
    refine SOps.skip rfl ?_
    refine SOps.skip rfl ?_
    refine SOps.skip rfl ?_
    refine SOps.pick rfl rfl ?_
    refine SOps.assign rfl ?_
    refine SOps.nil ?_
    refine SCode.ret ?_
    exact ⟨_, Res.one (.tmp rfl), congrArg (fun b => DV.v (.bool b)) (Eq.symm (by rw [onset, onsetR, List.isEmpty_iff.2 (List.eq_nil_of_length_eq_zero (by omega))]; rfl)), rfl⟩
  · try simp only [decide_eq_true_eq, decide_eq_false_iff_not, Bool.not_eq_true', Bool.not_eq_false', beq_iff_eq, bne_iff_ne, ne_eq, beq_eq_false_iff_ne, bne_eq_false_iff_eq, Int.not_lt, Int.not_le, Nat.not_lt, Nat.not_le, Int.ofNat_lt, Int.ofNat_le, Bool.not_eq_eq_eq_not, Bool.not_true, Bool.not_false] at hb1
    refine SOps.fieldPin rfl fieldB_24_0_0 ?_
    refine SOps.loadPin rfl flatB_22 ?_
    refine SOps.makeFunc rfl ?_
    refine SOps.callP (lContainsFunc (fun ms => fits a ms (runes s)) _ (fun x => sOnset1 a x (runes s))) rfl ?_
    rintro _ rfl
    refine SOps.pick rfl rfl ?_
    refine SOps.assign rfl ?_
    refine SOps.nil ?_
    refine SCode.ret ?_
    exact ⟨_, Res.one (.tmp rfl), congrArg (fun b => DV.v (.bool b)) (Eq.symm (by rw [onset, onsetR, show (runes s).isEmpty = false from by cases h : runes s with | nil => (rw [h] at hb1; simp at hb1) | cons _ _ => rfl]; rfl)), rfl⟩
theorem sCheck (hV : VS E) (a : List Letter) (ons : List (List Int)) (ml mr : Int) (s : ByteArray)  : GCall Tryd.prog E 42 [DLs a, DP ons ml mr, .v (.string s)] [] (fun d H => d = .v (.int .i64 (checkE a ons ml mr s)) ∧ H = []) := by
  refine GCall.body (C := ⟨Tryd.prog, E, true⟩) Tryd.func42 rfl (fun _ => rfl) (by kernel_rfl) rfl ?_
  refine SCode.seqR ?_
  refine SOps.boxAM rfl rfl ?_
  refine SOps.assign rfl ?_
  refine SOps.nil ?_
  refine SCode.seq ?_
  refine SCode.seqR ?_
  refine SOps.move rfl ?_
  refine SOps.callP (aValid _) rfl ?_
  rintro _ rfl
  refine SOps.un rfl rfl ?_
  refine SOps.move rfl ?_
  refine SOps.caseB 10 rfl (fun hb1 => ?_) (fun hb1 => ?_)
  · try simp only [decide_eq_true_eq, decide_eq_false_iff_not, Bool.not_eq_true', Bool.not_eq_false', beq_iff_eq, bne_iff_ne, ne_eq, beq_eq_false_iff_ne, bne_eq_false_iff_eq, Int.not_lt, Int.not_le, Nat.not_lt, Nat.not_le, Int.ofNat_lt, Int.ofNat_le, Bool.not_eq_eq_eq_not, Bool.not_true, Bool.not_false] at hb1
    refine SOps.skip rfl ?_
    refine SOps.skip rfl ?_
    refine SOps.skip rfl ?_
    refine SOps.pick rfl rfl ?_
    refine SOps.move rfl ?_
    refine SOps.skip rfl ?_
    refine SOps.skip rfl ?_
    refine SOps.skip rfl ?_
    refine SOps.skip rfl ?_
    refine SOps.pick rfl rfl ?_
    refine SOps.nil ?_
    refine SCode.cond rfl (fun _ => ?_) (fun h => by cases h)
    refine SCode.seqR ?_
    refine SOps.assign rfl ?_
    refine SOps.nil ?_
    refine SCode.ret ?_
    exact ⟨_, Res.one (.tmp rfl), by simp_all [checkE], rfl⟩
  · try simp only [decide_eq_true_eq, decide_eq_false_iff_not, Bool.not_eq_true', Bool.not_eq_false', beq_iff_eq, bne_iff_ne, ne_eq, beq_eq_false_iff_ne, bne_eq_false_iff_eq, Int.not_lt, Int.not_le, Nat.not_lt, Nat.not_le, Int.ofNat_lt, Int.ofNat_le, Bool.not_eq_eq_eq_not, Bool.not_true, Bool.not_false] at hb1
    refine SOps.loadPinA rfl aggB_24_3 (Nat.le_of_ble_eq_true rfl) ?_
    refine SOps.callP (sValid _ _ _) rfl ?_
    rintro _ rfl
    refine SOps.un rfl rfl ?_
    refine SOps.pick rfl rfl ?_
    refine SOps.move rfl ?_
    refine SOps.caseB 15 rfl (fun hb2 => ?_) (fun hb2 => ?_)
    · try simp only [decide_eq_true_eq, decide_eq_false_iff_not, Bool.not_eq_true', Bool.not_eq_false', beq_iff_eq, bne_iff_ne, ne_eq, beq_eq_false_iff_ne, bne_eq_false_iff_eq, Int.not_lt, Int.not_le, Nat.not_lt, Nat.not_le, Int.ofNat_lt, Int.ofNat_le, Bool.not_eq_eq_eq_not, Bool.not_true, Bool.not_false] at hb2
      refine SOps.skip rfl ?_
      refine SOps.skip rfl ?_
      refine SOps.skip rfl ?_
      refine SOps.skip rfl ?_
      refine SOps.pick rfl rfl ?_
      refine SOps.nil ?_
      refine SCode.cond rfl (fun _ => ?_) (fun h => by cases h)
      refine SCode.seqR ?_
      refine SOps.assign rfl ?_
      refine SOps.nil ?_
      refine SCode.ret ?_
      exact ⟨_, Res.one (.tmp rfl), by simp_all [checkE], rfl⟩
    · try simp only [decide_eq_true_eq, decide_eq_false_iff_not, Bool.not_eq_true', Bool.not_eq_false', beq_iff_eq, bne_iff_ne, ne_eq, beq_eq_false_iff_ne, bne_eq_false_iff_eq, Int.not_lt, Int.not_le, Nat.not_lt, Nat.not_le, Int.ofNat_lt, Int.ofNat_le, Bool.not_eq_eq_eq_not, Bool.not_true, Bool.not_false] at hb2
      refine SOps.move rfl ?_
      refine SOps.move rfl ?_
      refine SOps.callP (aIsWord hV _ _) rfl ?_
      rintro _ rfl
      refine SOps.un rfl rfl ?_
      refine SOps.pick rfl rfl ?_
      refine SOps.nil ?_
      refine SCode.cond rfl (fun hc3 => ?_) (fun hc3 => ?_)
      · try simp only [decide_eq_true_eq, decide_eq_false_iff_not, Bool.not_eq_true', Bool.not_eq_false', beq_iff_eq, bne_iff_ne, ne_eq, beq_eq_false_iff_ne, bne_eq_false_iff_eq, Int.not_lt, Int.not_le, Nat.not_lt, Nat.not_le, Int.ofNat_lt, Int.ofNat_le, Bool.not_eq_eq_eq_not, Bool.not_true, Bool.not_false] at hc3
        refine SCode.seqR ?_
        refine SOps.assign rfl ?_
        refine SOps.nil ?_
        refine SCode.ret ?_
        exact ⟨_, Res.one (.tmp rfl), by simp_all [checkE], rfl⟩
      · try simp only [decide_eq_true_eq, decide_eq_false_iff_not, Bool.not_eq_true', Bool.not_eq_false', beq_iff_eq, bne_iff_ne, ne_eq, beq_eq_false_iff_ne, bne_eq_false_iff_eq, Int.not_lt, Int.not_le, Nat.not_lt, Nat.not_le, Int.ofNat_lt, Int.ofNat_le, Bool.not_eq_eq_eq_not, Bool.not_true, Bool.not_false] at hc3
        refine SCode.skip ?_
        show SCode _ _ _ _
        refine SCode.seqR ?_
        refine SOps.assign rfl ?_
        refine SOps.nil ?_
        refine SCode.ret ?_
        exact ⟨_, Res.one (.tmp rfl), by simp_all [checkE], rfl⟩
theorem rCheck (a : List Letter) (ons : List (List Int)) (ml mr : Int) (s : ByteArray) (hs : s.size ≤ 4611686018427387904) : GCall Tryd.prog E 43 [DLs a, DP ons ml mr, .v (.string s)] [] (fun d H => d = .v (.int .i64 (checkE a ons ml mr s)) ∧ H = []) := by
  refine GCall.body (C := ⟨Tryd.prog, E, true⟩) Tryd.func43 rfl (fun _ => rfl) (by kernel_rfl) rfl ?_
  refine SCode.seqR ?_
  refine SOps.boxAM rfl rfl ?_
  refine SOps.assign rfl ?_
  refine SOps.nil ?_
  refine SCode.seq ?_
  refine SCode.seqR ?_
  refine SOps.move rfl ?_
  refine SOps.callP (r1Valid _) rfl ?_
  rintro _ rfl
  refine SOps.un rfl rfl ?_
  refine SOps.move rfl ?_
  refine SOps.caseB 10 rfl (fun hb1 => ?_) (fun hb1 => ?_)
  · try simp only [decide_eq_true_eq, decide_eq_false_iff_not, Bool.not_eq_true', Bool.not_eq_false', beq_iff_eq, bne_iff_ne, ne_eq, beq_eq_false_iff_ne, bne_eq_false_iff_eq, Int.not_lt, Int.not_le, Nat.not_lt, Nat.not_le, Int.ofNat_lt, Int.ofNat_le, Bool.not_eq_eq_eq_not, Bool.not_true, Bool.not_false] at hb1
    refine SOps.skip rfl ?_
    refine SOps.skip rfl ?_
    refine SOps.skip rfl ?_
    refine SOps.pick rfl rfl ?_
    refine SOps.move rfl ?_
    refine SOps.skip rfl ?_
    refine SOps.skip rfl ?_
    refine SOps.skip rfl ?_
    refine SOps.skip rfl ?_
    refine SOps.pick rfl rfl ?_
    refine SOps.nil ?_
    refine SCode.cond rfl (fun _ => ?_) (fun h => by cases h)
    refine SCode.seqR ?_
    refine SOps.assign rfl ?_
    refine SOps.nil ?_
    refine SCode.ret ?_
    exact ⟨_, Res.one (.tmp rfl), by simp_all [checkE], rfl⟩
  · try simp only [decide_eq_true_eq, decide_eq_false_iff_not, Bool.not_eq_true', Bool.not_eq_false', beq_iff_eq, bne_iff_ne, ne_eq, beq_eq_false_iff_ne, bne_eq_false_iff_eq, Int.not_lt, Int.not_le, Nat.not_lt, Nat.not_le, Int.ofNat_lt, Int.ofNat_le, Bool.not_eq_eq_eq_not, Bool.not_true, Bool.not_false] at hb1
    refine SOps.loadPinA rfl aggB_24_3 (Nat.le_of_ble_eq_true rfl) ?_
    refine SOps.callP (rValid _ _ _) rfl ?_
    rintro _ rfl
    refine SOps.un rfl rfl ?_
    refine SOps.pick rfl rfl ?_
    refine SOps.move rfl ?_
    refine SOps.caseB 15 rfl (fun hb2 => ?_) (fun hb2 => ?_)
    · try simp only [decide_eq_true_eq, decide_eq_false_iff_not, Bool.not_eq_true', Bool.not_eq_false', beq_iff_eq, bne_iff_ne, ne_eq, beq_eq_false_iff_ne, bne_eq_false_iff_eq, Int.not_lt, Int.not_le, Nat.not_lt, Nat.not_le, Int.ofNat_lt, Int.ofNat_le, Bool.not_eq_eq_eq_not, Bool.not_true, Bool.not_false] at hb2
      refine SOps.skip rfl ?_
      refine SOps.skip rfl ?_
      refine SOps.skip rfl ?_
      refine SOps.skip rfl ?_
      refine SOps.pick rfl rfl ?_
      refine SOps.nil ?_
      refine SCode.cond rfl (fun _ => ?_) (fun h => by cases h)
      refine SCode.seqR ?_
      refine SOps.assign rfl ?_
      refine SOps.nil ?_
      refine SCode.ret ?_
      exact ⟨_, Res.one (.tmp rfl), by simp_all [checkE], rfl⟩
    · try simp only [decide_eq_true_eq, decide_eq_false_iff_not, Bool.not_eq_true', Bool.not_eq_false', beq_iff_eq, bne_iff_ne, ne_eq, beq_eq_false_iff_ne, bne_eq_false_iff_eq, Int.not_lt, Int.not_le, Nat.not_lt, Nat.not_le, Int.ofNat_lt, Int.ofNat_le, Bool.not_eq_eq_eq_not, Bool.not_true, Bool.not_false] at hb2
      refine SOps.move rfl ?_
      refine SOps.move rfl ?_
      refine SOps.callP (r1IsWord _ _ (by omega)) rfl ?_
      rintro _ rfl
      refine SOps.un rfl rfl ?_
      refine SOps.pick rfl rfl ?_
      refine SOps.nil ?_
      refine SCode.cond rfl (fun hc3 => ?_) (fun hc3 => ?_)
      · try simp only [decide_eq_true_eq, decide_eq_false_iff_not, Bool.not_eq_true', Bool.not_eq_false', beq_iff_eq, bne_iff_ne, ne_eq, beq_eq_false_iff_ne, bne_eq_false_iff_eq, Int.not_lt, Int.not_le, Nat.not_lt, Nat.not_le, Int.ofNat_lt, Int.ofNat_le, Bool.not_eq_eq_eq_not, Bool.not_true, Bool.not_false] at hc3
        refine SCode.seqR ?_
        refine SOps.assign rfl ?_
        refine SOps.nil ?_
        refine SCode.ret ?_
        exact ⟨_, Res.one (.tmp rfl), by simp_all [checkE], rfl⟩
      · try simp only [decide_eq_true_eq, decide_eq_false_iff_not, Bool.not_eq_true', Bool.not_eq_false', beq_iff_eq, bne_iff_ne, ne_eq, beq_eq_false_iff_ne, bne_eq_false_iff_eq, Int.not_lt, Int.not_le, Nat.not_lt, Nat.not_le, Int.ofNat_lt, Int.ofNat_le, Bool.not_eq_eq_eq_not, Bool.not_true, Bool.not_false] at hc3
        refine SCode.skip ?_
        show SCode _ _ _ _
        refine SCode.seqR ?_
        refine SOps.assign rfl ?_
        refine SOps.nil ?_
        refine SCode.ret ?_
        exact ⟨_, Res.one (.tmp rfl), by simp_all [checkE], rfl⟩
theorem sSplit (hV : VS E) (a : List Letter) (ons : List (List Int)) (ml mr : Int) (s : ByteArray) (hs : s.size ≤ 65536) : GCall Tryd.prog E 23 [DLs a, DP ons ml mr, .v (.string s)] [] (fun d H => d = .tup [DStrs (if checkE a ons ml mr s = 0 then splitA a ons s else []), .v (.int .i64 (checkE a ons ml mr s))] ∧ H = []) := by
  have hrl := runes_len s
  have hnl : (nuclei a s).length ≤ (runes s).length := nucF_len _ _ _
  refine GCall.body (C := ⟨Tryd.prog, E, true⟩) Tryd.func23 rfl (fun _ => rfl) (by kernel_rfl) rfl ?_
  refine SCode.seqR ?_
  refine SOps.boxAM rfl rfl ?_
  refine SOps.assign rfl ?_
  refine SOps.assign rfl ?_
  refine SOps.nil ?_
  refine SCode.seq ?_
  refine SCode.seqR ?_
  refine SOps.move rfl ?_
  refine SOps.loadPinA rfl aggB_24_3 (Nat.le_of_ble_eq_true rfl) ?_
  refine SOps.move rfl ?_
  refine SOps.callP (sCheck hV _ _ _ _ _) rfl ?_
  rintro _ rfl
  refine SOps.assign rfl ?_
  refine SOps.nil ?_
  refine SCode.seqR ?_
  refine SOps.move rfl ?_
  refine SOps.bin rfl rfl rfl ?_
  refine SOps.nil ?_
  refine SCode.cond rfl (fun hc1 => ?_) (fun hc1 => ?_)
  · try simp only [decide_eq_true_eq, decide_eq_false_iff_not, Bool.not_eq_true', Bool.not_eq_false', beq_iff_eq, bne_iff_ne, ne_eq, beq_eq_false_iff_ne, bne_eq_false_iff_eq, Int.not_lt, Int.not_le, Nat.not_lt, Nat.not_le, Int.ofNat_lt, Int.ofNat_le, Bool.not_eq_eq_eq_not, Bool.not_true, Bool.not_false] at hc1
    refine SCode.seqR ?_
    refine SOps.move rfl ?_
    refine SOps.assign rfl ?_
    refine SOps.nilIsl (t := 6) (sz := 1) rfl ?_
    refine SOps.assign rfl ?_
    refine SOps.nil ?_
    refine SCode.ret ?_
    exact ⟨_, Res.two (.tmp rfl) (.tmp rfl), by rw [if_neg hc1]; rfl, rfl⟩
  · try simp only [decide_eq_true_eq, decide_eq_false_iff_not, Bool.not_eq_true', Bool.not_eq_false', beq_iff_eq, bne_iff_ne, ne_eq, beq_eq_false_iff_ne, bne_eq_false_iff_eq, Int.not_lt, Int.not_le, Nat.not_lt, Nat.not_le, Int.ofNat_lt, Int.ofNat_le, Bool.not_eq_eq_eq_not, Bool.not_true, Bool.not_false] at hc1
    refine SCode.skip ?_
    show SCode _ _ _ _
    refine SCode.seqR ?_
    refine SOps.move rfl ?_
    refine SOps.runesF rfl rfl strB_9 sliceB_40_21_1 intB_21_i32 ?_
    refine SOps.move rfl ?_
    refine SOps.move rfl ?_
    refine SOps.callP (sNuclei _ _ (by omega)) rfl ?_
    rintro _ rfl
    refine SOps.assign rfl ?_
    refine SOps.assign rfl ?_
    refine SOps.nil ?_
    refine SCode.seqR ?_
    refine SOps.assign rfl ?_
    refine SOps.nil ?_
    refine SCode.seqR ?_
    refine SOps.assign rfl ?_
    refine SOps.nil ?_
    refine SCode.seq ?_
    refine SCode.seqR ?_
    refine SOps.assign rfl ?_
    refine SOps.nil ?_
    refine SCode.block ?_
    refine SCode.loop4 (fun (i : Nat) (frm : Nat) (acc : List ByteArray) (c : Nat) => (⟨73, [(0, DLs a), (4, .ipin [DOns ons, .v (.int .i64 ml), .v (.int .i64 mr)]), (9, DRunes (runes s)), (10, DNats (nuclei a s)), (11, accD 1 c (acc.map encS)), (12, .v (.int .i64 (frm : Int))), (13, .v (.int .i64 ((i : Int) + 1)))], accH 9 1 c (acc.map encS) ++ []⟩ : St)) (fun (i : Nat) (frm : Nat) (acc : List ByteArray) (c : Nat) => (∀ h : i < (nuclei a s).length, frm ≤ (nuclei a s)[i]) ∧ frm ≤ (runes s).length ∧ acc.length ≤ i ∧ i ≤ (runes s).length ∧ acc ++ pieces (runes s) frm (cutsF a ons (runes s) ((nuclei a s).drop i)) = splitA a ons s) (fun (i : Nat) (frm : Nat) (acc : List ByteArray) (c : Nat) => (nuclei a s).length - i) (0) (0) ([]) (0) (by exact ⟨fun _ => Nat.zero_le _, Nat.zero_le _, Nat.le_refl _, Nat.zero_le _, rfl⟩) (St.Le.of ⟨(by first | rfl | (show some _ = some _; simp)), (by first | rfl | (show some _ = some _; simp)), (by first | rfl | (show some _ = some _; simp)), (by first | rfl | (show some _ = some _; simp)), (by first | rfl | (show some _ = some _; simp)), (by first | rfl | (show some _ = some _; simp)), (by first | rfl | (show some _ = some _; simp)), trivial⟩ rfl (by first | rfl | (simp))) ?_
    rintro i frm acc c ⟨hfr, hfl, hl, hil, hf⟩
    refine SCode.seq ?_
    refine SCode.seqR ?_
    refine SOps.move rfl ?_
    refine SOps.move rfl ?_
    refine SOps.lenM rfl sliceB_30_3_1 ?_
    refine SOps.bin rfl rfl rfl ?_
    refine SOps.nil ?_
    refine SCode.cond rfl (fun hc2 => ?_) (fun hc2 => ?_)
    · try simp only [decide_eq_true_eq, decide_eq_false_iff_not, Bool.not_eq_true', Bool.not_eq_false', beq_iff_eq, bne_iff_ne, ne_eq, beq_eq_false_iff_ne, bne_eq_false_iff_eq, Int.not_lt, Int.not_le, Nat.not_lt, Nat.not_le, Int.ofNat_lt, Int.ofNat_le, Bool.not_eq_eq_eq_not, Bool.not_true, Bool.not_false] at hc2
      have hi1 : i + 1 < (nuclei a s).length := by omega
      refine SCode.skip ?_
      show SCode _ _ _ _
      refine SCode.seq ?_
      refine SCode.block ?_
      refine SCode.seqR ?_
      have hnb := nuc_bounds hi1
      have hfr1 := hfr (by omega)
      refine SOps.move rfl ?_
      refine SOps.move rfl ?_
      refine SOps.subI rfl rfl (by first | omega | (simp only [lenB]; omega)) (by first | omega | (simp only [lenB]; omega)) ?_
      refine SOps.indexM (i) rfl rfl sliceB_30_3_1 (by first | omega | (simp only [lenB]; omega)) (by first | omega | (simp only [lenB]; omega)) ?_
      refine SOps.loadPin rfl flatB_3 ?_
      refine SOps.addI rfl rfl (by first | omega | (simp only [lenB]; omega)) (by first | omega | (simp only [lenB]; omega)) ?_
      refine SOps.assign rfl ?_
      refine SOps.nil ?_
      refine SCode.seq ?_
      refine SCode.block ?_
      refine SCode.loop1 (fun (t : Nat) => (⟨73, [(0, DLs a), (4, .ipin [DOns ons, .v (.int .i64 ml), .v (.int .i64 mr)]), (9, DRunes (runes s)), (10, DNats (nuclei a s)), (11, accD 1 c (acc.map encS)), (12, .v (.int .i64 (frm : Int))), (13, .v (.int .i64 ((i : Int) + 1))), (14, .v (.int .i64 (t : Int)))], accH 9 1 c (acc.map encS) ++ []⟩ : St)) (fun (t : Nat) => ((nuclei a s)[i]) + 1 ≤ t ∧ t ≤ ((nuclei a s)[i + 1]) ∧ firstOn (fun t => onsetR a ons (cutR (runes s) t ((nuclei a s)[i + 1]))) ((nuclei a s)[i + 1]) t = cutAt a ons (runes s) ((nuclei a s)[i]) ((nuclei a s)[i + 1])) (fun (t : Nat) => ((nuclei a s)[i + 1]) - t) (((nuclei a s)[i]) + 1) (by exact ⟨by omega, by omega, rfl⟩) (St.Le.of ⟨(by first | rfl | (show some _ = some _; simp)), (by first | rfl | (show some _ = some _; simp)), (by first | rfl | (show some _ = some _; simp)), (by first | rfl | (show some _ = some _; simp)), (by first | rfl | (show some _ = some _; simp)), (by first | rfl | (show some _ = some _; simp)), (by first | rfl | (show some _ = some _; simp)), (by first | rfl | (show some _ = some _; simp)), trivial⟩ rfl (by first | rfl | (simp))) ?_
      rintro t ⟨ht1, ht2, hfo⟩
      refine SCode.seq ?_
      refine SCode.seq ?_
      have hcl := cutR_len (runes s) t ((nuclei a s)[i + 1])
      have hce := encs_size (cutR (runes s) t ((nuclei a s)[i + 1]))
      refine SCode.drawPure mixed_ [(39, DLs a), (40, DP ons ml mr), (41, DRunes (runes s)), (42, .v (.int .i64 (t : Int))), (43, DNats (nuclei a s)), (44, .v (.int .i64 ((i : Int) + 1))), (45, .ipin (encN (((nuclei a s)[i + 1])))), (46, .v (.int .i64 ((((nuclei a s)[i + 1]) : Nat) : Int))), (47, DRunes (cutR (runes s) t ((nuclei a s)[i + 1]))), (48, .v (.string (encs (cutR (runes s) t ((nuclei a s)[i + 1]))))), (49, .v (.bool (onset a ons (encs (cutR (runes s) t ((nuclei a s)[i + 1])))))), (50, .v (.bool (!onset a ons (encs (cutR (runes s) t ((nuclei a s)[i + 1]))))))] [39, 40, 41, 42, 43, 44, 45, 46, 47, 48, 49, 50] [[.inr 0], [.inr 4], [.inr 9], [.inr 14], [.inr 10], [.inr 13], [.inl 4, .inl 5], [.inl 6], [.inl 2, .inl 3, .inl 7], [.inl 8], [.inl 0, .inl 1, .inl 9], [.inl 10]] [[(0, DLs a)], [(4, .ipin [DOns ons, .v (.int .i64 ml), .v (.int .i64 mr)])], [(9, DRunes (runes s))], [(14, .v (.int .i64 (t : Int)))], [(10, DNats (nuclei a s))], [(13, .v (.int .i64 ((i : Int) + 1)))], [(43, DNats (nuclei a s)), (44, .v (.int .i64 ((i : Int) + 1)))], [(45, .ipin (encN (((nuclei a s)[i + 1]))))], [(41, DRunes (runes s)), (42, .v (.int .i64 (t : Int))), (46, .v (.int .i64 ((((nuclei a s)[i + 1]) : Nat) : Int)))], [(47, DRunes (cutR (runes s) t ((nuclei a s)[i + 1])))], [(39, DLs a), (40, DP ons ml mr), (48, .v (.string (encs (cutR (runes s) t ((nuclei a s)[i + 1])))))], [(49, .v (.bool (onset a ons (encs (cutR (runes s) t ((nuclei a s)[i + 1]))))))]] rfl (by kernel_rfl) (by kernel_rfl) rfl ?_ ?_
      · refine OpsOk.cons (fun rest => ?_) ?_
        · refine SOps.move rfl ?_
          exact SOps.nil (by first | rfl | simp_all)
        refine OpsOk.cons (fun rest => ?_) ?_
        · refine SOps.loadPinA rfl aggB_24_3 (Nat.le_of_ble_eq_true rfl) ?_
          exact SOps.nil (by first | rfl | simp_all)
        refine OpsOk.cons (fun rest => ?_) ?_
        · refine SOps.move rfl ?_
          exact SOps.nil (by first | rfl | simp_all)
        refine OpsOk.cons (fun rest => ?_) ?_
        · refine SOps.move rfl ?_
          exact SOps.nil (by first | rfl | simp_all)
        refine OpsOk.cons (fun rest => ?_) ?_
        · refine SOps.move rfl ?_
          exact SOps.nil (by first | rfl | simp_all)
        refine OpsOk.cons (fun rest => ?_) ?_
        · refine SOps.move rfl ?_
          exact SOps.nil (by first | rfl | simp_all)
        refine OpsOk.cons (fun rest => ?_) ?_
        · refine SOps.indexM (i + 1) rfl rfl sliceB_30_3_1 (by first | omega | (simp only [lenB]; omega)) (by first | omega | (simp only [lenB]; omega)) ?_
          exact SOps.nil (by first | rfl | simp_all)
        refine OpsOk.cons (fun rest => ?_) ?_
        · refine SOps.loadPin rfl flatB_3 ?_
          exact SOps.nil (by first | rfl | simp_all)
        refine OpsOk.cons (fun rest => ?_) ?_
        · refine SOps.sliceM (n1 := 0) (t) (((nuclei a s)[i + 1])) sliceB_40_21_1 rfl (.at (t) rfl (by first | omega | (simp only [lenB]; omega))) (.at (((nuclei a s)[i + 1])) rfl (by first | omega | (simp only [lenB]; omega))) (by first | omega | (simp only [lenB]; omega)) (by first | omega | (simp only [lenB]; omega)) ?_
          exact SOps.nil (by first | rfl | simp_all)
        refine OpsOk.cons (fun rest => ?_) ?_
        · refine SOps.convRunesStr rfl sliceB_40_21_1 intB_21_i32 strB_9 (by simp [lenB] <;> (first | omega | (simp only [lenB]; omega))) ?_
          exact SOps.nil (by first | rfl | simp_all)
        refine OpsOk.cons (fun rest => ?_) ?_
        · refine SOps.callP (sOnset _ _ _ _ _ (by omega)) rfl ?_
          rintro _ rfl
          exact SOps.nil (by first | rfl | simp_all)
        refine OpsOk.cons (fun rest => ?_) ?_
        · refine SOps.un rfl rfl ?_
          exact SOps.nil (by first | rfl | simp_all)
        exact OpsOk.nil
      · show SCode _ _ _ _
        refine SCode.cond rfl (fun hc3 => ?_) (fun hc3 => ?_)
        · try simp only [decide_eq_true_eq, decide_eq_false_iff_not, Bool.not_eq_true', Bool.not_eq_false', beq_iff_eq, bne_iff_ne, ne_eq, beq_eq_false_iff_ne, bne_eq_false_iff_eq, Int.not_lt, Int.not_le, Nat.not_lt, Nat.not_le, Int.ofNat_lt, Int.ofNat_le, Bool.not_eq_eq_eq_not, Bool.not_true, Bool.not_false] at hc3
          have hno : onsetR a ons (cutR (runes s) t ((nuclei a s)[i + 1])) = false := by rw [onset_cut] at hc3; exact hc3
          refine SCode.skip ?_
          show SCode _ _ _ _
          refine SCode.block ?_
          refine SCode.region ?_
          refine SOps.move rfl ?_
          refine SOps.addI rfl rfl (by first | omega | (simp only [lenB]; omega)) (by first | omega | (simp only [lenB]; omega)) ?_
          refine SOps.assign rfl ?_
          refine SOps.nil ?_
          exact ⟨t + 1, by exact ⟨by omega, by have := cut_more hno ht2; omega, by rw [← hfo]; exact (firstOn_no hno (cut_more hno ht2)).symm⟩, by have := cut_more hno ht2; omega, (St.Le.of ⟨(by first | rfl | (show some _ = some _; simp)), (by first | rfl | (show some _ = some _; simp)), (by first | rfl | (show some _ = some _; simp)), (by first | rfl | (show some _ = some _; simp)), (by first | rfl | (show some _ = some _; simp)), (by first | rfl | (show some _ = some _; simp)), (by first | rfl | (show some _ = some _; simp)), (by first | rfl | (show some _ = some _; simp)), trivial⟩ rfl (by first | rfl | (simp)))⟩
        · try simp only [decide_eq_true_eq, decide_eq_false_iff_not, Bool.not_eq_true', Bool.not_eq_false', beq_iff_eq, bne_iff_ne, ne_eq, beq_eq_false_iff_ne, bne_eq_false_iff_eq, Int.not_lt, Int.not_le, Nat.not_lt, Nat.not_le, Int.ofNat_lt, Int.ofNat_le, Bool.not_eq_eq_eq_not, Bool.not_true, Bool.not_false] at hc3
          have hyes : onsetR a ons (cutR (runes s) t ((nuclei a s)[i + 1])) = true := by rw [onset_cut] at hc3; exact hc3
          refine SCode.exit ?_
          show SCode _ _ _ _
          refine SCode.seqR ?_
          refine SOps.move rfl ?_
          refine SOps.move rfl ?_
          refine SOps.move rfl ?_
          refine SOps.move rfl ?_
          refine SOps.sliceM (n1 := 0) (frm) (t) sliceB_40_21_1 rfl (.at (frm) rfl (by first | omega | (simp only [lenB]; omega))) (.at (t) rfl (by first | omega | (simp only [lenB]; omega))) (by first | omega | (simp only [lenB]; omega)) (by first | omega | (simp only [lenB]; omega)) ?_
          refine SOps.convRunesStr rfl sliceB_40_21_1 intB_21_i32 strB_9 (by simp [lenB] <;> (first | omega | (simp only [lenB]; omega))) ?_
          refine SOps.litF rfl sliceB_35_9_1 zeroIs_9 rfl ?_
          refine SOps.appendAcc [] [] sliceB_35_9_1 elemB_9_1_16 rfl rfl rfl SrcD.isl (by simp) (by simp [lenB] <;> (first | omega | (simp only [lenB]; omega))) (by simp <;> (first | omega | (simp only [lenB]; omega))) (fun b0 => ?_)
          refine SOps.assign rfl ?_
          refine SOps.nil ?_
          refine SCode.region ?_
          refine SOps.move rfl ?_
          refine SOps.assign rfl ?_
          refine SOps.nil ?_
          show SCode _ _ _ _
          refine SCode.region ?_
          refine SOps.move rfl ?_
          refine SOps.addI rfl rfl (by first | omega | (simp only [lenB]; omega)) (by first | omega | (simp only [lenB]; omega)) ?_
          refine SOps.assign rfl ?_
          refine SOps.nil ?_
          have hcut : cutAt a ons (runes s) ((nuclei a s)[i]) ((nuclei a s)[i + 1]) = t := by rw [← hfo]; exact firstOn_yes hyes
          exact ⟨i + 1, t, acc ++ [encs (cutR (runes s) frm t)], b0, ⟨fun _ => ht2, by omega, by simp; omega, by omega, by rw [← hf, cutsF_drop hi1, hcut, pieces_cons, List.append_assoc]⟩, by omega, St.Le.of ⟨rfl, rfl, rfl, rfl, (by show some _ = some _; rw [List.map_append]; rfl), rfl, rfl, trivial⟩ rfl (by rw [List.map_append]; rfl)⟩
    · try simp only [decide_eq_true_eq, decide_eq_false_iff_not, Bool.not_eq_true', Bool.not_eq_false', beq_iff_eq, bne_iff_ne, ne_eq, beq_eq_false_iff_ne, bne_eq_false_iff_eq, Int.not_lt, Int.not_le, Nat.not_lt, Nat.not_le, Int.ofNat_lt, Int.ofNat_le, Bool.not_eq_eq_eq_not, Bool.not_true, Bool.not_false] at hc2
      refine SCode.exit ?_
      show SCode _ _ _ _
      refine SCode.seq ?_
      refine SCode.seqR ?_
      have hcs : cutsF a ons (runes s) ((nuclei a s).drop i) = [] := cutsF_end (by omega)
      rw [hcs] at hf
      refine SOps.move rfl ?_
      refine SOps.lenM rfl sliceB_40_21_1 ?_
      refine SOps.bin rfl rfl rfl ?_
      refine SOps.nil ?_
      refine SCode.cond rfl (fun hc4 => ?_) (fun hc4 => ?_)
      · try simp only [decide_eq_true_eq, decide_eq_false_iff_not, Bool.not_eq_true', Bool.not_eq_false', beq_iff_eq, bne_iff_ne, ne_eq, beq_eq_false_iff_ne, bne_eq_false_iff_eq, Int.not_lt, Int.not_le, Nat.not_lt, Nat.not_le, Int.ofNat_lt, Int.ofNat_le, Bool.not_eq_eq_eq_not, Bool.not_true, Bool.not_false] at hc4
        refine SCode.region ?_
        refine SOps.move rfl ?_
        refine SOps.move rfl ?_
        refine SOps.move rfl ?_
        refine SOps.sliceD (n1 := 0) (frm) sliceB_40_21_1 rfl rfl (by first | omega | (simp only [lenB]; omega)) (by first | omega | (simp only [lenB]; omega)) ?_
        refine SOps.convRunesStr rfl sliceB_40_21_1 intB_21_i32 strB_9 (by simp [lenB] <;> (first | omega | (simp only [lenB]; omega))) ?_
        refine SOps.litF rfl sliceB_35_9_1 zeroIs_9 rfl ?_
        refine SOps.appendAcc [] [] sliceB_35_9_1 elemB_9_1_16 rfl rfl rfl SrcD.isl (by simp) (by simp [lenB] <;> (first | omega | (simp only [lenB]; omega))) (by simp <;> (first | omega | (simp only [lenB]; omega))) (fun b1 => ?_)
        refine SOps.assign rfl ?_
        refine SOps.nil ?_
        show SCode _ _ _ _
        refine SCode.seqR ?_
        refine SOps.freezeAcc (t := 11) [] [] rfl rfl rfl ?_
        refine SOps.move rfl ?_
        refine SOps.assign rfl ?_
        refine SOps.assign rfl ?_
        refine SOps.nil ?_
        refine SCode.ret ?_
        exact ⟨_, Res.two (.tmp rfl) (.tmp rfl), by rw [if_pos hc1, hc1, ← hf, pieces, if_pos (by omega)]; show _ = DV.tup [.isl false 1 (List.map encS (acc ++ _)), _]; rw [List.map_append]; rfl, rfl⟩
      · try simp only [decide_eq_true_eq, decide_eq_false_iff_not, Bool.not_eq_true', Bool.not_eq_false', beq_iff_eq, bne_iff_ne, ne_eq, beq_eq_false_iff_ne, bne_eq_false_iff_eq, Int.not_lt, Int.not_le, Nat.not_lt, Nat.not_le, Int.ofNat_lt, Int.ofNat_le, Bool.not_eq_eq_eq_not, Bool.not_true, Bool.not_false] at hc4
        refine SCode.skip ?_
        show SCode _ _ _ _
        refine SCode.seqR ?_
        refine SOps.freezeAcc (t := 11) [] [] rfl rfl rfl ?_
        refine SOps.move rfl ?_
        refine SOps.assign rfl ?_
        refine SOps.assign rfl ?_
        refine SOps.nil ?_
        refine SCode.ret ?_
        exact ⟨_, Res.two (.tmp rfl) (.tmp rfl), by rw [if_pos hc1, hc1, ← hf, pieces, if_neg (by omega), List.append_nil], rfl⟩
theorem rStarts (a : List Letter) (ons : List (List Int)) (ml mr : Int) (s : ByteArray) (hs : s.size ≤ 65536) : GCall Tryd.prog E 44 [DLs a, DP ons ml mr, .v (.string s)] [] (fun d H => d = DNats (starts a ons s) ∧ H = []) := by
  have hrl := runes_len s
  have hnl : (nuclei a s).length ≤ (runes s).length := nucF_len _ _ _
  refine GCall.body (C := ⟨Tryd.prog, E, true⟩) Tryd.func44 rfl (fun _ => rfl) (by kernel_rfl) rfl ?_
  refine SCode.seqR ?_
  refine SOps.boxAM rfl rfl ?_
  refine SOps.assign rfl ?_
  refine SOps.nil ?_
  refine SCode.seqR ?_
  refine SOps.move rfl ?_
  refine SOps.runesF rfl rfl strB_9 sliceB_40_21_1 intB_21_i32 ?_
  refine SOps.assign rfl ?_
  refine SOps.nil ?_
  refine SCode.seqR ?_
  refine SOps.litO sliceB_30_3_1 zeroIs_3 rfl (fun b0 hb_0 => ?_)
  refine SOps.assign rfl ?_
  refine SOps.nil ?_
  refine SCode.seqJ (fun (j : Nat) => (⟨54, [(0, DLs a), (2, .v (.string s)), (4, .ipin [DOns ons, .v (.int .i64 ml), .v (.int .i64 mr)]), (7, DRunes (runes s)), (8, .sl j 1 0 (st0 s).length)], [(j, .row 3 1 ((st0 s).map encN))]⟩ : St)) ?_ ?_
  · refine SCode.seqR ?_
    refine SOps.move rfl ?_
    refine SOps.lenM rfl sliceB_40_21_1 ?_
    refine SOps.bin rfl rfl rfl ?_
    refine SOps.nil ?_
    refine SCode.cond rfl (fun hc1 => ?_) (fun hc1 => ?_)
    · try simp only [decide_eq_true_eq, decide_eq_false_iff_not, Bool.not_eq_true', Bool.not_eq_false', beq_iff_eq, bne_iff_ne, ne_eq, beq_eq_false_iff_ne, bne_eq_false_iff_eq, Int.not_lt, Int.not_le, Nat.not_lt, Nat.not_le, Int.ofNat_lt, Int.ofNat_le, Bool.not_eq_eq_eq_not, Bool.not_true, Bool.not_false] at hc1
      refine SCode.region ?_
      refine SOps.move rfl ?_
      refine SOps.litF rfl sliceB_30_3_1 zeroIs_3 rfl ?_
      refine SOps.appendOwn 0 sliceB_30_3_1 elemB_3_1_8 rfl rfl rfl (by simp) SrcD.isl (by simp) (by simp [lenB] <;> (first | omega | (simp only [lenB]; omega))) (by simp <;> (first | omega | (simp only [lenB]; omega))) (fun b1 hb_1 => ?_)
      refine SOps.assign rfl ?_
      refine SOps.nil ?_
      first
        | (have h0 : st0 s = [0] := (by rw [st0, if_pos (by omega)]); exact ⟨b1, by rw [h0]; exact St.Le.of ⟨rfl, rfl, rfl, rfl, rfl, trivial⟩⟩)
        | (have h0 : st0 s = [] := (by rw [st0, if_neg (by omega)]); exact ⟨b0, by rw [h0]; exact St.Le.of ⟨rfl, rfl, rfl, rfl, rfl, trivial⟩⟩)
    · try simp only [decide_eq_true_eq, decide_eq_false_iff_not, Bool.not_eq_true', Bool.not_eq_false', beq_iff_eq, bne_iff_ne, ne_eq, beq_eq_false_iff_ne, bne_eq_false_iff_eq, Int.not_lt, Int.not_le, Nat.not_lt, Nat.not_le, Int.ofNat_lt, Int.ofNat_le, Bool.not_eq_eq_eq_not, Bool.not_true, Bool.not_false] at hc1
      refine SCode.skip ?_
      first
        | (have h0 : st0 s = [0] := (by rw [st0, if_pos (by omega)]); exact ⟨b1, by rw [h0]; exact St.Le.of ⟨rfl, rfl, rfl, rfl, rfl, trivial⟩⟩)
        | (have h0 : st0 s = [] := (by rw [st0, if_neg (by omega)]); exact ⟨b0, by rw [h0]; exact St.Le.of ⟨rfl, rfl, rfl, rfl, rfl, trivial⟩⟩)
  · intro j
    refine SCode.seqR ?_
    refine SOps.move rfl ?_
    refine SOps.move rfl ?_
    refine SOps.callP (rNuclei _ _ (by omega)) rfl ?_
    rintro _ rfl
    refine SOps.assign rfl ?_
    refine SOps.nil ?_
    refine SCode.seq ?_
    refine SCode.seqR ?_
    refine SOps.assign rfl ?_
    refine SOps.nil ?_
    refine SCode.block ?_
    refine SCode.loop3 (fun (i : Nat) (acc : List Nat) (c : Nat) => (⟨54, [(0, DLs a), (4, .ipin [DOns ons, .v (.int .i64 ml), .v (.int .i64 mr)]), (7, DRunes (runes s)), (8, .sl c 1 0 acc.length), (9, DNats (nuclei a s)), (10, .v (.int .i64 ((i : Int) + 1)))], [(c, .row 3 1 (acc.map encN))]⟩ : St)) (fun (i : Nat) (acc : List Nat) (c : Nat) => acc.length ≤ i + 1 ∧ i ≤ (runes s).length ∧ acc ++ cutsF a ons (runes s) ((nuclei a s).drop i) = starts a ons s) (fun (i : Nat) (acc : List Nat) (c : Nat) => (nuclei a s).length - i) (0) (st0 s) (j) (by exact ⟨by unfold st0; split <;> simp, Nat.zero_le _, rfl⟩) (St.Le.of ⟨(by first | rfl | (show some _ = some _; simp)), (by first | rfl | (show some _ = some _; simp)), (by first | rfl | (show some _ = some _; simp)), (by first | rfl | (show some _ = some _; simp)), (by first | rfl | (show some _ = some _; simp)), (by first | rfl | (show some _ = some _; simp)), trivial⟩ rfl (by first | rfl | (simp))) ?_
    rintro i acc c ⟨hl, hil, hf⟩
    refine SCode.seq ?_
    refine SCode.seqR ?_
    refine SOps.move rfl ?_
    refine SOps.move rfl ?_
    refine SOps.lenM rfl sliceB_30_3_1 ?_
    refine SOps.bin rfl rfl rfl ?_
    refine SOps.nil ?_
    refine SCode.cond rfl (fun hc2 => ?_) (fun hc2 => ?_)
    · try simp only [decide_eq_true_eq, decide_eq_false_iff_not, Bool.not_eq_true', Bool.not_eq_false', beq_iff_eq, bne_iff_ne, ne_eq, beq_eq_false_iff_ne, bne_eq_false_iff_eq, Int.not_lt, Int.not_le, Nat.not_lt, Nat.not_le, Int.ofNat_lt, Int.ofNat_le, Bool.not_eq_eq_eq_not, Bool.not_true, Bool.not_false] at hc2
      have hi1 : i + 1 < (nuclei a s).length := by omega
      refine SCode.skip ?_
      show SCode _ _ _ _
      refine SCode.seq ?_
      refine SCode.block ?_
      refine SCode.seqR ?_
      have hnb := nuc_bounds hi1
      refine SOps.move rfl ?_
      refine SOps.move rfl ?_
      refine SOps.subI rfl rfl (by first | omega | (simp only [lenB]; omega)) (by first | omega | (simp only [lenB]; omega)) ?_
      refine SOps.indexM (i) rfl rfl sliceB_30_3_1 (by first | omega | (simp only [lenB]; omega)) (by first | omega | (simp only [lenB]; omega)) ?_
      refine SOps.loadPin rfl flatB_3 ?_
      refine SOps.addI rfl rfl (by first | omega | (simp only [lenB]; omega)) (by first | omega | (simp only [lenB]; omega)) ?_
      refine SOps.assign rfl ?_
      refine SOps.nil ?_
      refine SCode.seq ?_
      refine SCode.block ?_
      refine SCode.loop1 (fun (t : Nat) => (⟨54, [(0, DLs a), (4, .ipin [DOns ons, .v (.int .i64 ml), .v (.int .i64 mr)]), (7, DRunes (runes s)), (8, .sl c 1 0 acc.length), (9, DNats (nuclei a s)), (10, .v (.int .i64 ((i : Int) + 1))), (11, .v (.int .i64 (t : Int)))], [(c, .row 3 1 (acc.map encN))]⟩ : St)) (fun (t : Nat) => ((nuclei a s)[i]) + 1 ≤ t ∧ t ≤ ((nuclei a s)[i + 1]) ∧ firstOn (fun t => onsetR a ons (cutR (runes s) t ((nuclei a s)[i + 1]))) ((nuclei a s)[i + 1]) t = cutAt a ons (runes s) ((nuclei a s)[i]) ((nuclei a s)[i + 1])) (fun (t : Nat) => ((nuclei a s)[i + 1]) - t) (((nuclei a s)[i]) + 1) (by exact ⟨by omega, by omega, rfl⟩) (St.Le.of ⟨(by first | rfl | (show some _ = some _; simp)), (by first | rfl | (show some _ = some _; simp)), (by first | rfl | (show some _ = some _; simp)), (by first | rfl | (show some _ = some _; simp)), (by first | rfl | (show some _ = some _; simp)), (by first | rfl | (show some _ = some _; simp)), (by first | rfl | (show some _ = some _; simp)), trivial⟩ rfl (by first | rfl | (simp))) ?_
      rintro t ⟨ht1, ht2, hfo⟩
      refine SCode.seq ?_
      refine SCode.seq ?_
      refine SCode.drawPure mixed_ [(36, DLs a), (37, DP ons ml mr), (38, DRunes (runes s)), (39, .v (.int .i64 (t : Int))), (40, DNats (nuclei a s)), (41, .v (.int .i64 ((i : Int) + 1))), (42, .ipin (encN (((nuclei a s)[i + 1])))), (43, .v (.int .i64 ((((nuclei a s)[i + 1]) : Nat) : Int))), (44, DRunes (cutR (runes s) t ((nuclei a s)[i + 1]))), (45, .v (.bool (onsetR a ons (cutR (runes s) t ((nuclei a s)[i + 1]))))), (46, .v (.bool (!onsetR a ons (cutR (runes s) t ((nuclei a s)[i + 1])))))] [36, 37, 38, 39, 40, 41, 42, 43, 44, 45, 46] [[.inr 0], [.inr 4], [.inr 7], [.inr 11], [.inr 9], [.inr 10], [.inl 4, .inl 5], [.inl 6], [.inl 2, .inl 3, .inl 7], [.inl 0, .inl 1, .inl 8], [.inl 9]] [[(0, DLs a)], [(4, .ipin [DOns ons, .v (.int .i64 ml), .v (.int .i64 mr)])], [(7, DRunes (runes s))], [(11, .v (.int .i64 (t : Int)))], [(9, DNats (nuclei a s))], [(10, .v (.int .i64 ((i : Int) + 1)))], [(40, DNats (nuclei a s)), (41, .v (.int .i64 ((i : Int) + 1)))], [(42, .ipin (encN (((nuclei a s)[i + 1]))))], [(38, DRunes (runes s)), (39, .v (.int .i64 (t : Int))), (43, .v (.int .i64 ((((nuclei a s)[i + 1]) : Nat) : Int)))], [(36, DLs a), (37, DP ons ml mr), (44, DRunes (cutR (runes s) t ((nuclei a s)[i + 1])))], [(45, .v (.bool (onsetR a ons (cutR (runes s) t ((nuclei a s)[i + 1])))))]] rfl (by kernel_rfl) (by kernel_rfl) rfl ?_ ?_
      · refine OpsOk.cons (fun rest => ?_) ?_
        · refine SOps.move rfl ?_
          exact SOps.nil (by first | rfl | simp_all)
        refine OpsOk.cons (fun rest => ?_) ?_
        · refine SOps.loadPinA rfl aggB_24_3 (Nat.le_of_ble_eq_true rfl) ?_
          exact SOps.nil (by first | rfl | simp_all)
        refine OpsOk.cons (fun rest => ?_) ?_
        · refine SOps.move rfl ?_
          exact SOps.nil (by first | rfl | simp_all)
        refine OpsOk.cons (fun rest => ?_) ?_
        · refine SOps.move rfl ?_
          exact SOps.nil (by first | rfl | simp_all)
        refine OpsOk.cons (fun rest => ?_) ?_
        · refine SOps.move rfl ?_
          exact SOps.nil (by first | rfl | simp_all)
        refine OpsOk.cons (fun rest => ?_) ?_
        · refine SOps.move rfl ?_
          exact SOps.nil (by first | rfl | simp_all)
        refine OpsOk.cons (fun rest => ?_) ?_
        · refine SOps.indexM (i + 1) rfl rfl sliceB_30_3_1 (by first | omega | (simp only [lenB]; omega)) (by first | omega | (simp only [lenB]; omega)) ?_
          exact SOps.nil (by first | rfl | simp_all)
        refine OpsOk.cons (fun rest => ?_) ?_
        · refine SOps.loadPin rfl flatB_3 ?_
          exact SOps.nil (by first | rfl | simp_all)
        refine OpsOk.cons (fun rest => ?_) ?_
        · refine SOps.sliceM (n1 := 0) (t) (((nuclei a s)[i + 1])) sliceB_40_21_1 rfl (.at (t) rfl (by first | omega | (simp only [lenB]; omega))) (.at (((nuclei a s)[i + 1])) rfl (by first | omega | (simp only [lenB]; omega))) (by first | omega | (simp only [lenB]; omega)) (by first | omega | (simp only [lenB]; omega)) ?_
          exact SOps.nil (by first | rfl | simp_all)
        refine OpsOk.cons (fun rest => ?_) ?_
        · refine SOps.callP (ronset _ _ _ _ _) rfl ?_
          rintro _ rfl
          exact SOps.nil (by first | rfl | simp_all)
        refine OpsOk.cons (fun rest => ?_) ?_
        · refine SOps.un rfl rfl ?_
          exact SOps.nil (by first | rfl | simp_all)
        exact OpsOk.nil
      · show SCode _ _ _ _
        refine SCode.cond rfl (fun hc3 => ?_) (fun hc3 => ?_)
        · try simp only [decide_eq_true_eq, decide_eq_false_iff_not, Bool.not_eq_true', Bool.not_eq_false', beq_iff_eq, bne_iff_ne, ne_eq, beq_eq_false_iff_ne, bne_eq_false_iff_eq, Int.not_lt, Int.not_le, Nat.not_lt, Nat.not_le, Int.ofNat_lt, Int.ofNat_le, Bool.not_eq_eq_eq_not, Bool.not_true, Bool.not_false] at hc3
          have hno : onsetR a ons (cutR (runes s) t ((nuclei a s)[i + 1])) = false := hc3
          refine SCode.skip ?_
          show SCode _ _ _ _
          refine SCode.block ?_
          refine SCode.region ?_
          refine SOps.move rfl ?_
          refine SOps.addI rfl rfl (by first | omega | (simp only [lenB]; omega)) (by first | omega | (simp only [lenB]; omega)) ?_
          refine SOps.assign rfl ?_
          refine SOps.nil ?_
          exact ⟨t + 1, by exact ⟨by omega, by have := cut_more hno ht2; omega, by rw [← hfo]; exact (firstOn_no hno (cut_more hno ht2)).symm⟩, by have := cut_more hno ht2; omega, (St.Le.of ⟨(by first | rfl | (show some _ = some _; simp)), (by first | rfl | (show some _ = some _; simp)), (by first | rfl | (show some _ = some _; simp)), (by first | rfl | (show some _ = some _; simp)), (by first | rfl | (show some _ = some _; simp)), (by first | rfl | (show some _ = some _; simp)), (by first | rfl | (show some _ = some _; simp)), trivial⟩ rfl (by first | rfl | (simp)))⟩
        · try simp only [decide_eq_true_eq, decide_eq_false_iff_not, Bool.not_eq_true', Bool.not_eq_false', beq_iff_eq, bne_iff_ne, ne_eq, beq_eq_false_iff_ne, bne_eq_false_iff_eq, Int.not_lt, Int.not_le, Nat.not_lt, Nat.not_le, Int.ofNat_lt, Int.ofNat_le, Bool.not_eq_eq_eq_not, Bool.not_true, Bool.not_false] at hc3
          have hyes : onsetR a ons (cutR (runes s) t ((nuclei a s)[i + 1])) = true := hc3
          refine SCode.exit ?_
          show SCode _ _ _ _
          refine SCode.region ?_
          refine SOps.move rfl ?_
          refine SOps.move rfl ?_
          refine SOps.litF rfl sliceB_30_3_1 zeroIs_3 rfl ?_
          refine SOps.appendOwn 0 sliceB_30_3_1 elemB_3_1_8 rfl rfl rfl (by simp) SrcD.isl (by simp) (by simp [lenB] <;> (first | omega | (simp only [lenB]; omega))) (by simp <;> (first | omega | (simp only [lenB]; omega))) (fun b2 hb_2 => ?_)
          refine SOps.assign rfl ?_
          refine SOps.nil ?_
          show SCode _ _ _ _
          refine SCode.region ?_
          refine SOps.move rfl ?_
          refine SOps.addI rfl rfl (by first | omega | (simp only [lenB]; omega)) (by first | omega | (simp only [lenB]; omega)) ?_
          refine SOps.assign rfl ?_
          refine SOps.nil ?_
          have hcut : cutAt a ons (runes s) ((nuclei a s)[i]) ((nuclei a s)[i + 1]) = t := by rw [← hfo]; exact firstOn_yes hyes
          exact ⟨i + 1, acc ++ [t], b2, ⟨by simp; omega, by omega, by rw [← hf, cutsF_drop hi1, hcut, List.append_assoc]; rfl⟩, by omega, St.Le.of ⟨rfl, rfl, rfl, (by show some _ = some _; rw [List.length_append]; rfl), rfl, rfl, trivial⟩ rfl (by rw [List.map_append]; rfl)⟩
    · try simp only [decide_eq_true_eq, decide_eq_false_iff_not, Bool.not_eq_true', Bool.not_eq_false', beq_iff_eq, bne_iff_ne, ne_eq, beq_eq_false_iff_ne, bne_eq_false_iff_eq, Int.not_lt, Int.not_le, Nat.not_lt, Nat.not_le, Int.ofNat_lt, Int.ofNat_le, Bool.not_eq_eq_eq_not, Bool.not_true, Bool.not_false] at hc2
      refine SCode.exit ?_
      show SCode _ _ _ _
      refine SCode.seqR ?_
      have hcs : cutsF a ons (runes s) ((nuclei a s).drop i) = [] := cutsF_end (by omega)
      rw [hcs, List.append_nil] at hf
      subst hf
      refine SOps.freezeS (t := 8) 0 rfl rfl rfl (by simp) ?_
      refine SOps.move rfl ?_
      refine SOps.assign rfl ?_
      refine SOps.nil ?_
      refine SCode.drop ?_
      refine SCode.ret ?_
      exact ⟨_, Res.one (.tmp rfl), rfl, rfl⟩
theorem rSplit (a : List Letter) (ons : List (List Int)) (ml mr : Int) (s : ByteArray) (hs : s.size ≤ 65536) : GCall Tryd.prog E 24 [DLs a, DP ons ml mr, .v (.string s)] [] (fun d H => d = .tup [DStrs (if checkE a ons ml mr s = 0 then splitS (runes s) (starts a ons s) else []), .v (.int .i64 (checkE a ons ml mr s))] ∧ H = []) := by
  have hrl := runes_len s
  have hsl := starts_len a ons s
  refine GCall.body (C := ⟨Tryd.prog, E, true⟩) Tryd.func24 rfl (fun _ => rfl) (by kernel_rfl) rfl ?_
  refine SCode.seqR ?_
  refine SOps.boxAM rfl rfl ?_
  refine SOps.assign rfl ?_
  refine SOps.assign rfl ?_
  refine SOps.nil ?_
  refine SCode.seq ?_
  refine SCode.seqR ?_
  refine SOps.move rfl ?_
  refine SOps.loadPinA rfl aggB_24_3 (Nat.le_of_ble_eq_true rfl) ?_
  refine SOps.move rfl ?_
  refine SOps.callP (rCheck _ _ _ _ _ (by omega)) rfl ?_
  rintro _ rfl
  refine SOps.assign rfl ?_
  refine SOps.nil ?_
  refine SCode.seqR ?_
  refine SOps.move rfl ?_
  refine SOps.bin rfl rfl rfl ?_
  refine SOps.nil ?_
  refine SCode.cond rfl (fun hc1 => ?_) (fun hc1 => ?_)
  · try simp only [decide_eq_true_eq, decide_eq_false_iff_not, Bool.not_eq_true', Bool.not_eq_false', beq_iff_eq, bne_iff_ne, ne_eq, beq_eq_false_iff_ne, bne_eq_false_iff_eq, Int.not_lt, Int.not_le, Nat.not_lt, Nat.not_le, Int.ofNat_lt, Int.ofNat_le, Bool.not_eq_eq_eq_not, Bool.not_true, Bool.not_false] at hc1
    refine SCode.seqR ?_
    refine SOps.move rfl ?_
    refine SOps.assign rfl ?_
    refine SOps.nilIsl (t := 6) (sz := 1) rfl ?_
    refine SOps.assign rfl ?_
    refine SOps.nil ?_
    refine SCode.ret ?_
    exact ⟨_, Res.two (.tmp rfl) (.tmp rfl), by rw [if_neg hc1]; rfl, rfl⟩
  · try simp only [decide_eq_true_eq, decide_eq_false_iff_not, Bool.not_eq_true', Bool.not_eq_false', beq_iff_eq, bne_iff_ne, ne_eq, beq_eq_false_iff_ne, bne_eq_false_iff_eq, Int.not_lt, Int.not_le, Nat.not_lt, Nat.not_le, Int.ofNat_lt, Int.ofNat_le, Bool.not_eq_eq_eq_not, Bool.not_true, Bool.not_false] at hc1
    refine SCode.skip ?_
    show SCode _ _ _ _
    refine SCode.seqR ?_
    refine SOps.move rfl ?_
    refine SOps.runesF rfl rfl strB_9 sliceB_40_21_1 intB_21_i32 ?_
    refine SOps.assign rfl ?_
    refine SOps.nil ?_
    refine SCode.seqR ?_
    refine SOps.move rfl ?_
    refine SOps.loadPinA rfl aggB_24_3 (Nat.le_of_ble_eq_true rfl) ?_
    refine SOps.move rfl ?_
    refine SOps.callP (rStarts _ _ _ _ _ (by omega)) rfl ?_
    rintro _ rfl
    refine SOps.assign rfl ?_
    refine SOps.nil ?_
    refine SCode.seqR ?_
    refine SOps.litO sliceB_35_9_1 zeroIs_9 rfl (fun b0 hb_0 => ?_)
    refine SOps.assign rfl ?_
    refine SOps.nil ?_
    refine SCode.seq ?_
    refine SCode.seqR ?_
    refine SOps.assign rfl ?_
    refine SOps.nil ?_
    refine SCode.block ?_
    refine SCode.loop3 (fun (i : Nat) (acc : List ByteArray) (c : Nat) => (⟨58, [(0, DLs a), (4, .ipin [DOns ons, .v (.int .i64 ml), .v (.int .i64 mr)]), (9, DRunes (runes s)), (10, DNats (starts a ons s)), (11, .sl c 1 0 acc.length), (12, .v (.int .i64 (i : Int)))], [(c, .row 9 1 (acc.map encS))]⟩ : St)) (fun (i : Nat) (acc : List ByteArray) (c : Nat) => acc.length ≤ i ∧ i ≤ (starts a ons s).length ∧ acc ++ splitS (runes s) ((starts a ons s).drop i) = splitS (runes s) (starts a ons s)) (fun (i : Nat) (acc : List ByteArray) (c : Nat) => (starts a ons s).length - i) (0) ([]) (b0) (by exact ⟨Nat.le_refl _, Nat.zero_le _, rfl⟩) (St.Le.of ⟨(by first | rfl | (show some _ = some _; simp)), (by first | rfl | (show some _ = some _; simp)), (by first | rfl | (show some _ = some _; simp)), (by first | rfl | (show some _ = some _; simp)), (by first | rfl | (show some _ = some _; simp)), (by first | rfl | (show some _ = some _; simp)), trivial⟩ rfl (by first | rfl | (simp))) ?_
    rintro i acc c ⟨hl, hil, hf⟩
    refine SCode.seq ?_
    refine SCode.seqR ?_
    refine SOps.move rfl ?_
    refine SOps.move rfl ?_
    refine SOps.lenM rfl sliceB_30_3_1 ?_
    refine SOps.bin rfl rfl rfl ?_
    refine SOps.nil ?_
    refine SCode.cond rfl (fun hc2 => ?_) (fun hc2 => ?_)
    · try simp only [decide_eq_true_eq, decide_eq_false_iff_not, Bool.not_eq_true', Bool.not_eq_false', beq_iff_eq, bne_iff_ne, ne_eq, beq_eq_false_iff_ne, bne_eq_false_iff_eq, Int.not_lt, Int.not_le, Nat.not_lt, Nat.not_le, Int.ofNat_lt, Int.ofNat_le, Bool.not_eq_eq_eq_not, Bool.not_true, Bool.not_false] at hc2
      refine SCode.skip ?_
      show SCode _ _ _ _
      refine SCode.seq ?_
      refine SCode.block ?_
      refine SCode.seqR ?_
      refine SOps.move rfl ?_
      refine SOps.lenM rfl sliceB_40_21_1 ?_
      refine SOps.assign rfl ?_
      refine SOps.nil ?_
      refine SCode.seqJ (fun (_ : Nat) => (⟨58, [(0, DLs a), (4, .ipin [DOns ons, .v (.int .i64 ml), .v (.int .i64 mr)]), (9, DRunes (runes s)), (10, DNats (starts a ons s)), (11, .sl c 1 0 acc.length), (12, .v (.int .i64 (i : Int))), (13, .v (.int .i64 ((endS (runes s) (starts a ons s) i : Nat) : Int)))], [(c, .row 9 1 (acc.map encS))]⟩ : St)) ?_ ?_
      · refine SCode.seqR ?_
        refine SOps.move rfl ?_
        refine SOps.addI rfl rfl (by first | omega | (simp only [lenB]; omega)) (by first | omega | (simp only [lenB]; omega)) ?_
        refine SOps.move rfl ?_
        refine SOps.lenM rfl sliceB_30_3_1 ?_
        refine SOps.bin rfl rfl rfl ?_
        refine SOps.nil ?_
        refine SCode.cond rfl (fun hc3 => ?_) (fun hc3 => ?_)
        · try simp only [decide_eq_true_eq, decide_eq_false_iff_not, Bool.not_eq_true', Bool.not_eq_false', beq_iff_eq, bne_iff_ne, ne_eq, beq_eq_false_iff_ne, bne_eq_false_iff_eq, Int.not_lt, Int.not_le, Nat.not_lt, Nat.not_le, Int.ofNat_lt, Int.ofNat_le, Bool.not_eq_eq_eq_not, Bool.not_true, Bool.not_false] at hc3
          refine SCode.region ?_
          refine SOps.move rfl ?_
          refine SOps.move rfl ?_
          refine SOps.addI rfl rfl (by first | omega | (simp only [lenB]; omega)) (by first | omega | (simp only [lenB]; omega)) ?_
          refine SOps.indexM (i + 1) rfl rfl sliceB_30_3_1 (by first | omega | (simp only [lenB]; omega)) (by first | omega | (simp only [lenB]; omega)) ?_
          refine SOps.loadPin rfl flatB_3 ?_
          refine SOps.assign rfl ?_
          refine SOps.nil ?_
          first
            | (have h0 : endS (runes s) (starts a ons s) i = (starts a ons s)[i + 1] := endS_in (by omega); exact ⟨0, by rw [h0]; exact St.Le.of ⟨rfl, rfl, rfl, rfl, rfl, rfl, rfl, trivial⟩⟩)
            | (have h0 : endS (runes s) (starts a ons s) i = (runes s).length := endS_out (by omega); exact ⟨0, by rw [h0]; exact St.Le.of ⟨rfl, rfl, rfl, rfl, rfl, rfl, rfl, trivial⟩⟩)
        · try simp only [decide_eq_true_eq, decide_eq_false_iff_not, Bool.not_eq_true', Bool.not_eq_false', beq_iff_eq, bne_iff_ne, ne_eq, beq_eq_false_iff_ne, bne_eq_false_iff_eq, Int.not_lt, Int.not_le, Nat.not_lt, Nat.not_le, Int.ofNat_lt, Int.ofNat_le, Bool.not_eq_eq_eq_not, Bool.not_true, Bool.not_false] at hc3
          refine SCode.skip ?_
          first
            | (have h0 : endS (runes s) (starts a ons s) i = (starts a ons s)[i + 1] := endS_in (by omega); exact ⟨0, by rw [h0]; exact St.Le.of ⟨rfl, rfl, rfl, rfl, rfl, rfl, rfl, trivial⟩⟩)
            | (have h0 : endS (runes s) (starts a ons s) i = (runes s).length := endS_out (by omega); exact ⟨0, by rw [h0]; exact St.Le.of ⟨rfl, rfl, rfl, rfl, rfl, rfl, rfl, trivial⟩⟩)
      · intro _
        refine SCode.region ?_
        have hb1 := starts_bound a ons s i (by omega)
        refine SOps.move rfl ?_
        refine SOps.move rfl ?_
        refine SOps.move rfl ?_
        refine SOps.move rfl ?_
        refine SOps.indexM (i) rfl rfl sliceB_30_3_1 (by first | omega | (simp only [lenB]; omega)) (by first | omega | (simp only [lenB]; omega)) ?_
        refine SOps.loadPin rfl flatB_3 ?_
        refine SOps.move rfl ?_
        refine SOps.sliceM (n1 := 0) (((starts a ons s)[i])) (endS (runes s) (starts a ons s) i) sliceB_40_21_1 rfl (.at (((starts a ons s)[i])) rfl (by first | omega | (simp only [lenB]; omega))) (.at (endS (runes s) (starts a ons s) i) rfl (by first | omega | (simp only [lenB]; omega))) (by first | omega | (simp only [lenB]; omega)) (by first | omega | (simp only [lenB]; omega)) ?_
        refine SOps.convRunesStr rfl sliceB_40_21_1 intB_21_i32 strB_9 (by simp [lenB] <;> (first | omega | (simp only [lenB]; omega))) ?_
        refine SOps.litF rfl sliceB_35_9_1 zeroIs_9 rfl ?_
        refine SOps.appendOwn 0 sliceB_35_9_1 elemB_9_1_16 rfl rfl rfl (by simp) SrcD.isl (by simp) (by simp [lenB] <;> (first | omega | (simp only [lenB]; omega))) (by simp <;> (first | omega | (simp only [lenB]; omega))) (fun b1 hb_1 => ?_)
        refine SOps.assign rfl ?_
        refine SOps.nil ?_
        show SCode _ _ _ _
        refine SCode.region ?_
        refine SOps.move rfl ?_
        refine SOps.addI rfl rfl (by first | omega | (simp only [lenB]; omega)) (by first | omega | (simp only [lenB]; omega)) ?_
        refine SOps.assign rfl ?_
        refine SOps.nil ?_
        exact ⟨i + 1, acc ++ [encs (cutR (runes s) ((starts a ons s)[i]) (endS (runes s) (starts a ons s) i))], b1, ⟨by simp; omega, by omega, by rw [← hf, splitS_drop (show i < (starts a ons s).length by omega), List.append_assoc]⟩, by omega, St.Le.of ⟨rfl, rfl, rfl, rfl, (by show some _ = some _; rw [List.length_append]; rfl), rfl, trivial⟩ rfl (by rw [List.map_append]; rfl)⟩
    · try simp only [decide_eq_true_eq, decide_eq_false_iff_not, Bool.not_eq_true', Bool.not_eq_false', beq_iff_eq, bne_iff_ne, ne_eq, beq_eq_false_iff_ne, bne_eq_false_iff_eq, Int.not_lt, Int.not_le, Nat.not_lt, Nat.not_le, Int.ofNat_lt, Int.ofNat_le, Bool.not_eq_eq_eq_not, Bool.not_true, Bool.not_false] at hc2
      refine SCode.exit ?_
      show SCode _ _ _ _
      refine SCode.seqR ?_
      obtain rfl : acc = splitS (runes s) (starts a ons s) := by rw [← hf, List.drop_eq_nil_of_le (by omega), splitS, List.append_nil]
      refine SOps.freezeS (t := 11) 0 rfl rfl rfl (by simp) ?_
      refine SOps.move rfl ?_
      refine SOps.assign rfl ?_
      refine SOps.assign rfl ?_
      refine SOps.nil ?_
      refine SCode.drop ?_
      refine SCode.ret ?_
      exact ⟨_, Res.two (.tmp rfl) (.tmp rfl), by rw [if_pos hc1, hc1], rfl⟩
theorem uRuneCount (s : ByteArray)  : GCall Tryd.prog E 45 [.v (.string s)] [] (fun d H => d = .v (.int .i64 (((runes s).length : Nat) : Int)) ∧ H = []) := by
  refine GCall.body (C := ⟨Tryd.prog, E, true⟩) Tryd.func45 rfl (fun _ => rfl) (by kernel_rfl) rfl ?_
  refine SCode.seqR ?_
  refine SOps.assign rfl ?_
  refine SOps.nil ?_
  refine SCode.seq ?_
  refine SCode.seqR ?_
  refine SOps.move rfl ?_
  refine SOps.rangeStr rfl strB_9 (fun b0 hb_0 => ?_)
  refine SOps.nil ?_
  refine SCode.block ?_
  refine SCode.loop3 (fun (p : Nat) (n : Nat) (b : Nat) => (⟨10, [(0, .v (.string s)), (2, .v (.int .i64 (n : Int))), (4, .it b)], [(b, .iter s p)]⟩ : St)) (fun (p : Nat) (n : Nat) (b : Nat) => n ≤ p ∧ n + (runesAt s p).length = (runes s).length) (fun (p : Nat) (n : Nat) (b : Nat) => s.size - p) (0) (0) (b0) (by exact ⟨Nat.le_refl _, by rw [Nat.zero_add]; rfl⟩) (St.Le.of ⟨(by first | rfl | (show some _ = some _; simp)), (by first | rfl | (show some _ = some _; simp)), (by first | rfl | (show some _ = some _; simp)), trivial⟩ rfl (by first | rfl | (simp))) ?_
  rintro p n b ⟨hn, hl⟩
  refine SCode.fact (v_scal (t := 0) rfl) (fun hS => ?_)
  simp only [scal, lenB] at hS
  refine SCode.seqR ?_
  refine SOps.next 0 rfl rfl (fun hn1 => ?_) (fun hn1 => ?_) (by first | omega | (simp only [lenB]; omega))
  · refine SOps.extract rfl rfl ?_
    refine SOps.nil ?_
    refine SCode.seq ?_
    refine SCode.cond rfl (fun _ => ?_) (fun h => by cases h)
    refine SCode.skip ?_
    show SCode _ _ _ _
    refine SCode.block ?_
    refine SCode.region ?_
    refine SOps.move rfl ?_
    refine SOps.addI rfl rfl (by first | omega | (simp only [lenB]; omega)) (by first | omega | (simp only [lenB]; omega)) ?_
    refine SOps.assign rfl ?_
    refine SOps.nil ?_
    exact ⟨p + (Utf8.decode s p).2, n + 1, b, by refine ⟨by have := decode_w s p; omega, by rw [← hl, runes_len_step hn1]; omega⟩, by have := decode_w s p; omega, (St.Le.of ⟨(by first | rfl | (show some _ = some _; simp)), (by first | rfl | (show some _ = some _; simp)), (by first | rfl | (show some _ = some _; simp)), trivial⟩ rfl (by first | rfl | (simp)))⟩
  · refine SOps.extract rfl rfl ?_
    refine SOps.nil ?_
    refine SCode.seq ?_
    refine SCode.cond rfl (fun h => by cases h) (fun _ => ?_)
    refine SCode.exit ?_
    show SCode _ _ _ _
    refine SCode.seqR ?_
    refine SOps.move rfl ?_
    refine SOps.assign rfl ?_
    refine SOps.nil ?_
    refine SCode.drop ?_
    refine SCode.ret ?_
    exact ⟨_, Res.one (.tmp rfl), by rw [← hl, runesAt_ge hn1]; rfl, rfl⟩
theorem sPoints (hV : VS E) (a : List Letter) (ons : List (List Int)) (ml mr : Int) (s : ByteArray) (hs : s.size ≤ 65536) : GCall Tryd.prog E 26 [DLs a, DP ons ml mr, .v (.string s)] [] (fun d H => d = .tup [DNats (if checkE a ons ml mr s = 0 then ptsF ml mr (runes s).length (splitA a ons s) 0 else []), .v (.int .i64 (checkE a ons ml mr s))] ∧ H = []) := by
  have hrl := runes_len s
  have hsum := splitA_sum a ons s
  have hsl := splitA_len a ons s
  refine GCall.body (C := ⟨Tryd.prog, E, true⟩) Tryd.func26 rfl (fun _ => rfl) (by kernel_rfl) rfl ?_
  refine SCode.seqR ?_
  refine SOps.boxAM rfl rfl ?_
  refine SOps.assign rfl ?_
  refine SOps.assign rfl ?_
  refine SOps.nil ?_
  refine SCode.seqR ?_
  refine SOps.move rfl ?_
  refine SOps.loadPinA rfl aggB_24_3 (Nat.le_of_ble_eq_true rfl) ?_
  refine SOps.move rfl ?_
  refine SOps.callP (sSplit hV _ _ _ _ _ (by omega)) rfl ?_
  rintro _ rfl
  refine SOps.move rfl ?_
  refine SOps.extract rfl rfl ?_
  refine SOps.extract rfl rfl ?_
  refine SOps.assign rfl ?_
  refine SOps.assign rfl ?_
  refine SOps.nil ?_
  refine SCode.seq ?_
  refine SCode.seqR ?_
  refine SOps.move rfl ?_
  refine SOps.bin rfl rfl rfl ?_
  refine SOps.nil ?_
  refine SCode.cond rfl (fun hc1 => ?_) (fun hc1 => ?_)
  · try simp only [decide_eq_true_eq, decide_eq_false_iff_not, Bool.not_eq_true', Bool.not_eq_false', beq_iff_eq, bne_iff_ne, ne_eq, beq_eq_false_iff_ne, bne_eq_false_iff_eq, Int.not_lt, Int.not_le, Nat.not_lt, Nat.not_le, Int.ofNat_lt, Int.ofNat_le, Bool.not_eq_eq_eq_not, Bool.not_true, Bool.not_false] at hc1
    refine SCode.seqR ?_
    refine SOps.move rfl ?_
    refine SOps.assign rfl ?_
    refine SOps.nilIsl (t := 6) (sz := 1) rfl ?_
    refine SOps.assign rfl ?_
    refine SOps.nil ?_
    refine SCode.ret ?_
    exact ⟨_, Res.two (.tmp rfl) (.tmp rfl), by rw [if_neg hc1]; rfl, rfl⟩
  · try simp only [decide_eq_true_eq, decide_eq_false_iff_not, Bool.not_eq_true', Bool.not_eq_false', beq_iff_eq, bne_iff_ne, ne_eq, beq_eq_false_iff_ne, bne_eq_false_iff_eq, Int.not_lt, Int.not_le, Nat.not_lt, Nat.not_le, Int.ofNat_lt, Int.ofNat_le, Bool.not_eq_eq_eq_not, Bool.not_true, Bool.not_false] at hc1
    refine SCode.skip ?_
    show SCode _ _ _ _
    refine SCode.seqR ?_
    refine SOps.assign rfl ?_
    refine SOps.nil ?_
    refine SCode.seqR ?_
    refine SOps.move rfl ?_
    refine SOps.callP (uRuneCount _) rfl ?_
    rintro _ rfl
    refine SOps.assign rfl ?_
    refine SOps.assign rfl ?_
    refine SOps.nil ?_
    refine SCode.seq ?_
    refine SCode.seqR ?_
    refine SOps.move rfl ?_
    refine SOps.lenM rfl sliceB_35_9_1 ?_
    refine SOps.move rfl ?_
    refine SOps.nil ?_
    refine SCode.block ?_
    refine SCode.loop4 (fun (i : Nat) (n : Nat) (acc : List Nat) (c : Nat) => (⟨59, [(4, .ipin [DOns ons, .v (.int .i64 ml), .v (.int .i64 mr)]), (10, accD 1 c (acc.map encN)), (11, .v (.int .i64 (n : Int))), (12, .v (.int .i64 (((runes s).length : Nat) : Int))), (27, DStrs (splitA a ons s)), (28, .v (.int .i64 (((splitA a ons s).length : Nat) : Int))), (29, .v (.int .i64 (i : Int)))], accH 3 1 c (acc.map encN) ++ []⟩ : St)) (fun (i : Nat) (n : Nat) (acc : List Nat) (c : Nat) => i ≤ (splitA a ons s).length ∧ acc.length ≤ i ∧ n + sumR ((splitA a ons s).drop i) ≤ (runes s).length ∧ acc ++ ptsF ml mr (runes s).length ((splitA a ons s).drop i) n = ptsF ml mr (runes s).length (splitA a ons s) 0) (fun (i : Nat) (n : Nat) (acc : List Nat) (c : Nat) => (splitA a ons s).length - i) (0) (0) ([]) (0) (by exact ⟨Nat.zero_le _, Nat.le_refl _, by rw [List.drop_zero]; omega, rfl⟩) (St.Le.of ⟨(by first | rfl | (show some _ = some _; simp [hc1])), (by first | rfl | (show some _ = some _; simp [hc1])), (by first | rfl | (show some _ = some _; simp [hc1])), (by first | rfl | (show some _ = some _; simp [hc1])), (by first | rfl | (show some _ = some _; simp [hc1])), (by first | rfl | (show some _ = some _; simp [hc1])), (by first | rfl | (show some _ = some _; simp [hc1])), trivial⟩ rfl (by first | rfl | (simp))) ?_
    rintro i n acc c ⟨hil, hl, hn, hf⟩
    refine SCode.seqR ?_
    refine SOps.bin rfl rfl rfl ?_
    refine SOps.nil ?_
    refine SCode.seq ?_
    refine SCode.cond rfl (fun hc2 => ?_) (fun hc2 => ?_)
    · try simp only [decide_eq_true_eq, decide_eq_false_iff_not, Bool.not_eq_true', Bool.not_eq_false', beq_iff_eq, bne_iff_ne, ne_eq, beq_eq_false_iff_ne, bne_eq_false_iff_eq, Int.not_lt, Int.not_le, Nat.not_lt, Nat.not_le, Int.ofNat_lt, Int.ofNat_le, Bool.not_eq_eq_eq_not, Bool.not_true, Bool.not_false] at hc2
      refine SCode.skip ?_
      show SCode _ _ _ _
      refine SCode.seq ?_
      refine SCode.block ?_
      refine SCode.seqR ?_
      have hdr := List.drop_eq_getElem_cons (show i < (splitA a ons s).length by omega)
      have hsd : sumR ((splitA a ons s).drop i) = (runes ((splitA a ons s)[i])).length + sumR ((splitA a ons s).drop (i + 1)) := by rw [hdr]; rfl
      refine SOps.indexM (i) rfl rfl sliceB_35_9_1 (by first | omega | (simp only [lenB]; omega)) (by first | omega | (simp only [lenB]; omega)) ?_
      refine SOps.loadPin rfl flatB_9 ?_
      refine SOps.assign rfl ?_
      refine SOps.nil ?_
      refine SCode.seq ?_
      refine SCode.seqR ?_
      refine SOps.move rfl ?_
      refine SOps.bin rfl rfl rfl ?_
      refine SOps.move rfl ?_
      refine SOps.caseB 35 rfl (fun hb3 => ?_) (fun hb3 => ?_)
      · try simp only [decide_eq_true_eq, decide_eq_false_iff_not, Bool.not_eq_true', Bool.not_eq_false', beq_iff_eq, bne_iff_ne, ne_eq, beq_eq_false_iff_ne, bne_eq_false_iff_eq, Int.not_lt, Int.not_le, Nat.not_lt, Nat.not_le, Int.ofNat_lt, Int.ofNat_le, Bool.not_eq_eq_eq_not, Bool.not_true, Bool.not_false] at hb3
        refine SOps.move rfl ?_
        refine SOps.fieldPin rfl fieldB_24_1_1 ?_
        refine SOps.loadPin rfl flatB_3 ?_
        refine SOps.bin rfl rfl rfl ?_
        refine SOps.pick rfl rfl ?_
        refine SOps.move rfl ?_
        refine SOps.caseB 41 rfl (fun hb4 => ?_) (fun hb4 => ?_)
        · try simp only [decide_eq_true_eq, decide_eq_false_iff_not, Bool.not_eq_true', Bool.not_eq_false', beq_iff_eq, bne_iff_ne, ne_eq, beq_eq_false_iff_ne, bne_eq_false_iff_eq, Int.not_lt, Int.not_le, Nat.not_lt, Nat.not_le, Int.ofNat_lt, Int.ofNat_le, Bool.not_eq_eq_eq_not, Bool.not_true, Bool.not_false] at hb4
          refine SOps.move rfl ?_
          refine SOps.move rfl ?_
          refine SOps.subI rfl rfl (by first | omega | (simp only [lenB]; omega)) (by first | omega | (simp only [lenB]; omega)) ?_
          refine SOps.fieldPin rfl fieldB_24_2_2 ?_
          refine SOps.loadPin rfl flatB_3 ?_
          refine SOps.bin rfl rfl rfl ?_
          refine SOps.pick rfl rfl ?_
          refine SOps.nil ?_
          refine SCode.cond rfl (fun hc5 => ?_) (fun hc5 => ?_)
          · try simp only [decide_eq_true_eq, decide_eq_false_iff_not, Bool.not_eq_true', Bool.not_eq_false', beq_iff_eq, bne_iff_ne, ne_eq, beq_eq_false_iff_ne, bne_eq_false_iff_eq, Int.not_lt, Int.not_le, Nat.not_lt, Nat.not_le, Int.ofNat_lt, Int.ofNat_le, Bool.not_eq_eq_eq_not, Bool.not_true, Bool.not_false] at hc5
            refine SCode.region ?_
            refine SOps.move rfl ?_
            refine SOps.move rfl ?_
            refine SOps.litF rfl sliceB_30_3_1 zeroIs_3 rfl ?_
            refine SOps.appendAcc [] [] sliceB_30_3_1 elemB_3_1_8 rfl rfl rfl SrcD.isl (by simp) (by simp [lenB] <;> (first | omega | (simp only [lenB]; omega))) (by simp <;> (first | omega | (simp only [lenB]; omega))) (fun b0 => ?_)
            refine SOps.assign rfl ?_
            refine SOps.nil ?_
            show SCode _ _ _ _
            refine SCode.region ?_
            refine SOps.move rfl ?_
            refine SOps.move rfl ?_
            refine SOps.callP (uRuneCount _) rfl ?_
            rintro _ rfl
            refine SOps.addI rfl rfl (by first | omega | (simp only [lenB]; omega)) (by first | omega | (simp only [lenB]; omega)) ?_
            refine SOps.assign rfl ?_
            refine SOps.nil ?_
            show SCode _ _ _ _
            refine SCode.region ?_
            refine SOps.addI rfl rfl (by first | omega | (simp only [lenB]; omega)) (by first | omega | (simp only [lenB]; omega)) ?_
            refine SOps.move rfl ?_
            refine SOps.nil ?_
            first
              | (have hpt : ptOK ml mr (runes s).length n = true := ptOK_iff.2 ⟨by omega, by omega, by omega⟩; exact ⟨i + 1, n + (runes ((splitA a ons s)[i])).length, acc ++ [n], b0, ⟨by omega, by simp; omega, by omega, by rw [← hf, hdr, ptsF, hpt]; simp only [if_true, List.append_assoc]⟩, by omega, St.Le.of ⟨rfl, (by show some _ = some _; rw [List.map_append]; rfl), rfl, rfl, rfl, rfl, rfl, trivial⟩ rfl (by rw [List.map_append]; rfl)⟩)
              | (have hpt : ptOK ml mr (runes s).length n = false := Bool.eq_false_iff.2 (fun h => by have := ptOK_iff.1 h; omega); exact ⟨i + 1, n + (runes ((splitA a ons s)[i])).length, acc, c, ⟨by omega, by omega, by omega, by rw [← hf, hdr, ptsF, hpt]; simp⟩, by omega, St.Le.of ⟨rfl, rfl, rfl, rfl, rfl, rfl, rfl, trivial⟩⟩)
          · try simp only [decide_eq_true_eq, decide_eq_false_iff_not, Bool.not_eq_true', Bool.not_eq_false', beq_iff_eq, bne_iff_ne, ne_eq, beq_eq_false_iff_ne, bne_eq_false_iff_eq, Int.not_lt, Int.not_le, Nat.not_lt, Nat.not_le, Int.ofNat_lt, Int.ofNat_le, Bool.not_eq_eq_eq_not, Bool.not_true, Bool.not_false] at hc5
            refine SCode.skip ?_
            show SCode _ _ _ _
            refine SCode.region ?_
            refine SOps.move rfl ?_
            refine SOps.move rfl ?_
            refine SOps.callP (uRuneCount _) rfl ?_
            rintro _ rfl
            refine SOps.addI rfl rfl (by first | omega | (simp only [lenB]; omega)) (by first | omega | (simp only [lenB]; omega)) ?_
            refine SOps.assign rfl ?_
            refine SOps.nil ?_
            show SCode _ _ _ _
            refine SCode.region ?_
            refine SOps.addI rfl rfl (by first | omega | (simp only [lenB]; omega)) (by first | omega | (simp only [lenB]; omega)) ?_
            refine SOps.move rfl ?_
            refine SOps.nil ?_
            first
              | (have hpt : ptOK ml mr (runes s).length n = true := ptOK_iff.2 ⟨by omega, by omega, by omega⟩; exact ⟨i + 1, n + (runes ((splitA a ons s)[i])).length, acc ++ [n], b0, ⟨by omega, by simp; omega, by omega, by rw [← hf, hdr, ptsF, hpt]; simp only [if_true, List.append_assoc]⟩, by omega, St.Le.of ⟨rfl, (by show some _ = some _; rw [List.map_append]; rfl), rfl, rfl, rfl, rfl, rfl, trivial⟩ rfl (by rw [List.map_append]; rfl)⟩)
              | (have hpt : ptOK ml mr (runes s).length n = false := Bool.eq_false_iff.2 (fun h => by have := ptOK_iff.1 h; omega); exact ⟨i + 1, n + (runes ((splitA a ons s)[i])).length, acc, c, ⟨by omega, by omega, by omega, by rw [← hf, hdr, ptsF, hpt]; simp⟩, by omega, St.Le.of ⟨rfl, rfl, rfl, rfl, rfl, rfl, rfl, trivial⟩⟩)
        · try simp only [decide_eq_true_eq, decide_eq_false_iff_not, Bool.not_eq_true', Bool.not_eq_false', beq_iff_eq, bne_iff_ne, ne_eq, beq_eq_false_iff_ne, bne_eq_false_iff_eq, Int.not_lt, Int.not_le, Nat.not_lt, Nat.not_le, Int.ofNat_lt, Int.ofNat_le, Bool.not_eq_eq_eq_not, Bool.not_true, Bool.not_false] at hb4
          refine SOps.skip rfl ?_
          refine SOps.skip rfl ?_
          refine SOps.skip rfl ?_
          refine SOps.skip rfl ?_
          refine SOps.skip rfl ?_
          refine SOps.skip rfl ?_
          refine SOps.pick rfl rfl ?_
          refine SOps.nil ?_
          refine SCode.cond rfl (fun h => by cases h) (fun _ => ?_)
          refine SCode.skip ?_
          show SCode _ _ _ _
          refine SCode.region ?_
          refine SOps.move rfl ?_
          refine SOps.move rfl ?_
          refine SOps.callP (uRuneCount _) rfl ?_
          rintro _ rfl
          refine SOps.addI rfl rfl (by first | omega | (simp only [lenB]; omega)) (by first | omega | (simp only [lenB]; omega)) ?_
          refine SOps.assign rfl ?_
          refine SOps.nil ?_
          show SCode _ _ _ _
          refine SCode.region ?_
          refine SOps.addI rfl rfl (by first | omega | (simp only [lenB]; omega)) (by first | omega | (simp only [lenB]; omega)) ?_
          refine SOps.move rfl ?_
          refine SOps.nil ?_
          first
            | (have hpt : ptOK ml mr (runes s).length n = true := ptOK_iff.2 ⟨by omega, by omega, by omega⟩; exact ⟨i + 1, n + (runes ((splitA a ons s)[i])).length, acc ++ [n], b0, ⟨by omega, by simp; omega, by omega, by rw [← hf, hdr, ptsF, hpt]; simp only [if_true, List.append_assoc]⟩, by omega, St.Le.of ⟨rfl, (by show some _ = some _; rw [List.map_append]; rfl), rfl, rfl, rfl, rfl, rfl, trivial⟩ rfl (by rw [List.map_append]; rfl)⟩)
            | (have hpt : ptOK ml mr (runes s).length n = false := Bool.eq_false_iff.2 (fun h => by have := ptOK_iff.1 h; omega); exact ⟨i + 1, n + (runes ((splitA a ons s)[i])).length, acc, c, ⟨by omega, by omega, by omega, by rw [← hf, hdr, ptsF, hpt]; simp⟩, by omega, St.Le.of ⟨rfl, rfl, rfl, rfl, rfl, rfl, rfl, trivial⟩⟩)
      · try simp only [decide_eq_true_eq, decide_eq_false_iff_not, Bool.not_eq_true', Bool.not_eq_false', beq_iff_eq, bne_iff_ne, ne_eq, beq_eq_false_iff_ne, bne_eq_false_iff_eq, Int.not_lt, Int.not_le, Nat.not_lt, Nat.not_le, Int.ofNat_lt, Int.ofNat_le, Bool.not_eq_eq_eq_not, Bool.not_true, Bool.not_false] at hb3
        refine SOps.skip rfl ?_
        refine SOps.skip rfl ?_
        refine SOps.skip rfl ?_
        refine SOps.skip rfl ?_
        refine SOps.pick rfl rfl ?_
        refine SOps.move rfl ?_
        refine SOps.skip rfl ?_
        refine SOps.skip rfl ?_
        refine SOps.skip rfl ?_
        refine SOps.skip rfl ?_
        refine SOps.skip rfl ?_
        refine SOps.skip rfl ?_
        refine SOps.pick rfl rfl ?_
        refine SOps.nil ?_
        refine SCode.cond rfl (fun h => by cases h) (fun _ => ?_)
        refine SCode.skip ?_
        show SCode _ _ _ _
        refine SCode.region ?_
        refine SOps.move rfl ?_
        refine SOps.move rfl ?_
        refine SOps.callP (uRuneCount _) rfl ?_
        rintro _ rfl
        refine SOps.addI rfl rfl (by first | omega | (simp only [lenB]; omega)) (by first | omega | (simp only [lenB]; omega)) ?_
        refine SOps.assign rfl ?_
        refine SOps.nil ?_
        show SCode _ _ _ _
        refine SCode.region ?_
        refine SOps.addI rfl rfl (by first | omega | (simp only [lenB]; omega)) (by first | omega | (simp only [lenB]; omega)) ?_
        refine SOps.move rfl ?_
        refine SOps.nil ?_
        first
          | (have hpt : ptOK ml mr (runes s).length n = true := ptOK_iff.2 ⟨by omega, by omega, by omega⟩; exact ⟨i + 1, n + (runes ((splitA a ons s)[i])).length, acc ++ [n], b0, ⟨by omega, by simp; omega, by omega, by rw [← hf, hdr, ptsF, hpt]; simp only [if_true, List.append_assoc]⟩, by omega, St.Le.of ⟨rfl, (by show some _ = some _; rw [List.map_append]; rfl), rfl, rfl, rfl, rfl, rfl, trivial⟩ rfl (by rw [List.map_append]; rfl)⟩)
          | (have hpt : ptOK ml mr (runes s).length n = false := Bool.eq_false_iff.2 (fun h => by have := ptOK_iff.1 h; omega); exact ⟨i + 1, n + (runes ((splitA a ons s)[i])).length, acc, c, ⟨by omega, by omega, by omega, by rw [← hf, hdr, ptsF, hpt]; simp⟩, by omega, St.Le.of ⟨rfl, rfl, rfl, rfl, rfl, rfl, rfl, trivial⟩⟩)
    · try simp only [decide_eq_true_eq, decide_eq_false_iff_not, Bool.not_eq_true', Bool.not_eq_false', beq_iff_eq, bne_iff_ne, ne_eq, beq_eq_false_iff_ne, bne_eq_false_iff_eq, Int.not_lt, Int.not_le, Nat.not_lt, Nat.not_le, Int.ofNat_lt, Int.ofNat_le, Bool.not_eq_eq_eq_not, Bool.not_true, Bool.not_false] at hc2
      refine SCode.exit ?_
      show SCode _ _ _ _
      refine SCode.seqR ?_
      refine SOps.freezeAcc (t := 10) [] [] rfl rfl rfl ?_
      refine SOps.move rfl ?_
      refine SOps.assign rfl ?_
      refine SOps.assign rfl ?_
      refine SOps.nil ?_
      refine SCode.ret ?_
      exact ⟨_, Res.two (.tmp rfl) (.tmp rfl), by rw [if_pos hc1, hc1, ← hf, List.drop_eq_nil_of_le (by omega), ptsF, List.append_nil], rfl⟩
theorem rPoints (a : List Letter) (ons : List (List Int)) (ml mr : Int) (s : ByteArray) (hs : s.size ≤ 65536) : GCall Tryd.prog E 27 [DLs a, DP ons ml mr, .v (.string s)] [] (fun d H => d = .tup [DNats (if checkE a ons ml mr s = 0 then ptsR ml mr (runes s).length (starts a ons s) 0 else []), .v (.int .i64 (checkE a ons ml mr s))] ∧ H = []) := by
  have hrl := runes_len s
  have hsl := starts_len a ons s
  refine GCall.body (C := ⟨Tryd.prog, E, true⟩) Tryd.func27 rfl (fun _ => rfl) (by kernel_rfl) rfl ?_
  refine SCode.seqR ?_
  refine SOps.boxAM rfl rfl ?_
  refine SOps.assign rfl ?_
  refine SOps.assign rfl ?_
  refine SOps.nil ?_
  refine SCode.seq ?_
  refine SCode.seqR ?_
  refine SOps.move rfl ?_
  refine SOps.loadPinA rfl aggB_24_3 (Nat.le_of_ble_eq_true rfl) ?_
  refine SOps.move rfl ?_
  refine SOps.callP (rCheck _ _ _ _ _ (by omega)) rfl ?_
  rintro _ rfl
  refine SOps.assign rfl ?_
  refine SOps.nil ?_
  refine SCode.seqR ?_
  refine SOps.move rfl ?_
  refine SOps.bin rfl rfl rfl ?_
  refine SOps.nil ?_
  refine SCode.cond rfl (fun hc1 => ?_) (fun hc1 => ?_)
  · try simp only [decide_eq_true_eq, decide_eq_false_iff_not, Bool.not_eq_true', Bool.not_eq_false', beq_iff_eq, bne_iff_ne, ne_eq, beq_eq_false_iff_ne, bne_eq_false_iff_eq, Int.not_lt, Int.not_le, Nat.not_lt, Nat.not_le, Int.ofNat_lt, Int.ofNat_le, Bool.not_eq_eq_eq_not, Bool.not_true, Bool.not_false] at hc1
    refine SCode.seqR ?_
    refine SOps.move rfl ?_
    refine SOps.assign rfl ?_
    refine SOps.nilIsl (t := 6) (sz := 1) rfl ?_
    refine SOps.assign rfl ?_
    refine SOps.nil ?_
    refine SCode.ret ?_
    exact ⟨_, Res.two (.tmp rfl) (.tmp rfl), by rw [if_neg hc1]; rfl, rfl⟩
  · try simp only [decide_eq_true_eq, decide_eq_false_iff_not, Bool.not_eq_true', Bool.not_eq_false', beq_iff_eq, bne_iff_ne, ne_eq, beq_eq_false_iff_ne, bne_eq_false_iff_eq, Int.not_lt, Int.not_le, Nat.not_lt, Nat.not_le, Int.ofNat_lt, Int.ofNat_le, Bool.not_eq_eq_eq_not, Bool.not_true, Bool.not_false] at hc1
    refine SCode.skip ?_
    show SCode _ _ _ _
    refine SCode.seqR ?_
    refine SOps.move rfl ?_
    refine SOps.runesF rfl rfl strB_9 sliceB_40_21_1 intB_21_i32 ?_
    refine SOps.lenM rfl sliceB_40_21_1 ?_
    refine SOps.assign rfl ?_
    refine SOps.nil ?_
    refine SCode.seqR ?_
    refine SOps.litO sliceB_30_3_1 zeroIs_3 rfl (fun b0 hb_0 => ?_)
    refine SOps.assign rfl ?_
    refine SOps.nil ?_
    refine SCode.seq ?_
    refine SCode.seqR ?_
    refine SOps.move rfl ?_
    refine SOps.loadPinA rfl aggB_24_3 (Nat.le_of_ble_eq_true rfl) ?_
    refine SOps.move rfl ?_
    refine SOps.callP (rStarts _ _ _ _ _ (by omega)) rfl ?_
    rintro _ rfl
    refine SOps.lenM rfl sliceB_30_3_1 ?_
    refine SOps.move rfl ?_
    refine SOps.nil ?_
    refine SCode.block ?_
    refine SCode.loop3 (fun (i : Nat) (acc : List Nat) (c : Nat) => (⟨56, [(4, .ipin [DOns ons, .v (.int .i64 ml), .v (.int .i64 mr)]), (9, .v (.int .i64 (((runes s).length : Nat) : Int))), (10, .sl c 1 0 acc.length), (27, DNats (starts a ons s)), (28, .v (.int .i64 (((starts a ons s).length : Nat) : Int))), (29, .v (.int .i64 (i : Int)))], [(c, .row 3 1 (acc.map encN))]⟩ : St)) (fun (i : Nat) (acc : List Nat) (c : Nat) => i ≤ (starts a ons s).length ∧ acc.length ≤ i ∧ acc ++ ptsR ml mr (runes s).length ((starts a ons s).drop i) i = ptsR ml mr (runes s).length (starts a ons s) 0) (fun (i : Nat) (acc : List Nat) (c : Nat) => (starts a ons s).length - i) (0) ([]) (b0) (by exact ⟨Nat.zero_le _, Nat.le_refl _, rfl⟩) (St.Le.of ⟨(by first | rfl | (show some _ = some _; simp)), (by first | rfl | (show some _ = some _; simp)), (by first | rfl | (show some _ = some _; simp)), (by first | rfl | (show some _ = some _; simp)), (by first | rfl | (show some _ = some _; simp)), (by first | rfl | (show some _ = some _; simp)), trivial⟩ rfl (by first | rfl | (simp))) ?_
    rintro i acc c ⟨hil, hl, hf⟩
    refine SCode.seqR ?_
    refine SOps.bin rfl rfl rfl ?_
    refine SOps.nil ?_
    refine SCode.seq ?_
    refine SCode.cond rfl (fun hc2 => ?_) (fun hc2 => ?_)
    · try simp only [decide_eq_true_eq, decide_eq_false_iff_not, Bool.not_eq_true', Bool.not_eq_false', beq_iff_eq, bne_iff_ne, ne_eq, beq_eq_false_iff_ne, bne_eq_false_iff_eq, Int.not_lt, Int.not_le, Nat.not_lt, Nat.not_le, Int.ofNat_lt, Int.ofNat_le, Bool.not_eq_eq_eq_not, Bool.not_true, Bool.not_false] at hc2
      refine SCode.skip ?_
      show SCode _ _ _ _
      refine SCode.seq ?_
      refine SCode.block ?_
      refine SCode.seqR ?_
      have hdr := List.drop_eq_getElem_cons (show i < (starts a ons s).length by omega)
      have hlt := (starts_sorted a ons s).2 _ (List.getElem_mem (show i < (starts a ons s).length by omega))
      refine SOps.move rfl ?_
      refine SOps.indexM (i) rfl rfl sliceB_30_3_1 (by first | omega | (simp only [lenB]; omega)) (by first | omega | (simp only [lenB]; omega)) ?_
      refine SOps.loadPin rfl flatB_3 ?_
      refine SOps.assign rfl ?_
      refine SOps.assign rfl ?_
      refine SOps.nil ?_
      refine SCode.seqR ?_
      refine SOps.move rfl ?_
      refine SOps.bin rfl rfl rfl ?_
      refine SOps.move rfl ?_
      refine SOps.caseB 36 rfl (fun hb3 => ?_) (fun hb3 => ?_)
      · try simp only [decide_eq_true_eq, decide_eq_false_iff_not, Bool.not_eq_true', Bool.not_eq_false', beq_iff_eq, bne_iff_ne, ne_eq, beq_eq_false_iff_ne, bne_eq_false_iff_eq, Int.not_lt, Int.not_le, Nat.not_lt, Nat.not_le, Int.ofNat_lt, Int.ofNat_le, Bool.not_eq_eq_eq_not, Bool.not_true, Bool.not_false] at hb3
        refine SOps.move rfl ?_
        refine SOps.fieldPin rfl fieldB_24_1_1 ?_
        refine SOps.loadPin rfl flatB_3 ?_
        refine SOps.bin rfl rfl rfl ?_
        refine SOps.pick rfl rfl ?_
        refine SOps.move rfl ?_
        refine SOps.caseB 42 rfl (fun hb4 => ?_) (fun hb4 => ?_)
        · try simp only [decide_eq_true_eq, decide_eq_false_iff_not, Bool.not_eq_true', Bool.not_eq_false', beq_iff_eq, bne_iff_ne, ne_eq, beq_eq_false_iff_ne, bne_eq_false_iff_eq, Int.not_lt, Int.not_le, Nat.not_lt, Nat.not_le, Int.ofNat_lt, Int.ofNat_le, Bool.not_eq_eq_eq_not, Bool.not_true, Bool.not_false] at hb4
          refine SOps.move rfl ?_
          refine SOps.move rfl ?_
          refine SOps.subI rfl rfl (by first | omega | (simp only [lenB]; omega)) (by first | omega | (simp only [lenB]; omega)) ?_
          refine SOps.fieldPin rfl fieldB_24_2_2 ?_
          refine SOps.loadPin rfl flatB_3 ?_
          refine SOps.bin rfl rfl rfl ?_
          refine SOps.pick rfl rfl ?_
          refine SOps.nil ?_
          refine SCode.cond rfl (fun hc5 => ?_) (fun hc5 => ?_)
          · try simp only [decide_eq_true_eq, decide_eq_false_iff_not, Bool.not_eq_true', Bool.not_eq_false', beq_iff_eq, bne_iff_ne, ne_eq, beq_eq_false_iff_ne, bne_eq_false_iff_eq, Int.not_lt, Int.not_le, Nat.not_lt, Nat.not_le, Int.ofNat_lt, Int.ofNat_le, Bool.not_eq_eq_eq_not, Bool.not_true, Bool.not_false] at hc5
            refine SCode.region ?_
            refine SOps.move rfl ?_
            refine SOps.move rfl ?_
            refine SOps.litF rfl sliceB_30_3_1 zeroIs_3 rfl ?_
            refine SOps.appendOwn 0 sliceB_30_3_1 elemB_3_1_8 rfl rfl rfl (by simp) SrcD.isl (by simp) (by simp [lenB] <;> (first | omega | (simp only [lenB]; omega))) (by simp <;> (first | omega | (simp only [lenB]; omega))) (fun b1 hb_1 => ?_)
            refine SOps.assign rfl ?_
            refine SOps.nil ?_
            show SCode _ _ _ _
            refine SCode.region ?_
            refine SOps.addI rfl rfl (by first | omega | (simp only [lenB]; omega)) (by first | omega | (simp only [lenB]; omega)) ?_
            refine SOps.move rfl ?_
            refine SOps.nil ?_
            first
              | (have hpt : ptOK2 ml mr (runes s).length i ((starts a ons s)[i]) = true := ptOK2_iff.2 ⟨by omega, by omega, by omega⟩; exact ⟨i + 1, acc ++ [(starts a ons s)[i]], b1, ⟨by omega, by simp; omega, by rw [← hf, hdr, ptsR, hpt]; simp only [if_true, List.append_assoc]⟩, by omega, St.Le.of ⟨rfl, rfl, (by show some _ = some _; rw [List.length_append]; rfl), rfl, rfl, rfl, trivial⟩ rfl (by rw [List.map_append]; rfl)⟩)
              | (have hpt : ptOK2 ml mr (runes s).length i ((starts a ons s)[i]) = false := Bool.eq_false_iff.2 (fun h => by have := ptOK2_iff.1 h; omega); exact ⟨i + 1, acc, c, ⟨by omega, by omega, by rw [← hf, hdr, ptsR, hpt]; simp⟩, by omega, St.Le.of ⟨rfl, rfl, rfl, rfl, rfl, rfl, trivial⟩⟩)
          · try simp only [decide_eq_true_eq, decide_eq_false_iff_not, Bool.not_eq_true', Bool.not_eq_false', beq_iff_eq, bne_iff_ne, ne_eq, beq_eq_false_iff_ne, bne_eq_false_iff_eq, Int.not_lt, Int.not_le, Nat.not_lt, Nat.not_le, Int.ofNat_lt, Int.ofNat_le, Bool.not_eq_eq_eq_not, Bool.not_true, Bool.not_false] at hc5
            refine SCode.skip ?_
            show SCode _ _ _ _
            refine SCode.region ?_
            refine SOps.addI rfl rfl (by first | omega | (simp only [lenB]; omega)) (by first | omega | (simp only [lenB]; omega)) ?_
            refine SOps.move rfl ?_
            refine SOps.nil ?_
            first
              | (have hpt : ptOK2 ml mr (runes s).length i ((starts a ons s)[i]) = true := ptOK2_iff.2 ⟨by omega, by omega, by omega⟩; exact ⟨i + 1, acc ++ [(starts a ons s)[i]], b1, ⟨by omega, by simp; omega, by rw [← hf, hdr, ptsR, hpt]; simp only [if_true, List.append_assoc]⟩, by omega, St.Le.of ⟨rfl, rfl, (by show some _ = some _; rw [List.length_append]; rfl), rfl, rfl, rfl, trivial⟩ rfl (by rw [List.map_append]; rfl)⟩)
              | (have hpt : ptOK2 ml mr (runes s).length i ((starts a ons s)[i]) = false := Bool.eq_false_iff.2 (fun h => by have := ptOK2_iff.1 h; omega); exact ⟨i + 1, acc, c, ⟨by omega, by omega, by rw [← hf, hdr, ptsR, hpt]; simp⟩, by omega, St.Le.of ⟨rfl, rfl, rfl, rfl, rfl, rfl, trivial⟩⟩)
        · try simp only [decide_eq_true_eq, decide_eq_false_iff_not, Bool.not_eq_true', Bool.not_eq_false', beq_iff_eq, bne_iff_ne, ne_eq, beq_eq_false_iff_ne, bne_eq_false_iff_eq, Int.not_lt, Int.not_le, Nat.not_lt, Nat.not_le, Int.ofNat_lt, Int.ofNat_le, Bool.not_eq_eq_eq_not, Bool.not_true, Bool.not_false] at hb4
          refine SOps.skip rfl ?_
          refine SOps.skip rfl ?_
          refine SOps.skip rfl ?_
          refine SOps.skip rfl ?_
          refine SOps.skip rfl ?_
          refine SOps.skip rfl ?_
          refine SOps.pick rfl rfl ?_
          refine SOps.nil ?_
          refine SCode.cond rfl (fun h => by cases h) (fun _ => ?_)
          refine SCode.skip ?_
          show SCode _ _ _ _
          refine SCode.region ?_
          refine SOps.addI rfl rfl (by first | omega | (simp only [lenB]; omega)) (by first | omega | (simp only [lenB]; omega)) ?_
          refine SOps.move rfl ?_
          refine SOps.nil ?_
          first
            | (have hpt : ptOK2 ml mr (runes s).length i ((starts a ons s)[i]) = true := ptOK2_iff.2 ⟨by omega, by omega, by omega⟩; exact ⟨i + 1, acc ++ [(starts a ons s)[i]], b1, ⟨by omega, by simp; omega, by rw [← hf, hdr, ptsR, hpt]; simp only [if_true, List.append_assoc]⟩, by omega, St.Le.of ⟨rfl, rfl, (by show some _ = some _; rw [List.length_append]; rfl), rfl, rfl, rfl, trivial⟩ rfl (by rw [List.map_append]; rfl)⟩)
            | (have hpt : ptOK2 ml mr (runes s).length i ((starts a ons s)[i]) = false := Bool.eq_false_iff.2 (fun h => by have := ptOK2_iff.1 h; omega); exact ⟨i + 1, acc, c, ⟨by omega, by omega, by rw [← hf, hdr, ptsR, hpt]; simp⟩, by omega, St.Le.of ⟨rfl, rfl, rfl, rfl, rfl, rfl, trivial⟩⟩)
      · try simp only [decide_eq_true_eq, decide_eq_false_iff_not, Bool.not_eq_true', Bool.not_eq_false', beq_iff_eq, bne_iff_ne, ne_eq, beq_eq_false_iff_ne, bne_eq_false_iff_eq, Int.not_lt, Int.not_le, Nat.not_lt, Nat.not_le, Int.ofNat_lt, Int.ofNat_le, Bool.not_eq_eq_eq_not, Bool.not_true, Bool.not_false] at hb3
        refine SOps.skip rfl ?_
        refine SOps.skip rfl ?_
        refine SOps.skip rfl ?_
        refine SOps.skip rfl ?_
        refine SOps.pick rfl rfl ?_
        refine SOps.move rfl ?_
        refine SOps.skip rfl ?_
        refine SOps.skip rfl ?_
        refine SOps.skip rfl ?_
        refine SOps.skip rfl ?_
        refine SOps.skip rfl ?_
        refine SOps.skip rfl ?_
        refine SOps.pick rfl rfl ?_
        refine SOps.nil ?_
        refine SCode.cond rfl (fun h => by cases h) (fun _ => ?_)
        refine SCode.skip ?_
        show SCode _ _ _ _
        refine SCode.region ?_
        refine SOps.addI rfl rfl (by first | omega | (simp only [lenB]; omega)) (by first | omega | (simp only [lenB]; omega)) ?_
        refine SOps.move rfl ?_
        refine SOps.nil ?_
        first
          | (have hpt : ptOK2 ml mr (runes s).length i ((starts a ons s)[i]) = true := ptOK2_iff.2 ⟨by omega, by omega, by omega⟩; exact ⟨i + 1, acc ++ [(starts a ons s)[i]], b1, ⟨by omega, by simp; omega, by rw [← hf, hdr, ptsR, hpt]; simp only [if_true, List.append_assoc]⟩, by omega, St.Le.of ⟨rfl, rfl, (by show some _ = some _; rw [List.length_append]; rfl), rfl, rfl, rfl, trivial⟩ rfl (by rw [List.map_append]; rfl)⟩)
          | (have hpt : ptOK2 ml mr (runes s).length i ((starts a ons s)[i]) = false := Bool.eq_false_iff.2 (fun h => by have := ptOK2_iff.1 h; omega); exact ⟨i + 1, acc, c, ⟨by omega, by omega, by rw [← hf, hdr, ptsR, hpt]; simp⟩, by omega, St.Le.of ⟨rfl, rfl, rfl, rfl, rfl, rfl, trivial⟩⟩)
    · try simp only [decide_eq_true_eq, decide_eq_false_iff_not, Bool.not_eq_true', Bool.not_eq_false', beq_iff_eq, bne_iff_ne, ne_eq, beq_eq_false_iff_ne, bne_eq_false_iff_eq, Int.not_lt, Int.not_le, Nat.not_lt, Nat.not_le, Int.ofNat_lt, Int.ofNat_le, Bool.not_eq_eq_eq_not, Bool.not_true, Bool.not_false] at hc2
      refine SCode.exit ?_
      show SCode _ _ _ _
      refine SCode.seqR ?_
      refine SOps.freezeS (t := 10) 0 rfl rfl rfl (by simp) ?_
      refine SOps.move rfl ?_
      refine SOps.assign rfl ?_
      refine SOps.assign rfl ?_
      refine SOps.nil ?_
      refine SCode.drop ?_
      refine SCode.ret ?_
      exact ⟨_, Res.two (.tmp rfl) (.tmp rfl), by rw [if_pos hc1, hc1, ← hf, List.drop_eq_nil_of_le (by omega), ptsR, List.append_nil], rfl⟩
theorem rInts (x y : List Int)  : GCall Tryd.prog E 18 [DInts x, DInts y] [] (fun d H => d = .v (.bool (decide (x = y))) ∧ H = []) := by
  refine GCall.body (C := ⟨Tryd.prog, E, true⟩) Tryd.func18 rfl (fun _ => rfl) (by kernel_rfl) rfl ?_
  refine SCode.seqR ?_
  refine SOps.assign rfl ?_
  refine SOps.nil ?_
  refine SCode.seq ?_
  refine SCode.seqR ?_
  refine SOps.move rfl ?_
  refine SOps.lenM rfl sliceB_30_3_1 ?_
  refine SOps.move rfl ?_
  refine SOps.lenM rfl sliceB_30_3_1 ?_
  refine SOps.bin rfl rfl rfl ?_
  refine SOps.nil ?_
  refine SCode.cond rfl (fun hc1 => ?_) (fun hc1 => ?_)
  · try simp only [decide_eq_true_eq, decide_eq_false_iff_not, Bool.not_eq_true', Bool.not_eq_false', beq_iff_eq, bne_iff_ne, ne_eq, beq_eq_false_iff_ne, bne_eq_false_iff_eq, Int.not_lt, Int.not_le, Nat.not_lt, Nat.not_le, Int.ofNat_lt, Int.ofNat_le, Bool.not_eq_eq_eq_not, Bool.not_true, Bool.not_false] at hc1
    refine SCode.seqR ?_
    refine SOps.assign rfl ?_
    refine SOps.nil ?_
    refine SCode.ret ?_
    exact ⟨_, Res.one (.tmp rfl), congrArg (fun b => DV.v (.bool b)) (decide_eq_false (fun e => hc1 (by rw [e]))).symm, rfl⟩
  · try simp only [decide_eq_true_eq, decide_eq_false_iff_not, Bool.not_eq_true', Bool.not_eq_false', beq_iff_eq, bne_iff_ne, ne_eq, beq_eq_false_iff_ne, bne_eq_false_iff_eq, Int.not_lt, Int.not_le, Nat.not_lt, Nat.not_le, Int.ofNat_lt, Int.ofNat_le, Bool.not_eq_eq_eq_not, Bool.not_true, Bool.not_false] at hc1
    refine SCode.skip ?_
    show SCode _ _ _ _
    refine SCode.seq ?_
    refine SCode.seqR ?_
    refine SOps.move rfl ?_
    refine SOps.lenM rfl sliceB_30_3_1 ?_
    refine SOps.move rfl ?_
    refine SOps.nil ?_
    refine SCode.block ?_
    refine SCode.loop1 (fun (i : Nat) => (⟨26, [(0, DInts x), (1, DInts y), (4, .v (.bool false)), (11, DInts x), (12, .v (.int .i64 (x.length : Int))), (13, .v (.int .i64 (i : Int)))], []⟩ : St)) (fun (i : Nat) => i ≤ x.length ∧ x.take i = y.take i) (fun (i : Nat) => x.length - i) (0) (by simp) (St.Le.of ⟨(by first | rfl | (show some _ = some _; simp)), (by first | rfl | (show some _ = some _; simp)), (by first | rfl | (show some _ = some _; simp)), (by first | rfl | (show some _ = some _; simp)), (by first | rfl | (show some _ = some _; simp)), (by first | rfl | (show some _ = some _; simp)), trivial⟩ rfl (by first | rfl | (simp))) ?_
    rintro i ⟨hi, hf⟩
    refine SCode.fact (isl_len (t := 0) rfl) (fun hB => ?_)
    simp only [List.length_map, lenB] at hB
    refine SCode.seqR ?_
    refine SOps.bin rfl rfl rfl ?_
    refine SOps.nil ?_
    refine SCode.seq ?_
    refine SCode.cond rfl (fun hc2 => ?_) (fun hc2 => ?_)
    · try simp only [decide_eq_true_eq, decide_eq_false_iff_not, Bool.not_eq_true', Bool.not_eq_false', beq_iff_eq, bne_iff_ne, ne_eq, beq_eq_false_iff_ne, bne_eq_false_iff_eq, Int.not_lt, Int.not_le, Nat.not_lt, Nat.not_le, Int.ofNat_lt, Int.ofNat_le, Bool.not_eq_eq_eq_not, Bool.not_true, Bool.not_false] at hc2
      have hx : i < x.length := by omega
      have hy : i < y.length := by omega
      refine SCode.skip ?_
      show SCode _ _ _ _
      refine SCode.seq ?_
      refine SCode.block ?_
      refine SCode.seqR ?_
      refine SOps.move rfl ?_
      refine SOps.assign rfl ?_
      refine SOps.nil ?_
      refine SCode.seq ?_
      refine SCode.drawPure mixed_ [(16, DInts x), (17, .v (.int .i64 (i : Int))), (18, .ipin (encI (x[i]))), (19, .v (.int .i64 (x[i]))), (20, DInts y), (21, .v (.int .i64 (i : Int))), (22, .ipin (encI (y[i]))), (23, .v (.int .i64 (y[i]))), (24, .v (.bool (x[i] != y[i])))] [16, 17, 18, 19, 20, 21, 22, 23, 24] [[.inr 0], [.inr 5], [.inl 0, .inl 1], [.inl 2], [.inr 1], [.inr 5], [.inl 4, .inl 5], [.inl 6], [.inl 3, .inl 7]] [[(0, DInts x)], [(5, .v (.int .i64 (i : Int)))], [(16, DInts x), (17, .v (.int .i64 (i : Int)))], [(18, .ipin (encI (x[i])))], [(1, DInts y)], [(5, .v (.int .i64 (i : Int)))], [(20, DInts y), (21, .v (.int .i64 (i : Int)))], [(22, .ipin (encI (y[i])))], [(19, .v (.int .i64 (x[i]))), (23, .v (.int .i64 (y[i])))]] rfl (by kernel_rfl) (by kernel_rfl) rfl ?_ ?_
      · refine OpsOk.cons (fun rest => ?_) ?_
        · refine SOps.move rfl ?_
          exact SOps.nil (by first | rfl | simp_all)
        refine OpsOk.cons (fun rest => ?_) ?_
        · refine SOps.move rfl ?_
          exact SOps.nil (by first | rfl | simp_all)
        refine OpsOk.cons (fun rest => ?_) ?_
        · refine SOps.indexM (i) rfl rfl sliceB_30_3_1 (by omega) (by omega) ?_
          exact SOps.nil (by first | rfl | simp_all)
        refine OpsOk.cons (fun rest => ?_) ?_
        · refine SOps.loadPin rfl flatB_3 ?_
          exact SOps.nil (by first | rfl | simp_all)
        refine OpsOk.cons (fun rest => ?_) ?_
        · refine SOps.move rfl ?_
          exact SOps.nil (by first | rfl | simp_all)
        refine OpsOk.cons (fun rest => ?_) ?_
        · refine SOps.move rfl ?_
          exact SOps.nil (by first | rfl | simp_all)
        refine OpsOk.cons (fun rest => ?_) ?_
        · refine SOps.indexM (i) rfl rfl sliceB_30_3_1 (by omega) (by omega) ?_
          exact SOps.nil (by first | rfl | simp_all)
        refine OpsOk.cons (fun rest => ?_) ?_
        · refine SOps.loadPin rfl flatB_3 ?_
          exact SOps.nil (by first | rfl | simp_all)
        refine OpsOk.cons (fun rest => ?_) ?_
        · refine SOps.bin rfl rfl rfl ?_
          exact SOps.nil (by first | rfl | simp_all)
        exact OpsOk.nil
      · show SCode _ _ _ _
        refine SCode.cond rfl (fun hc3 => ?_) (fun hc3 => ?_)
        · try simp only [decide_eq_true_eq, decide_eq_false_iff_not, Bool.not_eq_true', Bool.not_eq_false', beq_iff_eq, bne_iff_ne, ne_eq, beq_eq_false_iff_ne, bne_eq_false_iff_eq, Int.not_lt, Int.not_le, Nat.not_lt, Nat.not_le, Int.ofNat_lt, Int.ofNat_le, Bool.not_eq_eq_eq_not, Bool.not_true, Bool.not_false] at hc3
          refine SCode.seqR ?_
          refine SOps.assign rfl ?_
          refine SOps.nil ?_
          refine SCode.ret ?_
          exact ⟨_, Res.one (.tmp rfl), congrArg (fun b => DV.v (.bool b)) (decide_eq_false (ne_of_getElem hx hy hc3)).symm, rfl⟩
        · try simp only [decide_eq_true_eq, decide_eq_false_iff_not, Bool.not_eq_true', Bool.not_eq_false', beq_iff_eq, bne_iff_ne, ne_eq, beq_eq_false_iff_ne, bne_eq_false_iff_eq, Int.not_lt, Int.not_le, Nat.not_lt, Nat.not_le, Int.ofNat_lt, Int.ofNat_le, Bool.not_eq_eq_eq_not, Bool.not_true, Bool.not_false] at hc3
          refine SCode.skip ?_
          show SCode _ _ _ _
          refine SCode.region ?_
          refine SOps.addI rfl rfl (by omega) (by omega) ?_
          refine SOps.move rfl ?_
          refine SOps.nil ?_
          exact ⟨i + 1, by exact ⟨by omega, take_eq_succ (by omega) (by omega) hf hc3⟩, by omega, (St.Le.of ⟨(by first | rfl | (show some _ = some _; simp)), (by first | rfl | (show some _ = some _; simp)), (by first | rfl | (show some _ = some _; simp)), (by first | rfl | (show some _ = some _; simp)), (by first | rfl | (show some _ = some _; simp)), (by first | rfl | (show some _ = some _; simp)), trivial⟩ rfl (by first | rfl | (simp)))⟩
    · try simp only [decide_eq_true_eq, decide_eq_false_iff_not, Bool.not_eq_true', Bool.not_eq_false', beq_iff_eq, bne_iff_ne, ne_eq, beq_eq_false_iff_ne, bne_eq_false_iff_eq, Int.not_lt, Int.not_le, Nat.not_lt, Nat.not_le, Int.ofNat_lt, Int.ofNat_le, Bool.not_eq_eq_eq_not, Bool.not_true, Bool.not_false] at hc2
      refine SCode.exit ?_
      show SCode _ _ _ _
      refine SCode.seqR ?_
      refine SOps.assign rfl ?_
      refine SOps.nil ?_
      refine SCode.ret ?_
      exact ⟨_, Res.one (.tmp rfl), congrArg (fun b => DV.v (.bool b)) (decide_eq_true (take_full (by omega) (by omega) hf)).symm, rfl⟩
theorem rHyphenate (s : ByteArray) (pts : List Int) (hs : s.size ≤ 65536) : GCall Tryd.prog E 31 [.v (.string s), DInts pts] [] (fun d H => d = .v (.string (hyph pts s)) ∧ H = []) := by
  have hrl := runes_len s
  refine GCall.body (C := ⟨Tryd.prog, E, true⟩) Tryd.func31 rfl (fun _ => rfl) (by kernel_rfl) rfl ?_
  refine SCode.seqR ?_
  refine SOps.assign rfl ?_
  refine SOps.nil ?_
  refine SCode.seq ?_
  refine SCode.seqR ?_
  refine SOps.move rfl ?_
  refine SOps.callP (r1UTF8 _ (by omega)) rfl ?_
  rintro _ rfl
  refine SOps.un rfl rfl ?_
  refine SOps.nil ?_
  refine SCode.cond rfl (fun hc1 => ?_) (fun hc1 => ?_)
  · try simp only [decide_eq_true_eq, decide_eq_false_iff_not, Bool.not_eq_true', Bool.not_eq_false', beq_iff_eq, bne_iff_ne, ne_eq, beq_eq_false_iff_ne, bne_eq_false_iff_eq, Int.not_lt, Int.not_le, Nat.not_lt, Nat.not_le, Int.ofNat_lt, Int.ofNat_le, Bool.not_eq_eq_eq_not, Bool.not_true, Bool.not_false] at hc1
    refine SCode.seqR ?_
    refine SOps.move rfl ?_
    refine SOps.assign rfl ?_
    refine SOps.nil ?_
    refine SCode.ret ?_
    exact ⟨_, Res.one (.tmp rfl), by rw [hyph, hc1]; rfl, rfl⟩
  · try simp only [decide_eq_true_eq, decide_eq_false_iff_not, Bool.not_eq_true', Bool.not_eq_false', beq_iff_eq, bne_iff_ne, ne_eq, beq_eq_false_iff_ne, bne_eq_false_iff_eq, Int.not_lt, Int.not_le, Nat.not_lt, Nat.not_le, Int.ofNat_lt, Int.ofNat_le, Bool.not_eq_eq_eq_not, Bool.not_true, Bool.not_false] at hc1
    refine SCode.skip ?_
    show SCode _ _ _ _
    refine SCode.seqR ?_
    refine SOps.assign rfl ?_
    refine SOps.nil ?_
    refine SCode.seq ?_
    refine SCode.seqR ?_
    refine SOps.move rfl ?_
    refine SOps.runesF rfl rfl strB_9 sliceB_40_21_1 intB_21_i32 ?_
    refine SOps.lenM rfl sliceB_40_21_1 ?_
    refine SOps.move rfl ?_
    refine SOps.nil ?_
    refine SCode.block ?_
    refine SCode.loop2 (fun (i : Nat) (acc : ByteArray) => (⟨49, [(1, DInts pts), (5, .v (.string acc)), (16, DRunes (runes s)), (17, .v (.int .i64 (((runes s).length : Nat) : Int))), (18, .v (.int .i64 (i : Int)))], []⟩ : St)) (fun (i : Nat) (acc : ByteArray) => i ≤ (runes s).length ∧ acc.size ≤ 5 * i ∧ hyF pts ((runes s).drop i) i acc = hyF pts (runes s) 0 .empty) (fun (i : Nat) (acc : ByteArray) => (runes s).length - i) (0) (.empty) (by exact ⟨Nat.zero_le _, Nat.le_refl _, rfl⟩) (St.Le.of ⟨(by first | rfl | (show some _ = some _; simp)), (by first | rfl | (show some _ = some _; simp)), (by first | rfl | (show some _ = some _; simp)), (by first | rfl | (show some _ = some _; simp)), (by first | rfl | (show some _ = some _; simp)), trivial⟩ rfl (by first | rfl | (simp))) ?_
    rintro i acc ⟨hi, hl, hf⟩
    refine SCode.fact (isl_len (t := 1) rfl) (fun hB => ?_)
    simp only [List.length_map, lenB] at hB
    refine SCode.seqR ?_
    refine SOps.bin rfl rfl rfl ?_
    refine SOps.nil ?_
    refine SCode.seq ?_
    refine SCode.cond rfl (fun hc2 => ?_) (fun hc2 => ?_)
    · try simp only [decide_eq_true_eq, decide_eq_false_iff_not, Bool.not_eq_true', Bool.not_eq_false', beq_iff_eq, bne_iff_ne, ne_eq, beq_eq_false_iff_ne, bne_eq_false_iff_eq, Int.not_lt, Int.not_le, Nat.not_lt, Nat.not_le, Int.ofNat_lt, Int.ofNat_le, Bool.not_eq_eq_eq_not, Bool.not_true, Bool.not_false] at hc2
      refine SCode.skip ?_
      show SCode _ _ _ _
      refine SCode.seq ?_
      refine SCode.block ?_
      refine SCode.seqR ?_
      refine SOps.move rfl ?_
      refine SOps.indexM (i) rfl rfl sliceB_40_21_1 (by first | omega | (simp only [lenB]; omega)) (by first | omega | (simp only [lenB]; omega)) ?_
      refine SOps.loadPin rfl flatB_21 ?_
      refine SOps.assign rfl ?_
      refine SOps.assign rfl ?_
      refine SOps.nil ?_
      refine SCode.seqR ?_
      refine SOps.assign rfl ?_
      refine SOps.nil ?_
      refine SCode.seq ?_
      refine SCode.seqR ?_
      refine SOps.move rfl ?_
      refine SOps.lenM rfl sliceB_30_3_1 ?_
      refine SOps.move rfl ?_
      refine SOps.nil ?_
      refine SCode.block ?_
      refine SCode.loop2 (fun (j : Nat) (f : Bool) => (⟨49, [(1, DInts pts), (5, .v (.string acc)), (6, .v (.int .i64 (i : Int))), (7, .v (.int .i32 ((runes s)[i]))), (8, .v (.bool f)), (16, DRunes (runes s)), (17, .v (.int .i64 (((runes s).length : Nat) : Int))), (18, .v (.int .i64 (i : Int))), (23, DInts pts), (24, .v (.int .i64 (pts.length : Int))), (25, .v (.int .i64 (j : Int)))], []⟩ : St)) (fun (j : Nat) (f : Bool) => j ≤ pts.length ∧ f = (pts.take j).any (fun k => k == (i : Int))) (fun (j : Nat) (f : Bool) => pts.length - j) (0) (false) (by exact ⟨Nat.zero_le _, rfl⟩) (St.Le.of ⟨(by first | rfl | (show some _ = some _; simp)), (by first | rfl | (show some _ = some _; simp)), (by first | rfl | (show some _ = some _; simp)), (by first | rfl | (show some _ = some _; simp)), (by first | rfl | (show some _ = some _; simp)), (by first | rfl | (show some _ = some _; simp)), (by first | rfl | (show some _ = some _; simp)), (by first | rfl | (show some _ = some _; simp)), (by first | rfl | (show some _ = some _; simp)), (by first | rfl | (show some _ = some _; simp)), (by first | rfl | (show some _ = some _; simp)), trivial⟩ rfl (by first | rfl | (simp))) ?_
      rintro j f ⟨hj, hfj⟩
      refine SCode.seqR ?_
      refine SOps.bin rfl rfl rfl ?_
      refine SOps.nil ?_
      refine SCode.seq ?_
      refine SCode.cond rfl (fun hc3 => ?_) (fun hc3 => ?_)
      · try simp only [decide_eq_true_eq, decide_eq_false_iff_not, Bool.not_eq_true', Bool.not_eq_false', beq_iff_eq, bne_iff_ne, ne_eq, beq_eq_false_iff_ne, bne_eq_false_iff_eq, Int.not_lt, Int.not_le, Nat.not_lt, Nat.not_le, Int.ofNat_lt, Int.ofNat_le, Bool.not_eq_eq_eq_not, Bool.not_true, Bool.not_false] at hc3
        refine SCode.skip ?_
        show SCode _ _ _ _
        refine SCode.seq ?_
        refine SCode.block ?_
        refine SCode.seqR ?_
        refine SOps.indexM (j) rfl rfl sliceB_30_3_1 (by first | omega | (simp only [lenB]; omega)) (by first | omega | (simp only [lenB]; omega)) ?_
        refine SOps.loadPin rfl flatB_3 ?_
        refine SOps.assign rfl ?_
        refine SOps.nil ?_
        refine SCode.region ?_
        refine SOps.move rfl ?_
        refine SOps.move rfl ?_
        refine SOps.caseB 30 rfl (fun hb4 => ?_) (fun hb4 => ?_)
        · try simp only [decide_eq_true_eq, decide_eq_false_iff_not, Bool.not_eq_true', Bool.not_eq_false', beq_iff_eq, bne_iff_ne, ne_eq, beq_eq_false_iff_ne, bne_eq_false_iff_eq, Int.not_lt, Int.not_le, Nat.not_lt, Nat.not_le, Int.ofNat_lt, Int.ofNat_le, Bool.not_eq_eq_eq_not, Bool.not_true, Bool.not_false] at hb4
          refine SOps.skip rfl ?_
          refine SOps.skip rfl ?_
          refine SOps.skip rfl ?_
          refine SOps.pick rfl rfl ?_
          refine SOps.assign rfl ?_
          refine SOps.nil ?_
          show SCode _ _ _ _
          refine SCode.region ?_
          refine SOps.addI rfl rfl (by first | omega | (simp only [lenB]; omega)) (by first | omega | (simp only [lenB]; omega)) ?_
          refine SOps.move rfl ?_
          refine SOps.nil ?_
          first
            | exact ⟨j + 1, true, ⟨by omega, by rw [any_take_succ (show j < pts.length by omega), ← hfj, hb4]; rfl⟩, by omega, St.Le.of ⟨rfl, rfl, rfl, rfl, rfl, rfl, rfl, rfl, rfl, rfl, rfl, trivial⟩⟩
            | exact ⟨j + 1, (pts[j] == (i : Int)), ⟨by omega, by rw [any_take_succ (show j < pts.length by omega), ← hfj, hb4, Bool.false_or]⟩, by omega, St.Le.of ⟨rfl, rfl, rfl, rfl, rfl, rfl, rfl, rfl, rfl, rfl, rfl, trivial⟩⟩
        · try simp only [decide_eq_true_eq, decide_eq_false_iff_not, Bool.not_eq_true', Bool.not_eq_false', beq_iff_eq, bne_iff_ne, ne_eq, beq_eq_false_iff_ne, bne_eq_false_iff_eq, Int.not_lt, Int.not_le, Nat.not_lt, Nat.not_le, Int.ofNat_lt, Int.ofNat_le, Bool.not_eq_eq_eq_not, Bool.not_true, Bool.not_false] at hb4
          refine SOps.move rfl ?_
          refine SOps.move rfl ?_
          refine SOps.bin rfl rfl rfl ?_
          refine SOps.pick rfl rfl ?_
          refine SOps.assign rfl ?_
          refine SOps.nil ?_
          show SCode _ _ _ _
          refine SCode.region ?_
          refine SOps.addI rfl rfl (by first | omega | (simp only [lenB]; omega)) (by first | omega | (simp only [lenB]; omega)) ?_
          refine SOps.move rfl ?_
          refine SOps.nil ?_
          first
            | exact ⟨j + 1, true, ⟨by omega, by rw [any_take_succ (show j < pts.length by omega), ← hfj, hb4]; rfl⟩, by omega, St.Le.of ⟨rfl, rfl, rfl, rfl, rfl, rfl, rfl, rfl, rfl, rfl, rfl, trivial⟩⟩
            | exact ⟨j + 1, (pts[j] == (i : Int)), ⟨by omega, by rw [any_take_succ (show j < pts.length by omega), ← hfj, hb4, Bool.false_or]⟩, by omega, St.Le.of ⟨rfl, rfl, rfl, rfl, rfl, rfl, rfl, rfl, rfl, rfl, rfl, trivial⟩⟩
      · try simp only [decide_eq_true_eq, decide_eq_false_iff_not, Bool.not_eq_true', Bool.not_eq_false', beq_iff_eq, bne_iff_ne, ne_eq, beq_eq_false_iff_ne, bne_eq_false_iff_eq, Int.not_lt, Int.not_le, Nat.not_lt, Nat.not_le, Int.ofNat_lt, Int.ofNat_le, Bool.not_eq_eq_eq_not, Bool.not_true, Bool.not_false] at hc3
        refine SCode.exit ?_
        show SCode _ _ _ _
        refine SCode.seq ?_
        refine SCode.seqR ?_
        refine SOps.move rfl ?_
        refine SOps.move rfl ?_
        refine SOps.caseB 37 rfl (fun hb5 => ?_) (fun hb5 => ?_)
        · try simp only [decide_eq_true_eq, decide_eq_false_iff_not, Bool.not_eq_true', Bool.not_eq_false', beq_iff_eq, bne_iff_ne, ne_eq, beq_eq_false_iff_ne, bne_eq_false_iff_eq, Int.not_lt, Int.not_le, Nat.not_lt, Nat.not_le, Int.ofNat_lt, Int.ofNat_le, Bool.not_eq_eq_eq_not, Bool.not_true, Bool.not_false] at hb5
          refine SOps.move rfl ?_
          refine SOps.bin rfl rfl rfl ?_
          refine SOps.pick rfl rfl ?_
          refine SOps.nil ?_
          refine SCode.cond rfl (fun hc6 => ?_) (fun hc6 => ?_)
          · try simp only [decide_eq_true_eq, decide_eq_false_iff_not, Bool.not_eq_true', Bool.not_eq_false', beq_iff_eq, bne_iff_ne, ne_eq, beq_eq_false_iff_ne, bne_eq_false_iff_eq, Int.not_lt, Int.not_le, Nat.not_lt, Nat.not_le, Int.ofNat_lt, Int.ofNat_le, Bool.not_eq_eq_eq_not, Bool.not_true, Bool.not_false] at hc6
            refine SCode.region ?_
            refine SOps.move rfl ?_
            refine SOps.concat rfl rfl (by have := encode_size ((runes s)[i]); have h1 : (ByteArray.mk #[45]).size = 1 := rfl; simp only [lenB, ByteArray.size_append]; omega) ?_
            refine SOps.assign rfl ?_
            refine SOps.nil ?_
            show SCode _ _ _ _
            refine SCode.region ?_
            refine SOps.move rfl ?_
            refine SOps.move rfl ?_
            refine SOps.convIntStr rfl someB_21 strB_9 ?_
            refine SOps.concat rfl rfl (by have := encode_size ((runes s)[i]); have h1 : (ByteArray.mk #[45]).size = 1 := rfl; simp only [lenB, ByteArray.size_append]; omega) ?_
            refine SOps.assign rfl ?_
            refine SOps.nil ?_
            show SCode _ _ _ _
            refine SCode.region ?_
            refine SOps.addI rfl rfl (by first | omega | (simp only [lenB]; omega)) (by first | omega | (simp only [lenB]; omega)) ?_
            refine SOps.move rfl ?_
            refine SOps.nil ?_
            first
              | (have hff : f = pts.any (fun k => k == (i : Int)) := (by rw [hfj, List.take_of_length_le (by omega)]); exact ⟨i + 1, acc ++ dash ++ Utf8.encode ((runes s)[i]), ⟨by omega, by have := encode_size ((runes s)[i]); have hd : dash.size = 1 := rfl; simp only [ByteArray.size_append]; omega, by rw [← hf, List.drop_eq_getElem_cons (show i < (runes s).length by omega), hyF, ← hff, hb5]; rw [decide_eq_true (show 0 < i by omega)]; rfl⟩, by omega, St.Le.of ⟨rfl, rfl, rfl, rfl, rfl, trivial⟩⟩)
              | (have hff : f = pts.any (fun k => k == (i : Int)) := (by rw [hfj, List.take_of_length_le (by omega)]); exact ⟨i + 1, acc ++ Utf8.encode ((runes s)[i]), ⟨by omega, by have := encode_size ((runes s)[i]); have hd : dash.size = 1 := rfl; simp only [ByteArray.size_append]; omega, by rw [← hf, List.drop_eq_getElem_cons (show i < (runes s).length by omega), hyF, ← hff, hb5]; rw [decide_eq_false (show ¬ 0 < i by omega)]; rfl⟩, by omega, St.Le.of ⟨rfl, rfl, rfl, rfl, rfl, trivial⟩⟩)
              | (have hff : f = pts.any (fun k => k == (i : Int)) := (by rw [hfj, List.take_of_length_le (by omega)]); exact ⟨i + 1, acc ++ Utf8.encode ((runes s)[i]), ⟨by omega, by have := encode_size ((runes s)[i]); have hd : dash.size = 1 := rfl; simp only [ByteArray.size_append]; omega, by rw [← hf, List.drop_eq_getElem_cons (show i < (runes s).length by omega), hyF, ← hff, hb5]; rfl⟩, by omega, St.Le.of ⟨rfl, rfl, rfl, rfl, rfl, trivial⟩⟩)
          · try simp only [decide_eq_true_eq, decide_eq_false_iff_not, Bool.not_eq_true', Bool.not_eq_false', beq_iff_eq, bne_iff_ne, ne_eq, beq_eq_false_iff_ne, bne_eq_false_iff_eq, Int.not_lt, Int.not_le, Nat.not_lt, Nat.not_le, Int.ofNat_lt, Int.ofNat_le, Bool.not_eq_eq_eq_not, Bool.not_true, Bool.not_false] at hc6
            refine SCode.skip ?_
            show SCode _ _ _ _
            refine SCode.region ?_
            refine SOps.move rfl ?_
            refine SOps.move rfl ?_
            refine SOps.convIntStr rfl someB_21 strB_9 ?_
            refine SOps.concat rfl rfl (by have := encode_size ((runes s)[i]); have h1 : (ByteArray.mk #[45]).size = 1 := rfl; simp only [lenB, ByteArray.size_append]; omega) ?_
            refine SOps.assign rfl ?_
            refine SOps.nil ?_
            show SCode _ _ _ _
            refine SCode.region ?_
            refine SOps.addI rfl rfl (by first | omega | (simp only [lenB]; omega)) (by first | omega | (simp only [lenB]; omega)) ?_
            refine SOps.move rfl ?_
            refine SOps.nil ?_
            first
              | (have hff : f = pts.any (fun k => k == (i : Int)) := (by rw [hfj, List.take_of_length_le (by omega)]); exact ⟨i + 1, acc ++ dash ++ Utf8.encode ((runes s)[i]), ⟨by omega, by have := encode_size ((runes s)[i]); have hd : dash.size = 1 := rfl; simp only [ByteArray.size_append]; omega, by rw [← hf, List.drop_eq_getElem_cons (show i < (runes s).length by omega), hyF, ← hff, hb5]; rw [decide_eq_true (show 0 < i by omega)]; rfl⟩, by omega, St.Le.of ⟨rfl, rfl, rfl, rfl, rfl, trivial⟩⟩)
              | (have hff : f = pts.any (fun k => k == (i : Int)) := (by rw [hfj, List.take_of_length_le (by omega)]); exact ⟨i + 1, acc ++ Utf8.encode ((runes s)[i]), ⟨by omega, by have := encode_size ((runes s)[i]); have hd : dash.size = 1 := rfl; simp only [ByteArray.size_append]; omega, by rw [← hf, List.drop_eq_getElem_cons (show i < (runes s).length by omega), hyF, ← hff, hb5]; rw [decide_eq_false (show ¬ 0 < i by omega)]; rfl⟩, by omega, St.Le.of ⟨rfl, rfl, rfl, rfl, rfl, trivial⟩⟩)
              | (have hff : f = pts.any (fun k => k == (i : Int)) := (by rw [hfj, List.take_of_length_le (by omega)]); exact ⟨i + 1, acc ++ Utf8.encode ((runes s)[i]), ⟨by omega, by have := encode_size ((runes s)[i]); have hd : dash.size = 1 := rfl; simp only [ByteArray.size_append]; omega, by rw [← hf, List.drop_eq_getElem_cons (show i < (runes s).length by omega), hyF, ← hff, hb5]; rfl⟩, by omega, St.Le.of ⟨rfl, rfl, rfl, rfl, rfl, trivial⟩⟩)
        · try simp only [decide_eq_true_eq, decide_eq_false_iff_not, Bool.not_eq_true', Bool.not_eq_false', beq_iff_eq, bne_iff_ne, ne_eq, beq_eq_false_iff_ne, bne_eq_false_iff_eq, Int.not_lt, Int.not_le, Nat.not_lt, Nat.not_le, Int.ofNat_lt, Int.ofNat_le, Bool.not_eq_eq_eq_not, Bool.not_true, Bool.not_false] at hb5
          refine SOps.skip rfl ?_
          refine SOps.skip rfl ?_
          refine SOps.pick rfl rfl ?_
          refine SOps.nil ?_
          refine SCode.cond rfl (fun h => by cases h) (fun _ => ?_)
          refine SCode.skip ?_
          show SCode _ _ _ _
          refine SCode.region ?_
          refine SOps.move rfl ?_
          refine SOps.move rfl ?_
          refine SOps.convIntStr rfl someB_21 strB_9 ?_
          refine SOps.concat rfl rfl (by have := encode_size ((runes s)[i]); have h1 : (ByteArray.mk #[45]).size = 1 := rfl; simp only [lenB, ByteArray.size_append]; omega) ?_
          refine SOps.assign rfl ?_
          refine SOps.nil ?_
          show SCode _ _ _ _
          refine SCode.region ?_
          refine SOps.addI rfl rfl (by first | omega | (simp only [lenB]; omega)) (by first | omega | (simp only [lenB]; omega)) ?_
          refine SOps.move rfl ?_
          refine SOps.nil ?_
          first
            | (have hff : f = pts.any (fun k => k == (i : Int)) := (by rw [hfj, List.take_of_length_le (by omega)]); exact ⟨i + 1, acc ++ dash ++ Utf8.encode ((runes s)[i]), ⟨by omega, by have := encode_size ((runes s)[i]); have hd : dash.size = 1 := rfl; simp only [ByteArray.size_append]; omega, by rw [← hf, List.drop_eq_getElem_cons (show i < (runes s).length by omega), hyF, ← hff, hb5]; rw [decide_eq_true (show 0 < i by omega)]; rfl⟩, by omega, St.Le.of ⟨rfl, rfl, rfl, rfl, rfl, trivial⟩⟩)
            | (have hff : f = pts.any (fun k => k == (i : Int)) := (by rw [hfj, List.take_of_length_le (by omega)]); exact ⟨i + 1, acc ++ Utf8.encode ((runes s)[i]), ⟨by omega, by have := encode_size ((runes s)[i]); have hd : dash.size = 1 := rfl; simp only [ByteArray.size_append]; omega, by rw [← hf, List.drop_eq_getElem_cons (show i < (runes s).length by omega), hyF, ← hff, hb5]; rw [decide_eq_false (show ¬ 0 < i by omega)]; rfl⟩, by omega, St.Le.of ⟨rfl, rfl, rfl, rfl, rfl, trivial⟩⟩)
            | (have hff : f = pts.any (fun k => k == (i : Int)) := (by rw [hfj, List.take_of_length_le (by omega)]); exact ⟨i + 1, acc ++ Utf8.encode ((runes s)[i]), ⟨by omega, by have := encode_size ((runes s)[i]); have hd : dash.size = 1 := rfl; simp only [ByteArray.size_append]; omega, by rw [← hf, List.drop_eq_getElem_cons (show i < (runes s).length by omega), hyF, ← hff, hb5]; rfl⟩, by omega, St.Le.of ⟨rfl, rfl, rfl, rfl, rfl, trivial⟩⟩)
    · try simp only [decide_eq_true_eq, decide_eq_false_iff_not, Bool.not_eq_true', Bool.not_eq_false', beq_iff_eq, bne_iff_ne, ne_eq, beq_eq_false_iff_ne, bne_eq_false_iff_eq, Int.not_lt, Int.not_le, Nat.not_lt, Nat.not_le, Int.ofNat_lt, Int.ofNat_le, Bool.not_eq_eq_eq_not, Bool.not_true, Bool.not_false] at hc2
      refine SCode.exit ?_
      show SCode _ _ _ _
      refine SCode.seqR ?_
      refine SOps.move rfl ?_
      refine SOps.assign rfl ?_
      refine SOps.nil ?_
      refine SCode.ret ?_
      exact ⟨_, Res.one (.tmp rfl), by rw [hyph, hc1, if_pos rfl, ← hf, List.drop_eq_nil_of_le (by omega), hyF], rfl⟩
theorem rRejoin (s : ByteArray) (hs : s.size ≤ 1048576) : GCall Tryd.prog E 33 [.v (.string s)] [] (fun d H => d = .v (.string (rejoin s)) ∧ H = []) := by
  refine GCall.body (C := ⟨Tryd.prog, E, true⟩) Tryd.func33 rfl (fun _ => rfl) (by kernel_rfl) rfl ?_
  refine SCode.seqR ?_
  refine SOps.assign rfl ?_
  refine SOps.nil ?_
  refine SCode.seqR ?_
  refine SOps.litO sliceB_66_5_1 zeroIs_5 rfl (fun b0 hb_0 => ?_)
  refine SOps.assign rfl ?_
  refine SOps.nil ?_
  refine SCode.seq ?_
  refine SCode.seqR ?_
  refine SOps.assign rfl ?_
  refine SOps.nil ?_
  refine SCode.block ?_
  refine SCode.loop3 (fun (i : Nat) (acc : List UInt8) (c : Nat) => (⟨24, [(0, .v (.string s)), (3, .sl c 1 0 acc.length), (4, .v (.int .i64 (i : Int)))], [(c, .row 5 1 (acc.map encY))]⟩ : St)) (fun (i : Nat) (acc : List UInt8) (c : Nat) => i ≤ s.size ∧ acc.length ≤ i ∧ acc ++ (s.data.toList.drop i).filter (fun b => b != 45) = s.data.toList.filter (fun b => b != 45)) (fun (i : Nat) (acc : List UInt8) (c : Nat) => s.size - i) (0) ([]) (b0) (by exact ⟨Nat.zero_le _, Nat.le_refl _, rfl⟩) (St.Le.of ⟨(by first | rfl | (show some _ = some _; simp)), (by first | rfl | (show some _ = some _; simp)), (by first | rfl | (show some _ = some _; simp)), trivial⟩ rfl (by first | rfl | (simp))) ?_
  rintro i acc c ⟨hi, hl, hf⟩
  refine SCode.seq ?_
  refine SCode.seqR ?_
  refine SOps.move rfl ?_
  refine SOps.move rfl ?_
  refine SOps.lenStr rfl strB_9 ?_
  refine SOps.bin rfl rfl rfl ?_
  refine SOps.nil ?_
  refine SCode.cond rfl (fun hc1 => ?_) (fun hc1 => ?_)
  · try simp only [decide_eq_true_eq, decide_eq_false_iff_not, Bool.not_eq_true', Bool.not_eq_false', beq_iff_eq, bne_iff_ne, ne_eq, beq_eq_false_iff_ne, bne_eq_false_iff_eq, Int.not_lt, Int.not_le, Nat.not_lt, Nat.not_le, Int.ofNat_lt, Int.ofNat_le, Bool.not_eq_eq_eq_not, Bool.not_true, Bool.not_false] at hc1
    have hlt : i < s.size := by omega
    refine SCode.skip ?_
    show SCode _ _ _ _
    refine SCode.seq ?_
    refine SCode.block ?_
    refine SCode.seqR ?_
    refine SOps.move rfl ?_
    refine SOps.move rfl ?_
    refine SOps.strIndexM (i) rfl rfl strB_9 (by first | omega | (simp only [lenB]; omega)) (by first | omega | (simp only [lenB]; omega)) ?_
    refine SOps.bin rfl rfl rfl ?_
    refine SOps.nil ?_
    refine SCode.cond rfl (fun hc2 => ?_) (fun hc2 => ?_)
    · try simp only [decide_eq_true_eq, decide_eq_false_iff_not, Bool.not_eq_true', Bool.not_eq_false', beq_iff_eq, bne_iff_ne, ne_eq, beq_eq_false_iff_ne, bne_eq_false_iff_eq, Int.not_lt, Int.not_le, Nat.not_lt, Nat.not_le, Int.ofNat_lt, Int.ofNat_le, Bool.not_eq_eq_eq_not, Bool.not_true, Bool.not_false] at hc2
      refine SCode.region ?_
      refine SOps.move rfl ?_
      refine SOps.move rfl ?_
      refine SOps.move rfl ?_
      refine SOps.strIndexM (i) rfl rfl strB_9 (by first | omega | (simp only [lenB]; omega)) (by first | omega | (simp only [lenB]; omega)) ?_
      refine SOps.litF rfl sliceB_66_5_1 zeroIs_5 rfl ?_
      refine SOps.appendOwn 0 sliceB_66_5_1 elemB_5_1_1 rfl rfl rfl (by simp) SrcD.isl (by simp) (by simp [lenB] <;> (first | omega | (simp only [lenB]; omega))) (by simp <;> (first | omega | (simp only [lenB]; omega))) (fun b1 hb_1 => ?_)
      refine SOps.assign rfl ?_
      refine SOps.nil ?_
      show SCode _ _ _ _
      refine SCode.region ?_
      refine SOps.move rfl ?_
      refine SOps.addI rfl rfl (by first | omega | (simp only [lenB]; omega)) (by first | omega | (simp only [lenB]; omega)) ?_
      refine SOps.assign rfl ?_
      refine SOps.nil ?_
      first
        | (have hne : (s[i] != 45) = true := byte_ne hc2; exact ⟨i + 1, acc ++ [s[i]], b1, ⟨by omega, by simp; omega, by rw [← hf, data_drop (show i < s.size by omega), List.filter_cons, if_pos hne, List.append_assoc]; rfl⟩, by omega, St.Le.of ⟨rfl, (by show some _ = some _; rw [List.length_append]; rfl), rfl, trivial⟩ rfl (by rw [List.map_append]; rfl)⟩)
        | (have hne : ¬ (s[i] != 45) = true := byte_eq hc2; exact ⟨i + 1, acc, c, ⟨by omega, by omega, by rw [← hf, data_drop (show i < s.size by omega), List.filter_cons, if_neg hne]⟩, by omega, St.Le.of ⟨rfl, rfl, rfl, trivial⟩⟩)
    · try simp only [decide_eq_true_eq, decide_eq_false_iff_not, Bool.not_eq_true', Bool.not_eq_false', beq_iff_eq, bne_iff_ne, ne_eq, beq_eq_false_iff_ne, bne_eq_false_iff_eq, Int.not_lt, Int.not_le, Nat.not_lt, Nat.not_le, Int.ofNat_lt, Int.ofNat_le, Bool.not_eq_eq_eq_not, Bool.not_true, Bool.not_false] at hc2
      refine SCode.skip ?_
      show SCode _ _ _ _
      refine SCode.region ?_
      refine SOps.move rfl ?_
      refine SOps.addI rfl rfl (by first | omega | (simp only [lenB]; omega)) (by first | omega | (simp only [lenB]; omega)) ?_
      refine SOps.assign rfl ?_
      refine SOps.nil ?_
      first
        | (have hne : (s[i] != 45) = true := byte_ne hc2; exact ⟨i + 1, acc ++ [s[i]], b1, ⟨by omega, by simp; omega, by rw [← hf, data_drop (show i < s.size by omega), List.filter_cons, if_pos hne, List.append_assoc]; rfl⟩, by omega, St.Le.of ⟨rfl, (by show some _ = some _; rw [List.length_append]; rfl), rfl, trivial⟩ rfl (by rw [List.map_append]; rfl)⟩)
        | (have hne : ¬ (s[i] != 45) = true := byte_eq hc2; exact ⟨i + 1, acc, c, ⟨by omega, by omega, by rw [← hf, data_drop (show i < s.size by omega), List.filter_cons, if_neg hne]⟩, by omega, St.Le.of ⟨rfl, rfl, rfl, trivial⟩⟩)
  · try simp only [decide_eq_true_eq, decide_eq_false_iff_not, Bool.not_eq_true', Bool.not_eq_false', beq_iff_eq, bne_iff_ne, ne_eq, beq_eq_false_iff_ne, bne_eq_false_iff_eq, Int.not_lt, Int.not_le, Nat.not_lt, Nat.not_le, Int.ofNat_lt, Int.ofNat_le, Bool.not_eq_eq_eq_not, Bool.not_true, Bool.not_false] at hc1
    refine SCode.exit ?_
    show SCode _ _ _ _
    refine SCode.seqR ?_
    obtain rfl : acc = s.data.toList.filter (fun b => b != 45) := by rw [← hf, List.drop_eq_nil_of_le (by simp; exact hc1)]; simp
    refine SOps.freezeS (t := 3) 0 rfl rfl rfl (by simp) ?_
    refine SOps.move rfl ?_
    refine SOps.convBytesStr rfl sliceB_66_5_1 intB_5_u8 strB_9 ?_
    refine SOps.assign rfl ?_
    refine SOps.nil ?_
    refine SCode.drop ?_
    refine SCode.ret ?_
    exact ⟨_, Res.one (.tmp rfl), rfl, rfl⟩
end Go.GH
