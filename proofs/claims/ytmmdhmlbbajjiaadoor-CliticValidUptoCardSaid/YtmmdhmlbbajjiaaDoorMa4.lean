/-
  Part 4 of the texts behind the walks of this claim: an own layer over the kit's wp, plain laws, and walks. No conditions.
-/
import Derived.Test.YtmmdhmlbbajjiaaDoorMa3
import Derived.Shelf.Unicode.ValidAny
import Derived.Shelf.Strings.IndexAnyAll
import Derived.Test.YtmmdhmlbbajjiaaDoorProg
import Derived.ChangeArms
import Derived.DataReads
import Derived.Lib.MapLaws
import Derived.Lib.TrimUEq
import Derived.Lib.LaidU8T
import Derived.KernelRfl
import Derived.Lib.SpaceUEq
set_option linter.unusedVariables false
set_option linter.unusedSimpArgs false
set_option linter.deprecated false
namespace Go.GH
open Go Go.Proofs
variable {E : Env}
theorem aggB_47_6 : aggB Tryd.prog 47 6 = true := by kernel_rfl
theorem elemB_21_1_4 : elemB Tryd.prog 21 1 4 = true := by kernel_rfl
theorem fieldB_47_0_0 : fieldB Tryd.prog 47 0 0 = true := by kernel_rfl
theorem fieldB_47_1_1 : fieldB Tryd.prog 47 1 1 = true := by kernel_rfl
theorem fieldB_47_2_2 : fieldB Tryd.prog 47 2 2 = true := by kernel_rfl
theorem fieldB_47_3_3 : fieldB Tryd.prog 47 3 3 = true := by kernel_rfl
theorem fieldB_47_4_4 : fieldB Tryd.prog 47 4 4 = true := by kernel_rfl
theorem fieldB_47_5_5 : fieldB Tryd.prog 47 5 5 = true := by kernel_rfl
theorem intB_21_i32 : intB Tryd.prog 21 .i32 = true := by kernel_rfl
theorem sliceB_84_21_1 : sliceB Tryd.prog 84 21 1 = true := by kernel_rfl
theorem zeroIs_21 : zeroIs Tryd.prog 21 (.int .i32 0) := by unfold zeroIs; kernel_rfl
theorem qIndex (a : List Letter) (r : Int)  : GCall Tryd.prog E 36 [DLs a, .v (.int .i32 r)] [] (fun d H => d = .v (.int .i64 (idxI a r)) ∧ H = []) := by
  refine GCall.body (C := ⟨Tryd.prog, E, true⟩) Tryd.func36 rfl (fun _ => rfl) (by kernel_rfl) rfl ?_
  refine SCode.seqR ?_
  refine SOps.assign rfl ?_
  refine SOps.nil ?_
  refine SCode.seq ?_
  refine SCode.seqR ?_
  refine SOps.assign rfl ?_
  refine SOps.nil ?_
  refine SCode.block ?_
  refine SCode.loop1 (fun (i : Nat) => (⟨20, [(0, DLs a), (1, .v (.int .i32 r)), (5, .v (.int .i64 (i : Int)))], []⟩ : St)) (fun (i : Nat) => i ≤ a.length ∧ ∀ l ∈ a.take i, l.rune ≠ r) (fun (i : Nat) => a.length - i) (0) (by simp) (St.Le.of ⟨(by first | rfl | (show some _ = some _; simp)), (by first | rfl | (show some _ = some _; simp)), (by first | rfl | (show some _ = some _; simp)), trivial⟩ rfl (by first | rfl | (simp))) ?_
  rintro i ⟨hi, hf⟩
  refine SCode.fact (isl_len (t := 0) rfl) (fun hB => ?_)
  simp only [List.length_map, lenB] at hB
  refine SCode.seq ?_
  refine SCode.seqR ?_
  refine SOps.move rfl ?_
  refine SOps.move rfl ?_
  refine SOps.lenM rfl sliceB_22_28_2 ?_
  refine SOps.bin rfl rfl rfl ?_
  refine SOps.nil ?_
  refine SCode.cond rfl (fun hc1 => ?_) (fun hc1 => ?_)
  · try simp only [decide_eq_true_eq, decide_eq_false_iff_not, Bool.not_eq_true', Bool.not_eq_false', beq_iff_eq, bne_iff_ne, ne_eq, beq_eq_false_iff_ne, bne_eq_false_iff_eq, Int.not_lt, Int.not_le, Nat.not_lt, Nat.not_le, Int.ofNat_lt, Int.ofNat_le, Bool.not_eq_eq_eq_not, Bool.not_true, Bool.not_false] at hc1
    refine SCode.skip ?_
    show SCode _ _ _ _
    refine SCode.seq ?_
    refine SCode.block ?_
    refine SCode.seqR ?_
    refine SOps.move rfl ?_
    refine SOps.move rfl ?_
    refine SOps.indexM (i) rfl rfl sliceB_22_28_2 (by omega) (by omega) ?_
    refine SOps.fieldPin rfl fieldB_28_0_0 ?_
    refine SOps.loadPin rfl flatB_21 ?_
    refine SOps.move rfl ?_
    refine SOps.bin rfl rfl rfl ?_
    refine SOps.nil ?_
    refine SCode.cond rfl (fun hc2 => ?_) (fun hc2 => ?_)
    · try simp only [decide_eq_true_eq, decide_eq_false_iff_not, Bool.not_eq_true', Bool.not_eq_false', beq_iff_eq, bne_iff_ne, ne_eq, beq_eq_false_iff_ne, bne_eq_false_iff_eq, Int.not_lt, Int.not_le, Nat.not_lt, Nat.not_le, Int.ofNat_lt, Int.ofNat_le, Bool.not_eq_eq_eq_not, Bool.not_true, Bool.not_false] at hc2
      refine SCode.seqR ?_
      refine SOps.move rfl ?_
      refine SOps.assign rfl ?_
      refine SOps.nil ?_
      refine SCode.ret ?_
      have hx : idx a r = some i := idx_drop hf (by omega) hc2
      exact ⟨_, Res.one (.tmp rfl), by rw [idxI_some hx], rfl⟩
    · try simp only [decide_eq_true_eq, decide_eq_false_iff_not, Bool.not_eq_true', Bool.not_eq_false', beq_iff_eq, bne_iff_ne, ne_eq, beq_eq_false_iff_ne, bne_eq_false_iff_eq, Int.not_lt, Int.not_le, Nat.not_lt, Nat.not_le, Int.ofNat_lt, Int.ofNat_le, Bool.not_eq_eq_eq_not, Bool.not_true, Bool.not_false] at hc2
      refine SCode.skip ?_
      show SCode _ _ _ _
      refine SCode.region ?_
      refine SOps.move rfl ?_
      refine SOps.addI rfl rfl (by omega) (by omega) ?_
      refine SOps.assign rfl ?_
      refine SOps.nil ?_
      exact ⟨i + 1, by exact ⟨by omega, take_more hf (by omega) hc2⟩, by omega, (St.Le.of ⟨(by first | rfl | (show some _ = some _; simp)), (by first | rfl | (show some _ = some _; simp)), (by first | rfl | (show some _ = some _; simp)), trivial⟩ rfl (by first | rfl | (simp)))⟩
  · try simp only [decide_eq_true_eq, decide_eq_false_iff_not, Bool.not_eq_true', Bool.not_eq_false', beq_iff_eq, bne_iff_ne, ne_eq, beq_eq_false_iff_ne, bne_eq_false_iff_eq, Int.not_lt, Int.not_le, Nat.not_lt, Nat.not_le, Int.ofNat_lt, Int.ofNat_le, Bool.not_eq_eq_eq_not, Bool.not_true, Bool.not_false] at hc1
    refine SCode.exit ?_
    show SCode _ _ _ _
    refine SCode.seqR ?_
    refine SOps.assign rfl ?_
    refine SOps.nil ?_
    refine SCode.ret ?_
    have hx : idx a r = none := idx_none.2 (by rw [List.take_of_length_le (by omega)] at hf; exact hf)
    exact ⟨_, Res.one (.tmp rfl), by rw [idxI_none hx], rfl⟩
theorem qAdm (a : List Letter)  : GCall Tryd.prog E 65 [DLs a] [] (fun d H => d = .v (.bool (admA a)) ∧ H = []) := by
  refine GCall.body (C := ⟨Tryd.prog, E, true⟩) Tryd.func65 rfl (fun _ => rfl) (by kernel_rfl) rfl ?_
  refine SCode.seqR ?_
  refine SOps.assign rfl ?_
  refine SOps.nil ?_
  refine SCode.seq ?_
  refine SCode.seqR ?_
  refine SOps.assign rfl ?_
  refine SOps.nil ?_
  refine SCode.block ?_
  refine SCode.loop1 (fun (i : Nat) => (⟨44, [(0, DLs a), (3, .v (.int .i64 (i : Int)))], []⟩ : St)) (fun (i : Nat) => i ≤ a.length ∧ (∀ l ∈ a.take i, goodR l.rune = true) ∧ ((a.take i).map (·.rune)).Nodup) (fun (i : Nat) => a.length - i) (0) (by simp) (St.Le.of ⟨(by first | rfl | (show some _ = some _; simp)), (by first | rfl | (show some _ = some _; simp)), trivial⟩ rfl (by first | rfl | (simp))) ?_
  rintro i ⟨hi, hf⟩
  refine SCode.fact (isl_len (t := 0) rfl) (fun hB => ?_)
  simp only [List.length_map, lenB] at hB
  refine SCode.seq ?_
  refine SCode.seqR ?_
  refine SOps.move rfl ?_
  refine SOps.move rfl ?_
  refine SOps.lenM rfl sliceB_22_28_2 ?_
  refine SOps.bin rfl rfl rfl ?_
  refine SOps.nil ?_
  refine SCode.cond rfl (fun hc1 => ?_) (fun hc1 => ?_)
  · try simp only [decide_eq_true_eq, decide_eq_false_iff_not, Bool.not_eq_true', Bool.not_eq_false', beq_iff_eq, bne_iff_ne, ne_eq, beq_eq_false_iff_ne, bne_eq_false_iff_eq, Int.not_lt, Int.not_le, Nat.not_lt, Nat.not_le, Int.ofNat_lt, Int.ofNat_le, Bool.not_eq_eq_eq_not, Bool.not_true, Bool.not_false] at hc1
    refine SCode.skip ?_
    show SCode _ _ _ _
    refine SCode.seq ?_
    refine SCode.block ?_
    refine SCode.seqR ?_
    refine SOps.move rfl ?_
    refine SOps.move rfl ?_
    refine SOps.indexM (i) rfl rfl sliceB_22_28_2 (by omega) (by omega) ?_
    refine SOps.fieldPin rfl fieldB_28_0_0 ?_
    refine SOps.loadPin rfl flatB_21 ?_
    refine SOps.bin rfl rfl rfl ?_
    refine SOps.move rfl ?_
    refine SOps.caseB 16 rfl (fun hb2 => ?_) (fun hb2 => ?_)
    · try simp only [decide_eq_true_eq, decide_eq_false_iff_not, Bool.not_eq_true', Bool.not_eq_false', beq_iff_eq, bne_iff_ne, ne_eq, beq_eq_false_iff_ne, bne_eq_false_iff_eq, Int.not_lt, Int.not_le, Nat.not_lt, Nat.not_le, Int.ofNat_lt, Int.ofNat_le, Bool.not_eq_eq_eq_not, Bool.not_true, Bool.not_false] at hb2
      refine SOps.skip rfl ?_
      refine SOps.skip rfl ?_
      refine SOps.skip rfl ?_
      refine SOps.skip rfl ?_
      refine SOps.skip rfl ?_
      refine SOps.skip rfl ?_
      refine SOps.skip rfl ?_
      refine SOps.pick rfl rfl ?_
      refine SOps.move rfl ?_
      refine SOps.skip rfl ?_
      refine SOps.skip rfl ?_
      refine SOps.skip rfl ?_
      refine SOps.skip rfl ?_
      refine SOps.skip rfl ?_
      refine SOps.skip rfl ?_
      refine SOps.skip rfl ?_
      refine SOps.skip rfl ?_
      refine SOps.skip rfl ?_
      refine SOps.pick rfl rfl ?_
      refine SOps.nil ?_
      refine SCode.cond rfl (fun _ => ?_) (fun h => by cases h)
      refine SCode.seqR ?_
      refine SOps.assign rfl ?_
      refine SOps.nil ?_
      refine SCode.ret ?_
      exact ⟨_, Res.one (.tmp rfl), congrArg (fun b => DV.v (.bool b)) (Eq.symm (Bool.eq_false_iff.2 (fun h => by have := goodR_split.1 ((properB_iff.1 (admA_proper h).1).1 _ (List.getElem_mem (show i < a.length by omega))); omega))), rfl⟩
    · try simp only [decide_eq_true_eq, decide_eq_false_iff_not, Bool.not_eq_true', Bool.not_eq_false', beq_iff_eq, bne_iff_ne, ne_eq, beq_eq_false_iff_ne, bne_eq_false_iff_eq, Int.not_lt, Int.not_le, Nat.not_lt, Nat.not_le, Int.ofNat_lt, Int.ofNat_le, Bool.not_eq_eq_eq_not, Bool.not_true, Bool.not_false] at hb2
      refine SOps.move rfl ?_
      refine SOps.move rfl ?_
      refine SOps.indexM (i) rfl rfl sliceB_22_28_2 (by omega) (by omega) ?_
      refine SOps.fieldPin rfl fieldB_28_0_0 ?_
      refine SOps.loadPin rfl flatB_21 ?_
      refine SOps.callP (uValidRune _) rfl ?_
      rintro _ rfl
      refine SOps.un rfl rfl ?_
      refine SOps.pick rfl rfl ?_
      refine SOps.move rfl ?_
      refine SOps.caseB 25 rfl (fun hb3 => ?_) (fun hb3 => ?_)
      · try simp only [decide_eq_true_eq, decide_eq_false_iff_not, Bool.not_eq_true', Bool.not_eq_false', beq_iff_eq, bne_iff_ne, ne_eq, beq_eq_false_iff_ne, bne_eq_false_iff_eq, Int.not_lt, Int.not_le, Nat.not_lt, Nat.not_le, Int.ofNat_lt, Int.ofNat_le, Bool.not_eq_eq_eq_not, Bool.not_true, Bool.not_false] at hb3
        refine SOps.skip rfl ?_
        refine SOps.skip rfl ?_
        refine SOps.skip rfl ?_
        refine SOps.skip rfl ?_
        refine SOps.skip rfl ?_
        refine SOps.skip rfl ?_
        refine SOps.skip rfl ?_
        refine SOps.skip rfl ?_
        refine SOps.skip rfl ?_
        refine SOps.pick rfl rfl ?_
        refine SOps.nil ?_
        refine SCode.cond rfl (fun _ => ?_) (fun h => by cases h)
        refine SCode.seqR ?_
        refine SOps.assign rfl ?_
        refine SOps.nil ?_
        refine SCode.ret ?_
        exact ⟨_, Res.one (.tmp rfl), congrArg (fun b => DV.v (.bool b)) (Eq.symm (Bool.eq_false_iff.2 (fun h => by have := goodR_split.1 ((properB_iff.1 (admA_proper h).1).1 _ (List.getElem_mem (show i < a.length by omega))); rw [this.2] at hb3; cases hb3))), rfl⟩
      · try simp only [decide_eq_true_eq, decide_eq_false_iff_not, Bool.not_eq_true', Bool.not_eq_false', beq_iff_eq, bne_iff_ne, ne_eq, beq_eq_false_iff_ne, bne_eq_false_iff_eq, Int.not_lt, Int.not_le, Nat.not_lt, Nat.not_le, Int.ofNat_lt, Int.ofNat_le, Bool.not_eq_eq_eq_not, Bool.not_true, Bool.not_false] at hb3
        refine SOps.move rfl ?_
        refine SOps.move rfl ?_
        refine SOps.move rfl ?_
        refine SOps.indexM (i) rfl rfl sliceB_22_28_2 (by omega) (by omega) ?_
        refine SOps.fieldPin rfl fieldB_28_0_0 ?_
        refine SOps.loadPin rfl flatB_21 ?_
        refine SOps.callP (qIndex _ _) rfl ?_
        rintro _ rfl
        refine SOps.move rfl ?_
        refine SOps.bin rfl rfl rfl ?_
        refine SOps.pick rfl rfl ?_
        refine SOps.nil ?_
        refine SCode.cond rfl (fun hc4 => ?_) (fun hc4 => ?_)
        · try simp only [decide_eq_true_eq, decide_eq_false_iff_not, Bool.not_eq_true', Bool.not_eq_false', beq_iff_eq, bne_iff_ne, ne_eq, beq_eq_false_iff_ne, bne_eq_false_iff_eq, Int.not_lt, Int.not_le, Nat.not_lt, Nat.not_le, Int.ofNat_lt, Int.ofNat_le, Bool.not_eq_eq_eq_not, Bool.not_true, Bool.not_false] at hc4
          refine SCode.seqR ?_
          refine SOps.assign rfl ?_
          refine SOps.nil ?_
          refine SCode.ret ?_
          exact ⟨_, Res.one (.tmp rfl), congrArg (fun b => DV.v (.bool b)) (Eq.symm (Bool.eq_false_iff.2 (fun h => by have := (idx_self (show i < a.length by omega)).2 ((nodup_snoc (show i < a.length by omega)).1 (properB_take (admA_proper h).1 (i + 1)).2).2; rw [idxI_some this] at hc4; exact hc4 rfl))), rfl⟩
        · try simp only [decide_eq_true_eq, decide_eq_false_iff_not, Bool.not_eq_true', Bool.not_eq_false', beq_iff_eq, bne_iff_ne, ne_eq, beq_eq_false_iff_ne, bne_eq_false_iff_eq, Int.not_lt, Int.not_le, Nat.not_lt, Nat.not_le, Int.ofNat_lt, Int.ofNat_le, Bool.not_eq_eq_eq_not, Bool.not_true, Bool.not_false] at hc4
          refine SCode.skip ?_
          show SCode _ _ _ _
          refine SCode.region ?_
          refine SOps.move rfl ?_
          refine SOps.addI rfl rfl (by omega) (by omega) ?_
          refine SOps.assign rfl ?_
          refine SOps.nil ?_
          exact ⟨i + 1, by exact ⟨by omega, take_more hf.1 (by omega) (goodR_split.2 ⟨by omega, hb3⟩), (nodup_snoc (by omega)).2 ⟨hf.2, (idx_self (by omega)).1 (by obtain ⟨k, hk⟩ := idxI_nonneg.1 (show 0 ≤ idxI a (a[i]).rune by omega); rw [hk]; rw [idxI_some hk] at hc4; congr 1; omega)⟩⟩, by omega, (St.Le.of ⟨(by first | rfl | (show some _ = some _; simp)), (by first | rfl | (show some _ = some _; simp)), trivial⟩ rfl (by first | rfl | (simp)))⟩
  · try simp only [decide_eq_true_eq, decide_eq_false_iff_not, Bool.not_eq_true', Bool.not_eq_false', beq_iff_eq, bne_iff_ne, ne_eq, beq_eq_false_iff_ne, bne_eq_false_iff_eq, Int.not_lt, Int.not_le, Nat.not_lt, Nat.not_le, Int.ofNat_lt, Int.ofNat_le, Bool.not_eq_eq_eq_not, Bool.not_true, Bool.not_false] at hc1
    refine SCode.exit ?_
    show SCode _ _ _ _
    refine SCode.seqR ?_
    refine SOps.move rfl ?_
    refine SOps.lenM rfl sliceB_22_28_2 ?_
    refine SOps.bin rfl rfl rfl ?_
    refine SOps.move rfl ?_
    refine SOps.caseB 39 rfl (fun hb5 => ?_) (fun hb5 => ?_)
    · try simp only [decide_eq_true_eq, decide_eq_false_iff_not, Bool.not_eq_true', Bool.not_eq_false', beq_iff_eq, bne_iff_ne, ne_eq, beq_eq_false_iff_ne, bne_eq_false_iff_eq, Int.not_lt, Int.not_le, Nat.not_lt, Nat.not_le, Int.ofNat_lt, Int.ofNat_le, Bool.not_eq_eq_eq_not, Bool.not_true, Bool.not_false] at hb5
      refine SOps.move rfl ?_
      refine SOps.lenM rfl sliceB_22_28_2 ?_
      refine SOps.bin rfl rfl rfl ?_
      refine SOps.pick rfl rfl ?_
      refine SOps.assign rfl ?_
      refine SOps.nil ?_
      refine SCode.ret ?_
      exact ⟨_, Res.one (.tmp rfl), congrArg (fun b => DV.v (.bool b)) (by rw [List.take_of_length_le (by omega)] at hf; rw [admA, properB_iff.2 hf]; rw [Bool.eq_iff_iff]; simp only [decide_eq_true_eq, Bool.and_eq_true, and_true]; omega), rfl⟩
    · try simp only [decide_eq_true_eq, decide_eq_false_iff_not, Bool.not_eq_true', Bool.not_eq_false', beq_iff_eq, bne_iff_ne, ne_eq, beq_eq_false_iff_ne, bne_eq_false_iff_eq, Int.not_lt, Int.not_le, Nat.not_lt, Nat.not_le, Int.ofNat_lt, Int.ofNat_le, Bool.not_eq_eq_eq_not, Bool.not_true, Bool.not_false] at hb5
      refine SOps.skip rfl ?_
      refine SOps.skip rfl ?_
      refine SOps.skip rfl ?_
      refine SOps.pick rfl rfl ?_
      refine SOps.assign rfl ?_
      refine SOps.nil ?_
      refine SCode.ret ?_
      exact ⟨_, Res.one (.tmp rfl), congrArg (fun b => DV.v (.bool b)) (Eq.symm (Bool.eq_false_iff.2 (fun h => by have := admA_proper h; omega))), rfl⟩
theorem qLetters (hV : VS E) (a : List Letter) (s : ByteArray)  : GCall Tryd.prog E 64 [DLs a, .v (.string s)] [] (fun d H => d = (if allL a s then .tup [DRunes (runes s), .v (.bool (utf8R s))] else .tup [.v (.slice none 0 0), .v (.bool false)]) ∧ H = []) := by
  refine GCall.body (C := ⟨Tryd.prog, E, true⟩) Tryd.func64 rfl (fun _ => rfl) (by kernel_rfl) rfl ?_
  refine SCode.seqR ?_
  refine SOps.assign rfl ?_
  refine SOps.assign rfl ?_
  refine SOps.nil ?_
  refine SCode.seqR ?_
  refine SOps.move rfl ?_
  refine SOps.runesF rfl rfl strB_9 sliceB_84_21_1 intB_21_i32 ?_
  refine SOps.assign rfl ?_
  refine SOps.nil ?_
  refine SCode.seq ?_
  refine SCode.seqR ?_
  refine SOps.assign rfl ?_
  refine SOps.nil ?_
  refine SCode.block ?_
  refine SCode.loop1 (fun (i : Nat) => (⟨26, [(0, DLs a), (1, .v (.string s)), (6, DRunes (runes s)), (7, .v (.int .i64 (i : Int)))], []⟩ : St)) (fun (i : Nat) => i ≤ (runes s).length ∧ ∀ r ∈ (runes s).take i, (idx a r).isSome = true) (fun (i : Nat) => (runes s).length - i) (0) (by simp) (St.Le.of ⟨(by first | rfl | (show some _ = some _; simp)), (by first | rfl | (show some _ = some _; simp)), (by first | rfl | (show some _ = some _; simp)), (by first | rfl | (show some _ = some _; simp)), trivial⟩ rfl (by first | rfl | (simp))) ?_
  rintro i ⟨hi, hf⟩
  refine SCode.fact (isl_len (t := 6) rfl) (fun hB => ?_)
  simp only [List.length_map, lenB] at hB
  refine SCode.seq ?_
  refine SCode.seqR ?_
  refine SOps.move rfl ?_
  refine SOps.move rfl ?_
  refine SOps.lenM rfl sliceB_84_21_1 ?_
  refine SOps.bin rfl rfl rfl ?_
  refine SOps.nil ?_
  refine SCode.cond rfl (fun hc1 => ?_) (fun hc1 => ?_)
  · try simp only [decide_eq_true_eq, decide_eq_false_iff_not, Bool.not_eq_true', Bool.not_eq_false', beq_iff_eq, bne_iff_ne, ne_eq, beq_eq_false_iff_ne, bne_eq_false_iff_eq, Int.not_lt, Int.not_le, Nat.not_lt, Nat.not_le, Int.ofNat_lt, Int.ofNat_le, Bool.not_eq_eq_eq_not, Bool.not_true, Bool.not_false] at hc1
    refine SCode.skip ?_
    show SCode _ _ _ _
    refine SCode.seq ?_
    refine SCode.block ?_
    refine SCode.seqR ?_
    refine SOps.move rfl ?_
    refine SOps.move rfl ?_
    refine SOps.move rfl ?_
    refine SOps.indexM (i) rfl rfl sliceB_84_21_1 (by omega) (by omega) ?_
    refine SOps.loadPin rfl flatB_21 ?_
    refine SOps.callP (qIndex _ _) rfl ?_
    rintro _ rfl
    refine SOps.bin rfl rfl rfl ?_
    refine SOps.nil ?_
    refine SCode.cond rfl (fun hc2 => ?_) (fun hc2 => ?_)
    · try simp only [decide_eq_true_eq, decide_eq_false_iff_not, Bool.not_eq_true', Bool.not_eq_false', beq_iff_eq, bne_iff_ne, ne_eq, beq_eq_false_iff_ne, bne_eq_false_iff_eq, Int.not_lt, Int.not_le, Nat.not_lt, Nat.not_le, Int.ofNat_lt, Int.ofNat_le, Bool.not_eq_eq_eq_not, Bool.not_true, Bool.not_false] at hc2
      refine SCode.seqR ?_
      refine SOps.assign rfl ?_
      refine SOps.assign rfl ?_
      refine SOps.nil ?_
      refine SCode.ret ?_
      exact ⟨_, Res.two (.tmp rfl) (.tmp rfl), by rw [if_neg (fun h => by have := List.all_eq_true.1 h _ (List.getElem_mem (show i < (runes s).length by omega)); obtain ⟨k, hk⟩ := Option.isSome_iff_exists.1 this; rw [idxI_some hk] at hc2; omega)], rfl⟩
    · try simp only [decide_eq_true_eq, decide_eq_false_iff_not, Bool.not_eq_true', Bool.not_eq_false', beq_iff_eq, bne_iff_ne, ne_eq, beq_eq_false_iff_ne, bne_eq_false_iff_eq, Int.not_lt, Int.not_le, Nat.not_lt, Nat.not_le, Int.ofNat_lt, Int.ofNat_le, Bool.not_eq_eq_eq_not, Bool.not_true, Bool.not_false] at hc2
      refine SCode.skip ?_
      show SCode _ _ _ _
      refine SCode.region ?_
      refine SOps.move rfl ?_
      refine SOps.addI rfl rfl (by omega) (by omega) ?_
      refine SOps.assign rfl ?_
      refine SOps.nil ?_
      exact ⟨i + 1, by exact ⟨by omega, take_more hf (by omega) (by obtain ⟨k, hk⟩ := idxI_nonneg.1 hc2; rw [hk]; rfl)⟩, by omega, (St.Le.of ⟨(by first | rfl | (show some _ = some _; simp)), (by first | rfl | (show some _ = some _; simp)), (by first | rfl | (show some _ = some _; simp)), (by first | rfl | (show some _ = some _; simp)), trivial⟩ rfl (by first | rfl | (simp)))⟩
  · try simp only [decide_eq_true_eq, decide_eq_false_iff_not, Bool.not_eq_true', Bool.not_eq_false', beq_iff_eq, bne_iff_ne, ne_eq, beq_eq_false_iff_ne, bne_eq_false_iff_eq, Int.not_lt, Int.not_le, Nat.not_lt, Nat.not_le, Int.ofNat_lt, Int.ofNat_le, Bool.not_eq_eq_eq_not, Bool.not_true, Bool.not_false] at hc1
    refine SCode.exit ?_
    show SCode _ _ _ _
    refine SCode.seqR ?_
    refine SOps.move rfl ?_
    refine SOps.move rfl ?_
    refine SOps.callP (hV _) rfl ?_
    rintro _ rfl
    refine SOps.assign rfl ?_
    refine SOps.assign rfl ?_
    refine SOps.nil ?_
    refine SCode.ret ?_
    exact ⟨_, Res.two (.tmp rfl) (.tmp rfl), by rw [if_pos (show allL a s = true from List.all_eq_true.2 (all_of (by omega) hf))], rfl⟩
theorem qPattern (hV : VS E) (a : List Letter) (p : List Item)  : GCall Tryd.prog E 66 [DLs a, DIts p] [] (fun d H => d = .v (.bool (patB a p)) ∧ H = []) := by
  refine GCall.body (C := ⟨Tryd.prog, E, true⟩) Tryd.func66 rfl (fun _ => rfl) (by kernel_rfl) rfl ?_
  refine SCode.seqR ?_
  refine SOps.assign rfl ?_
  refine SOps.nil ?_
  refine SCode.seq ?_
  refine SCode.seqR ?_
  refine SOps.assign rfl ?_
  refine SOps.nil ?_
  refine SCode.block ?_
  refine SCode.loop1 (fun (i : Nat) => (⟨29, [(0, DLs a), (1, DIts p), (5, .v (.int .i64 (i : Int)))], []⟩ : St)) (fun (i : Nat) => i ≤ p.length ∧ ∀ x ∈ p.take i, overA a x.lets = true) (fun (i : Nat) => p.length - i) (0) (by simp) (St.Le.of ⟨(by first | rfl | (show some _ = some _; simp)), (by first | rfl | (show some _ = some _; simp)), (by first | rfl | (show some _ = some _; simp)), trivial⟩ rfl (by first | rfl | (simp))) ?_
  rintro i ⟨hi, hf⟩
  refine SCode.fact (isl_len (t := 1) rfl) (fun hB => ?_)
  simp only [List.length_map, lenB] at hB
  refine SCode.seq ?_
  refine SCode.seqR ?_
  refine SOps.move rfl ?_
  refine SOps.move rfl ?_
  refine SOps.lenM rfl sliceB_45_87_4 ?_
  refine SOps.bin rfl rfl rfl ?_
  refine SOps.nil ?_
  refine SCode.cond rfl (fun hc1 => ?_) (fun hc1 => ?_)
  · try simp only [decide_eq_true_eq, decide_eq_false_iff_not, Bool.not_eq_true', Bool.not_eq_false', beq_iff_eq, bne_iff_ne, ne_eq, beq_eq_false_iff_ne, bne_eq_false_iff_eq, Int.not_lt, Int.not_le, Nat.not_lt, Nat.not_le, Int.ofNat_lt, Int.ofNat_le, Bool.not_eq_eq_eq_not, Bool.not_true, Bool.not_false] at hc1
    refine SCode.skip ?_
    show SCode _ _ _ _
    refine SCode.seq ?_
    refine SCode.block ?_
    refine SCode.seqR ?_
    refine SOps.move rfl ?_
    refine SOps.move rfl ?_
    refine SOps.move rfl ?_
    refine SOps.indexM (i) rfl rfl sliceB_45_87_4 (by omega) (by omega) ?_
    refine SOps.fieldPin rfl fieldB_87_1_1 ?_
    refine SOps.loadPin rfl flatB_9 ?_
    have hi4 : i < p.length := by omega
    rcases hal : allL a (p[i]).lets with _ | _
    · refine SOps.callP (qLetters hV a (p[i]).lets) rfl ?_
      rintro _ rfl
      rw [hal]
      show SOps _ _ _ ⟨_, (21, .tup [.v (.slice none 0 0), .v (.bool false)]) :: _, _⟩ _
      refine SOps.move rfl ?_
      refine SOps.extract rfl rfl ?_
      refine SOps.extract rfl rfl ?_
      refine SOps.assign rfl ?_
      refine SOps.assign rfl ?_
      refine SOps.nil ?_
      refine SCode.seqR ?_
      refine SOps.move rfl ?_
      refine SOps.un rfl rfl ?_
      refine SOps.nil ?_
      refine SCode.cond rfl (fun _ => ?_) (fun h => by cases h)
      refine SCode.seqR ?_
      refine SOps.assign rfl ?_
      refine SOps.nil ?_
      refine SCode.ret ?_
      exact ⟨_, Res.one (.tmp rfl), congrArg (fun b => DV.v (.bool b)) (Eq.symm (Bool.eq_false_iff.2 (fun h => by simp only [patB, Bool.and_eq_true, List.all_eq_true] at h; have := h.2 _ (List.getElem_mem (show i < p.length by omega)); rw [overA_eq, hal] at this; simp at this))), rfl⟩
    · refine SOps.callP (qLetters hV a (p[i]).lets) rfl ?_
      rintro _ rfl
      rw [hal]
      show SOps _ _ _ ⟨_, (21, .tup [DRunes (runes (p[i]).lets), .v (.bool (utf8R (p[i]).lets))]) :: _, _⟩ _
      refine SOps.move rfl ?_
      refine SOps.extract rfl rfl ?_
      refine SOps.extract rfl rfl ?_
      refine SOps.assign rfl ?_
      refine SOps.assign rfl ?_
      refine SOps.nil ?_
      refine SCode.seqR ?_
      refine SOps.move rfl ?_
      refine SOps.un rfl rfl ?_
      refine SOps.nil ?_
      refine SCode.cond rfl (fun hc2 => ?_) (fun hc2 => ?_)
      · try simp only [decide_eq_true_eq, decide_eq_false_iff_not, Bool.not_eq_true', Bool.not_eq_false', beq_iff_eq, bne_iff_ne, ne_eq, beq_eq_false_iff_ne, bne_eq_false_iff_eq, Int.not_lt, Int.not_le, Nat.not_lt, Nat.not_le, Int.ofNat_lt, Int.ofNat_le, Bool.not_eq_eq_eq_not, Bool.not_true, Bool.not_false] at hc2
        refine SCode.seqR ?_
        refine SOps.assign rfl ?_
        refine SOps.nil ?_
        refine SCode.ret ?_
        exact ⟨_, Res.one (.tmp rfl), congrArg (fun b => DV.v (.bool b)) (Eq.symm (Bool.eq_false_iff.2 (fun h => by simp only [patB, Bool.and_eq_true, List.all_eq_true] at h; have := h.2 _ (List.getElem_mem (show i < p.length by omega)); rw [overA_eq, hc2] at this; simp at this))), rfl⟩
      · try simp only [decide_eq_true_eq, decide_eq_false_iff_not, Bool.not_eq_true', Bool.not_eq_false', beq_iff_eq, bne_iff_ne, ne_eq, beq_eq_false_iff_ne, bne_eq_false_iff_eq, Int.not_lt, Int.not_le, Nat.not_lt, Nat.not_le, Int.ofNat_lt, Int.ofNat_le, Bool.not_eq_eq_eq_not, Bool.not_true, Bool.not_false] at hc2
        refine SCode.skip ?_
        show SCode _ _ _ _
        refine SCode.region ?_
        refine SOps.move rfl ?_
        refine SOps.addI rfl rfl (by omega) (by omega) ?_
        refine SOps.assign rfl ?_
        refine SOps.nil ?_
        exact ⟨i + 1, by exact ⟨by omega, take_more hf (by omega) (by rw [overA_eq, hal, hc2]; rfl)⟩, by omega, (St.Le.of ⟨(by first | rfl | (show some _ = some _; simp)), (by first | rfl | (show some _ = some _; simp)), (by first | rfl | (show some _ = some _; simp)), trivial⟩ rfl (by first | rfl | (simp)))⟩
  · try simp only [decide_eq_true_eq, decide_eq_false_iff_not, Bool.not_eq_true', Bool.not_eq_false', beq_iff_eq, bne_iff_ne, ne_eq, beq_eq_false_iff_ne, bne_eq_false_iff_eq, Int.not_lt, Int.not_le, Nat.not_lt, Nat.not_le, Int.ofNat_lt, Int.ofNat_le, Bool.not_eq_eq_eq_not, Bool.not_true, Bool.not_false] at hc1
    refine SCode.exit ?_
    show SCode _ _ _ _
    refine SCode.seqR ?_
    refine SOps.move rfl ?_
    refine SOps.lenM rfl sliceB_45_87_4 ?_
    refine SOps.bin rfl rfl rfl ?_
    refine SOps.assign rfl ?_
    refine SOps.nil ?_
    refine SCode.ret ?_
    exact ⟨_, Res.one (.tmp rfl), congrArg (fun b => DV.v (.bool b)) (by rw [patB, List.all_eq_true.2 (all_of (by omega) hf), Bool.and_true, Bool.eq_iff_iff]; simp only [decide_eq_true_eq]; omega), rfl⟩
theorem rValid (hV : VS E) (a : List Letter) (r : Rule) (hr : SmR r) : GCall Tryd.prog E 34 [DLs a, .agg (encR r)] [] (fun d H => d = .v (.bool (validR a r)) ∧ H = []) := by
  obtain ⟨hr1, hp1, hp2⟩ := hr
  refine GCall.body (C := ⟨Tryd.prog, E, true⟩) Tryd.func34 rfl (fun _ => rfl) (by kernel_rfl) rfl ?_
  refine SCode.seqR ?_
  refine SOps.boxAM rfl rfl ?_
  refine SOps.assign rfl ?_
  refine SOps.nil ?_
  refine SCode.seqR ?_
  refine SOps.move rfl ?_
  refine SOps.assign rfl ?_
  refine SOps.nil ?_
  refine SCode.seq ?_
  refine SCode.seqR ?_
  refine SOps.move rfl ?_
  refine SOps.callP (lAdm _) rfl ?_
  rintro _ rfl
  refine SOps.un rfl rfl ?_
  refine SOps.move rfl ?_
  refine SOps.caseB 10 rfl (fun hb1 => ?_) (fun hb1 => ?_)
  · try simp only [decide_eq_true_eq, decide_eq_false_iff_not, Bool.not_eq_true', Bool.not_eq_false', beq_iff_eq, bne_iff_ne, ne_eq, beq_eq_false_iff_ne, bne_eq_false_iff_eq, Int.not_lt, Int.not_le, Nat.not_lt, Nat.not_le, Int.ofNat_lt, Int.ofNat_le, Bool.not_eq_eq_eq_not, Bool.not_true, Bool.not_false] at hb1
    refine SOps.skip rfl ?_
    refine SOps.skip rfl ?_
    refine SOps.skip rfl ?_
    refine SOps.skip rfl ?_
    refine SOps.skip rfl ?_
    refine SOps.skip rfl ?_
    refine SOps.skip rfl ?_
    refine SOps.skip rfl ?_
    refine SOps.skip rfl ?_
    refine SOps.skip rfl ?_
    refine SOps.pick rfl rfl ?_
    refine SOps.nil ?_
    refine SCode.cond rfl (fun _ => ?_) (fun h => by cases h)
    refine SCode.seqR ?_
    refine SOps.assign rfl ?_
    refine SOps.nil ?_
    refine SCode.ret ?_
    exact ⟨_, Res.one (.tmp rfl), congrArg (fun b => DV.v (.bool b)) (by simp_all [validR]), rfl⟩
  · try simp only [decide_eq_true_eq, decide_eq_false_iff_not, Bool.not_eq_true', Bool.not_eq_false', beq_iff_eq, bne_iff_ne, ne_eq, beq_eq_false_iff_ne, bne_eq_false_iff_eq, Int.not_lt, Int.not_le, Nat.not_lt, Nat.not_le, Int.ofNat_lt, Int.ofNat_le, Bool.not_eq_eq_eq_not, Bool.not_true, Bool.not_false] at hb1
    refine SOps.fieldPin rfl fieldB_47_0_0 ?_
    refine SOps.loadPin rfl flatB_21 ?_
    refine SOps.bin rfl rfl rfl ?_
    refine SOps.move rfl ?_
    refine SOps.caseB 14 rfl (fun hb2 => ?_) (fun hb2 => ?_)
    · try simp only [decide_eq_true_eq, decide_eq_false_iff_not, Bool.not_eq_true', Bool.not_eq_false', beq_iff_eq, bne_iff_ne, ne_eq, beq_eq_false_iff_ne, bne_eq_false_iff_eq, Int.not_lt, Int.not_le, Nat.not_lt, Nat.not_le, Int.ofNat_lt, Int.ofNat_le, Bool.not_eq_eq_eq_not, Bool.not_true, Bool.not_false] at hb2
      refine SOps.move rfl ?_
      refine SOps.fieldPin rfl fieldB_47_0_0 ?_
      refine SOps.loadPin rfl flatB_21 ?_
      refine SOps.callP (lHas _ _) rfl ?_
      rintro _ rfl
      refine SOps.un rfl rfl ?_
      refine SOps.pick rfl rfl ?_
      refine SOps.pick rfl rfl ?_
      refine SOps.nil ?_
      refine SCode.cond rfl (fun hc3 => ?_) (fun hc3 => ?_)
      · try simp only [decide_eq_true_eq, decide_eq_false_iff_not, Bool.not_eq_true', Bool.not_eq_false', beq_iff_eq, bne_iff_ne, ne_eq, beq_eq_false_iff_ne, bne_eq_false_iff_eq, Int.not_lt, Int.not_le, Nat.not_lt, Nat.not_le, Int.ofNat_lt, Int.ofNat_le, Bool.not_eq_eq_eq_not, Bool.not_true, Bool.not_false] at hc3
        refine SCode.seqR ?_
        refine SOps.assign rfl ?_
        refine SOps.nil ?_
        refine SCode.ret ?_
        exact ⟨_, Res.one (.tmp rfl), congrArg (fun b => DV.v (.bool b)) (by simp_all [validR]), rfl⟩
      · try simp only [decide_eq_true_eq, decide_eq_false_iff_not, Bool.not_eq_true', Bool.not_eq_false', beq_iff_eq, bne_iff_ne, ne_eq, beq_eq_false_iff_ne, bne_eq_false_iff_eq, Int.not_lt, Int.not_le, Nat.not_lt, Nat.not_le, Int.ofNat_lt, Int.ofNat_le, Bool.not_eq_eq_eq_not, Bool.not_true, Bool.not_false] at hc3
        refine SCode.skip ?_
        show SCode _ _ _ _
        refine SCode.seqR ?_
        refine SOps.fieldPin rfl fieldB_47_1_1 ?_
        refine SOps.loadPin rfl flatB_9 ?_
        refine SOps.move rfl ?_
        refine SOps.makeFuncB rfl ?_
        refine SOps.callP (lCons hV _ 4 _) rfl ?_
        rintro _ rfl
        refine SOps.move rfl ?_
        refine SOps.caseB 27 rfl (fun hb4 => ?_) (fun hb4 => ?_)
        · try simp only [decide_eq_true_eq, decide_eq_false_iff_not, Bool.not_eq_true', Bool.not_eq_false', beq_iff_eq, bne_iff_ne, ne_eq, beq_eq_false_iff_ne, bne_eq_false_iff_eq, Int.not_lt, Int.not_le, Nat.not_lt, Nat.not_le, Int.ofNat_lt, Int.ofNat_le, Bool.not_eq_eq_eq_not, Bool.not_true, Bool.not_false] at hb4
          refine SOps.move rfl ?_
          refine SOps.fieldPin rfl fieldB_47_2_2 ?_
          refine SOps.loadPin rfl flatB_45 ?_
          refine SOps.callP (pValid hV _ _ hp1) rfl ?_
          rintro _ rfl
          refine SOps.pick rfl rfl ?_
          refine SOps.move rfl ?_
          refine SOps.caseB 33 rfl (fun hb5 => ?_) (fun hb5 => ?_)
          · try simp only [decide_eq_true_eq, decide_eq_false_iff_not, Bool.not_eq_true', Bool.not_eq_false', beq_iff_eq, bne_iff_ne, ne_eq, beq_eq_false_iff_ne, bne_eq_false_iff_eq, Int.not_lt, Int.not_le, Nat.not_lt, Nat.not_le, Int.ofNat_lt, Int.ofNat_le, Bool.not_eq_eq_eq_not, Bool.not_true, Bool.not_false] at hb5
            refine SOps.move rfl ?_
            refine SOps.fieldPin rfl fieldB_47_3_3 ?_
            refine SOps.loadPin rfl flatB_45 ?_
            refine SOps.callP (pValid hV _ _ hp2) rfl ?_
            rintro _ rfl
            refine SOps.pick rfl rfl ?_
            refine SOps.assign rfl ?_
            refine SOps.nil ?_
            refine SCode.ret ?_
            exact ⟨_, Res.one (.tmp rfl), congrArg (fun b => DV.v (.bool b)) (by simp_all [validR]), rfl⟩
          · try simp only [decide_eq_true_eq, decide_eq_false_iff_not, Bool.not_eq_true', Bool.not_eq_false', beq_iff_eq, bne_iff_ne, ne_eq, beq_eq_false_iff_ne, bne_eq_false_iff_eq, Int.not_lt, Int.not_le, Nat.not_lt, Nat.not_le, Int.ofNat_lt, Int.ofNat_le, Bool.not_eq_eq_eq_not, Bool.not_true, Bool.not_false] at hb5
            refine SOps.skip rfl ?_
            refine SOps.skip rfl ?_
            refine SOps.skip rfl ?_
            refine SOps.skip rfl ?_
            refine SOps.pick rfl rfl ?_
            refine SOps.assign rfl ?_
            refine SOps.nil ?_
            refine SCode.ret ?_
            exact ⟨_, Res.one (.tmp rfl), congrArg (fun b => DV.v (.bool b)) (by simp_all [validR]), rfl⟩
        · try simp only [decide_eq_true_eq, decide_eq_false_iff_not, Bool.not_eq_true', Bool.not_eq_false', beq_iff_eq, bne_iff_ne, ne_eq, beq_eq_false_iff_ne, bne_eq_false_iff_eq, Int.not_lt, Int.not_le, Nat.not_lt, Nat.not_le, Int.ofNat_lt, Int.ofNat_le, Bool.not_eq_eq_eq_not, Bool.not_true, Bool.not_false] at hb4
          refine SOps.skip rfl ?_
          refine SOps.skip rfl ?_
          refine SOps.skip rfl ?_
          refine SOps.skip rfl ?_
          refine SOps.pick rfl rfl ?_
          refine SOps.move rfl ?_
          refine SOps.skip rfl ?_
          refine SOps.skip rfl ?_
          refine SOps.skip rfl ?_
          refine SOps.skip rfl ?_
          refine SOps.pick rfl rfl ?_
          refine SOps.assign rfl ?_
          refine SOps.nil ?_
          refine SCode.ret ?_
          exact ⟨_, Res.one (.tmp rfl), congrArg (fun b => DV.v (.bool b)) (by simp_all [validR]), rfl⟩
    · try simp only [decide_eq_true_eq, decide_eq_false_iff_not, Bool.not_eq_true', Bool.not_eq_false', beq_iff_eq, bne_iff_ne, ne_eq, beq_eq_false_iff_ne, bne_eq_false_iff_eq, Int.not_lt, Int.not_le, Nat.not_lt, Nat.not_le, Int.ofNat_lt, Int.ofNat_le, Bool.not_eq_eq_eq_not, Bool.not_true, Bool.not_false] at hb2
      refine SOps.skip rfl ?_
      refine SOps.skip rfl ?_
      refine SOps.skip rfl ?_
      refine SOps.skip rfl ?_
      refine SOps.skip rfl ?_
      refine SOps.pick rfl rfl ?_
      refine SOps.pick rfl rfl ?_
      refine SOps.nil ?_
      refine SCode.cond rfl (fun h => by cases h) (fun _ => ?_)
      refine SCode.skip ?_
      show SCode _ _ _ _
      refine SCode.seqR ?_
      refine SOps.fieldPin rfl fieldB_47_1_1 ?_
      refine SOps.loadPin rfl flatB_9 ?_
      refine SOps.move rfl ?_
      refine SOps.makeFuncB rfl ?_
      refine SOps.callP (lCons hV _ 4 _) rfl ?_
      rintro _ rfl
      refine SOps.move rfl ?_
      refine SOps.caseB 27 rfl (fun hb6 => ?_) (fun hb6 => ?_)
      · try simp only [decide_eq_true_eq, decide_eq_false_iff_not, Bool.not_eq_true', Bool.not_eq_false', beq_iff_eq, bne_iff_ne, ne_eq, beq_eq_false_iff_ne, bne_eq_false_iff_eq, Int.not_lt, Int.not_le, Nat.not_lt, Nat.not_le, Int.ofNat_lt, Int.ofNat_le, Bool.not_eq_eq_eq_not, Bool.not_true, Bool.not_false] at hb6
        refine SOps.move rfl ?_
        refine SOps.fieldPin rfl fieldB_47_2_2 ?_
        refine SOps.loadPin rfl flatB_45 ?_
        refine SOps.callP (pValid hV _ _ hp1) rfl ?_
        rintro _ rfl
        refine SOps.pick rfl rfl ?_
        refine SOps.move rfl ?_
        refine SOps.caseB 33 rfl (fun hb7 => ?_) (fun hb7 => ?_)
        · try simp only [decide_eq_true_eq, decide_eq_false_iff_not, Bool.not_eq_true', Bool.not_eq_false', beq_iff_eq, bne_iff_ne, ne_eq, beq_eq_false_iff_ne, bne_eq_false_iff_eq, Int.not_lt, Int.not_le, Nat.not_lt, Nat.not_le, Int.ofNat_lt, Int.ofNat_le, Bool.not_eq_eq_eq_not, Bool.not_true, Bool.not_false] at hb7
          refine SOps.move rfl ?_
          refine SOps.fieldPin rfl fieldB_47_3_3 ?_
          refine SOps.loadPin rfl flatB_45 ?_
          refine SOps.callP (pValid hV _ _ hp2) rfl ?_
          rintro _ rfl
          refine SOps.pick rfl rfl ?_
          refine SOps.assign rfl ?_
          refine SOps.nil ?_
          refine SCode.ret ?_
          exact ⟨_, Res.one (.tmp rfl), congrArg (fun b => DV.v (.bool b)) (by simp_all [validR]), rfl⟩
        · try simp only [decide_eq_true_eq, decide_eq_false_iff_not, Bool.not_eq_true', Bool.not_eq_false', beq_iff_eq, bne_iff_ne, ne_eq, beq_eq_false_iff_ne, bne_eq_false_iff_eq, Int.not_lt, Int.not_le, Nat.not_lt, Nat.not_le, Int.ofNat_lt, Int.ofNat_le, Bool.not_eq_eq_eq_not, Bool.not_true, Bool.not_false] at hb7
          refine SOps.skip rfl ?_
          refine SOps.skip rfl ?_
          refine SOps.skip rfl ?_
          refine SOps.skip rfl ?_
          refine SOps.pick rfl rfl ?_
          refine SOps.assign rfl ?_
          refine SOps.nil ?_
          refine SCode.ret ?_
          exact ⟨_, Res.one (.tmp rfl), congrArg (fun b => DV.v (.bool b)) (by simp_all [validR]), rfl⟩
      · try simp only [decide_eq_true_eq, decide_eq_false_iff_not, Bool.not_eq_true', Bool.not_eq_false', beq_iff_eq, bne_iff_ne, ne_eq, beq_eq_false_iff_ne, bne_eq_false_iff_eq, Int.not_lt, Int.not_le, Nat.not_lt, Nat.not_le, Int.ofNat_lt, Int.ofNat_le, Bool.not_eq_eq_eq_not, Bool.not_true, Bool.not_false] at hb6
        refine SOps.skip rfl ?_
        refine SOps.skip rfl ?_
        refine SOps.skip rfl ?_
        refine SOps.skip rfl ?_
        refine SOps.pick rfl rfl ?_
        refine SOps.move rfl ?_
        refine SOps.skip rfl ?_
        refine SOps.skip rfl ?_
        refine SOps.skip rfl ?_
        refine SOps.skip rfl ?_
        refine SOps.pick rfl rfl ?_
        refine SOps.assign rfl ?_
        refine SOps.nil ?_
        refine SCode.ret ?_
        exact ⟨_, Res.one (.tmp rfl), congrArg (fun b => DV.v (.bool b)) (by simp_all [validR]), rfl⟩
theorem qValid (hV : VS E) (a : List Letter) (r : Rule)  : GCall Tryd.prog E 38 [DLs a, .agg (encR r)] [] (fun d H => d = .v (.bool (validR a r)) ∧ H = []) := by
  refine GCall.body (C := ⟨Tryd.prog, E, true⟩) Tryd.func38 rfl (fun _ => rfl) (by kernel_rfl) rfl ?_
  refine SCode.seqR ?_
  refine SOps.boxAM rfl rfl ?_
  refine SOps.assign rfl ?_
  refine SOps.nil ?_
  refine SCode.seqR ?_
  refine SOps.move rfl ?_
  refine SOps.fieldPin rfl fieldB_47_1_1 ?_
  refine SOps.loadPin rfl flatB_9 ?_
  rcases hal : allL a r.«to» with _ | _
  · refine SOps.callP (qLetters hV a r.«to») rfl ?_
    rintro _ rfl
    rw [hal]
    show SOps _ _ _ ⟨_, (11, .tup [.v (.slice none 0 0), .v (.bool false)]) :: _, _⟩ _
    refine SOps.move rfl ?_
    refine SOps.extract rfl rfl ?_
    refine SOps.extract rfl rfl ?_
    refine SOps.assign rfl ?_
    refine SOps.assign rfl ?_
    refine SOps.nil ?_
    refine SCode.seqR ?_
    refine SOps.move rfl ?_
    refine SOps.callP (qAdm _) rfl ?_
    rintro _ rfl
    refine SOps.move rfl ?_
    refine SOps.caseB 16 rfl (fun hb1 => ?_) (fun hb1 => ?_)
    · try simp only [decide_eq_true_eq, decide_eq_false_iff_not, Bool.not_eq_true', Bool.not_eq_false', beq_iff_eq, bne_iff_ne, ne_eq, beq_eq_false_iff_ne, bne_eq_false_iff_eq, Int.not_lt, Int.not_le, Nat.not_lt, Nat.not_le, Int.ofNat_lt, Int.ofNat_le, Bool.not_eq_eq_eq_not, Bool.not_true, Bool.not_false] at hb1
      refine SOps.fieldPin rfl fieldB_47_0_0 ?_
      refine SOps.loadPin rfl flatB_21 ?_
      refine SOps.bin rfl rfl rfl ?_
      refine SOps.move rfl ?_
      refine SOps.caseB 20 rfl (fun hb2 => ?_) (fun hb2 => ?_)
      · try simp only [decide_eq_true_eq, decide_eq_false_iff_not, Bool.not_eq_true', Bool.not_eq_false', beq_iff_eq, bne_iff_ne, ne_eq, beq_eq_false_iff_ne, bne_eq_false_iff_eq, Int.not_lt, Int.not_le, Nat.not_lt, Nat.not_le, Int.ofNat_lt, Int.ofNat_le, Bool.not_eq_eq_eq_not, Bool.not_true, Bool.not_false] at hb2
        refine SOps.skip rfl ?_
        refine SOps.skip rfl ?_
        refine SOps.skip rfl ?_
        refine SOps.skip rfl ?_
        refine SOps.skip rfl ?_
        refine SOps.pick rfl rfl ?_
        refine SOps.pick rfl rfl ?_
        refine SOps.move rfl ?_
        refine SOps.move rfl ?_
        refine SOps.pick rfl rfl ?_
        refine SOps.move rfl ?_
        refine SOps.skip rfl ?_
        refine SOps.skip rfl ?_
        refine SOps.skip rfl ?_
        refine SOps.pick rfl rfl ?_
        refine SOps.move rfl ?_
        refine SOps.skip rfl ?_
        refine SOps.skip rfl ?_
        refine SOps.skip rfl ?_
        refine SOps.skip rfl ?_
        refine SOps.pick rfl rfl ?_
        refine SOps.move rfl ?_
        refine SOps.skip rfl ?_
        refine SOps.skip rfl ?_
        refine SOps.skip rfl ?_
        refine SOps.skip rfl ?_
        refine SOps.pick rfl rfl ?_
        refine SOps.assign rfl ?_
        refine SOps.nil ?_
        refine SCode.ret ?_
        exact ⟨_, Res.one (.tmp rfl), congrArg (fun b => DV.v (.bool b)) (by rcases Classical.em ((runes r.«to»).length ≤ 4) with h4 | h4 <;> rcases hx : idx a r.fr with _ | k <;> first | (exfalso; omega) | (simp_all [validR, consS_eq, validPat_adm, idxI]; done) | (simp_all [validR, consS_eq, validPat_adm, idxI] <;> intros <;> omega)), rfl⟩
      · try simp only [decide_eq_true_eq, decide_eq_false_iff_not, Bool.not_eq_true', Bool.not_eq_false', beq_iff_eq, bne_iff_ne, ne_eq, beq_eq_false_iff_ne, bne_eq_false_iff_eq, Int.not_lt, Int.not_le, Nat.not_lt, Nat.not_le, Int.ofNat_lt, Int.ofNat_le, Bool.not_eq_eq_eq_not, Bool.not_true, Bool.not_false] at hb2
        refine SOps.move rfl ?_
        refine SOps.fieldPin rfl fieldB_47_0_0 ?_
        refine SOps.loadPin rfl flatB_21 ?_
        refine SOps.callP (qIndex _ _) rfl ?_
        rintro _ rfl
        refine SOps.bin rfl rfl rfl ?_
        refine SOps.pick rfl rfl ?_
        refine SOps.pick rfl rfl ?_
        refine SOps.move rfl ?_
        refine SOps.caseB 28 rfl (fun hb3 => ?_) (fun hb3 => ?_)
        · try simp only [decide_eq_true_eq, decide_eq_false_iff_not, Bool.not_eq_true', Bool.not_eq_false', beq_iff_eq, bne_iff_ne, ne_eq, beq_eq_false_iff_ne, bne_eq_false_iff_eq, Int.not_lt, Int.not_le, Nat.not_lt, Nat.not_le, Int.ofNat_lt, Int.ofNat_le, Bool.not_eq_eq_eq_not, Bool.not_true, Bool.not_false] at hb3
          refine SOps.move rfl ?_
          refine SOps.pick rfl rfl ?_
          refine SOps.move rfl ?_
          refine SOps.skip rfl ?_
          refine SOps.skip rfl ?_
          refine SOps.skip rfl ?_
          refine SOps.pick rfl rfl ?_
          refine SOps.move rfl ?_
          refine SOps.skip rfl ?_
          refine SOps.skip rfl ?_
          refine SOps.skip rfl ?_
          refine SOps.skip rfl ?_
          refine SOps.pick rfl rfl ?_
          refine SOps.move rfl ?_
          refine SOps.skip rfl ?_
          refine SOps.skip rfl ?_
          refine SOps.skip rfl ?_
          refine SOps.skip rfl ?_
          refine SOps.pick rfl rfl ?_
          refine SOps.assign rfl ?_
          refine SOps.nil ?_
          refine SCode.ret ?_
          exact ⟨_, Res.one (.tmp rfl), congrArg (fun b => DV.v (.bool b)) (by rcases Classical.em ((runes r.«to»).length ≤ 4) with h4 | h4 <;> rcases hx : idx a r.fr with _ | k <;> first | (exfalso; omega) | (simp_all [validR, consS_eq, validPat_adm, idxI]; done) | (simp_all [validR, consS_eq, validPat_adm, idxI] <;> intros <;> omega)), rfl⟩
        · try simp only [decide_eq_true_eq, decide_eq_false_iff_not, Bool.not_eq_true', Bool.not_eq_false', beq_iff_eq, bne_iff_ne, ne_eq, beq_eq_false_iff_ne, bne_eq_false_iff_eq, Int.not_lt, Int.not_le, Nat.not_lt, Nat.not_le, Int.ofNat_lt, Int.ofNat_le, Bool.not_eq_eq_eq_not, Bool.not_true, Bool.not_false] at hb3
          refine SOps.skip rfl ?_
          refine SOps.pick rfl rfl ?_
          refine SOps.move rfl ?_
          refine SOps.skip rfl ?_
          refine SOps.skip rfl ?_
          refine SOps.skip rfl ?_
          refine SOps.pick rfl rfl ?_
          refine SOps.move rfl ?_
          refine SOps.skip rfl ?_
          refine SOps.skip rfl ?_
          refine SOps.skip rfl ?_
          refine SOps.skip rfl ?_
          refine SOps.pick rfl rfl ?_
          refine SOps.move rfl ?_
          refine SOps.skip rfl ?_
          refine SOps.skip rfl ?_
          refine SOps.skip rfl ?_
          refine SOps.skip rfl ?_
          refine SOps.pick rfl rfl ?_
          refine SOps.assign rfl ?_
          refine SOps.nil ?_
          refine SCode.ret ?_
          exact ⟨_, Res.one (.tmp rfl), congrArg (fun b => DV.v (.bool b)) (by rcases Classical.em ((runes r.«to»).length ≤ 4) with h4 | h4 <;> rcases hx : idx a r.fr with _ | k <;> first | (exfalso; omega) | (simp_all [validR, consS_eq, validPat_adm, idxI]; done) | (simp_all [validR, consS_eq, validPat_adm, idxI] <;> intros <;> omega)), rfl⟩
    · try simp only [decide_eq_true_eq, decide_eq_false_iff_not, Bool.not_eq_true', Bool.not_eq_false', beq_iff_eq, bne_iff_ne, ne_eq, beq_eq_false_iff_ne, bne_eq_false_iff_eq, Int.not_lt, Int.not_le, Nat.not_lt, Nat.not_le, Int.ofNat_lt, Int.ofNat_le, Bool.not_eq_eq_eq_not, Bool.not_true, Bool.not_false] at hb1
      refine SOps.skip rfl ?_
      refine SOps.skip rfl ?_
      refine SOps.skip rfl ?_
      refine SOps.skip rfl ?_
      refine SOps.skip rfl ?_
      refine SOps.skip rfl ?_
      refine SOps.skip rfl ?_
      refine SOps.skip rfl ?_
      refine SOps.skip rfl ?_
      refine SOps.skip rfl ?_
      refine SOps.pick rfl rfl ?_
      refine SOps.move rfl ?_
      refine SOps.skip rfl ?_
      refine SOps.pick rfl rfl ?_
      refine SOps.move rfl ?_
      refine SOps.skip rfl ?_
      refine SOps.skip rfl ?_
      refine SOps.skip rfl ?_
      refine SOps.pick rfl rfl ?_
      refine SOps.move rfl ?_
      refine SOps.skip rfl ?_
      refine SOps.skip rfl ?_
      refine SOps.skip rfl ?_
      refine SOps.skip rfl ?_
      refine SOps.pick rfl rfl ?_
      refine SOps.move rfl ?_
      refine SOps.skip rfl ?_
      refine SOps.skip rfl ?_
      refine SOps.skip rfl ?_
      refine SOps.skip rfl ?_
      refine SOps.pick rfl rfl ?_
      refine SOps.assign rfl ?_
      refine SOps.nil ?_
      refine SCode.ret ?_
      exact ⟨_, Res.one (.tmp rfl), congrArg (fun b => DV.v (.bool b)) (by rcases Classical.em ((runes r.«to»).length ≤ 4) with h4 | h4 <;> rcases hx : idx a r.fr with _ | k <;> first | (exfalso; omega) | (simp_all [validR, consS_eq, validPat_adm, idxI]; done) | (simp_all [validR, consS_eq, validPat_adm, idxI] <;> intros <;> omega)), rfl⟩
  · refine SOps.callP (qLetters hV a r.«to») rfl ?_
    rintro _ rfl
    rw [hal]
    show SOps _ _ _ ⟨_, (11, .tup [DRunes (runes r.«to»), .v (.bool (utf8R r.«to»))]) :: _, _⟩ _
    refine SOps.move rfl ?_
    refine SOps.extract rfl rfl ?_
    refine SOps.extract rfl rfl ?_
    refine SOps.assign rfl ?_
    refine SOps.assign rfl ?_
    refine SOps.nil ?_
    refine SCode.seqR ?_
    refine SOps.move rfl ?_
    refine SOps.callP (qAdm _) rfl ?_
    rintro _ rfl
    refine SOps.move rfl ?_
    refine SOps.caseB 16 rfl (fun hb4 => ?_) (fun hb4 => ?_)
    · try simp only [decide_eq_true_eq, decide_eq_false_iff_not, Bool.not_eq_true', Bool.not_eq_false', beq_iff_eq, bne_iff_ne, ne_eq, beq_eq_false_iff_ne, bne_eq_false_iff_eq, Int.not_lt, Int.not_le, Nat.not_lt, Nat.not_le, Int.ofNat_lt, Int.ofNat_le, Bool.not_eq_eq_eq_not, Bool.not_true, Bool.not_false] at hb4
      refine SOps.fieldPin rfl fieldB_47_0_0 ?_
      refine SOps.loadPin rfl flatB_21 ?_
      refine SOps.bin rfl rfl rfl ?_
      refine SOps.move rfl ?_
      refine SOps.caseB 20 rfl (fun hb5 => ?_) (fun hb5 => ?_)
      · try simp only [decide_eq_true_eq, decide_eq_false_iff_not, Bool.not_eq_true', Bool.not_eq_false', beq_iff_eq, bne_iff_ne, ne_eq, beq_eq_false_iff_ne, bne_eq_false_iff_eq, Int.not_lt, Int.not_le, Nat.not_lt, Nat.not_le, Int.ofNat_lt, Int.ofNat_le, Bool.not_eq_eq_eq_not, Bool.not_true, Bool.not_false] at hb5
        refine SOps.skip rfl ?_
        refine SOps.skip rfl ?_
        refine SOps.skip rfl ?_
        refine SOps.skip rfl ?_
        refine SOps.skip rfl ?_
        refine SOps.pick rfl rfl ?_
        refine SOps.pick rfl rfl ?_
        refine SOps.move rfl ?_
        refine SOps.move rfl ?_
        refine SOps.pick rfl rfl ?_
        refine SOps.move rfl ?_
        refine SOps.caseB 31 rfl (fun hb6 => ?_) (fun hb6 => ?_)
        · try simp only [decide_eq_true_eq, decide_eq_false_iff_not, Bool.not_eq_true', Bool.not_eq_false', beq_iff_eq, bne_iff_ne, ne_eq, beq_eq_false_iff_ne, bne_eq_false_iff_eq, Int.not_lt, Int.not_le, Nat.not_lt, Nat.not_le, Int.ofNat_lt, Int.ofNat_le, Bool.not_eq_eq_eq_not, Bool.not_true, Bool.not_false] at hb6
          refine SOps.move rfl ?_
          refine SOps.lenM rfl sliceB_84_21_1 ?_
          refine SOps.bin rfl rfl rfl ?_
          refine SOps.pick rfl rfl ?_
          refine SOps.move rfl ?_
          refine SOps.caseB 36 rfl (fun hb7 => ?_) (fun hb7 => ?_)
          · try simp only [decide_eq_true_eq, decide_eq_false_iff_not, Bool.not_eq_true', Bool.not_eq_false', beq_iff_eq, bne_iff_ne, ne_eq, beq_eq_false_iff_ne, bne_eq_false_iff_eq, Int.not_lt, Int.not_le, Nat.not_lt, Nat.not_le, Int.ofNat_lt, Int.ofNat_le, Bool.not_eq_eq_eq_not, Bool.not_true, Bool.not_false] at hb7
            refine SOps.move rfl ?_
            refine SOps.fieldPin rfl fieldB_47_2_2 ?_
            refine SOps.loadPin rfl flatB_45 ?_
            refine SOps.callP (qPattern hV _ _) rfl ?_
            rintro _ rfl
            refine SOps.pick rfl rfl ?_
            refine SOps.move rfl ?_
            refine SOps.caseB 42 rfl (fun hb8 => ?_) (fun hb8 => ?_)
            · try simp only [decide_eq_true_eq, decide_eq_false_iff_not, Bool.not_eq_true', Bool.not_eq_false', beq_iff_eq, bne_iff_ne, ne_eq, beq_eq_false_iff_ne, bne_eq_false_iff_eq, Int.not_lt, Int.not_le, Nat.not_lt, Nat.not_le, Int.ofNat_lt, Int.ofNat_le, Bool.not_eq_eq_eq_not, Bool.not_true, Bool.not_false] at hb8
              refine SOps.move rfl ?_
              refine SOps.fieldPin rfl fieldB_47_3_3 ?_
              refine SOps.loadPin rfl flatB_45 ?_
              refine SOps.callP (qPattern hV _ _) rfl ?_
              rintro _ rfl
              refine SOps.pick rfl rfl ?_
              refine SOps.assign rfl ?_
              refine SOps.nil ?_
              refine SCode.ret ?_
              exact ⟨_, Res.one (.tmp rfl), congrArg (fun b => DV.v (.bool b)) (by rcases Classical.em ((runes r.«to»).length ≤ 4) with h4 | h4 <;> rcases hx : idx a r.fr with _ | k <;> first | (exfalso; omega) | (simp_all [validR, consS_eq, validPat_adm, idxI]; done) | (simp_all [validR, consS_eq, validPat_adm, idxI] <;> intros <;> omega)), rfl⟩
            · try simp only [decide_eq_true_eq, decide_eq_false_iff_not, Bool.not_eq_true', Bool.not_eq_false', beq_iff_eq, bne_iff_ne, ne_eq, beq_eq_false_iff_ne, bne_eq_false_iff_eq, Int.not_lt, Int.not_le, Nat.not_lt, Nat.not_le, Int.ofNat_lt, Int.ofNat_le, Bool.not_eq_eq_eq_not, Bool.not_true, Bool.not_false] at hb8
              refine SOps.skip rfl ?_
              refine SOps.skip rfl ?_
              refine SOps.skip rfl ?_
              refine SOps.skip rfl ?_
              refine SOps.pick rfl rfl ?_
              refine SOps.assign rfl ?_
              refine SOps.nil ?_
              refine SCode.ret ?_
              exact ⟨_, Res.one (.tmp rfl), congrArg (fun b => DV.v (.bool b)) (by rcases Classical.em ((runes r.«to»).length ≤ 4) with h4 | h4 <;> rcases hx : idx a r.fr with _ | k <;> first | (exfalso; omega) | (simp_all [validR, consS_eq, validPat_adm, idxI]; done) | (simp_all [validR, consS_eq, validPat_adm, idxI] <;> intros <;> omega)), rfl⟩
          · try simp only [decide_eq_true_eq, decide_eq_false_iff_not, Bool.not_eq_true', Bool.not_eq_false', beq_iff_eq, bne_iff_ne, ne_eq, beq_eq_false_iff_ne, bne_eq_false_iff_eq, Int.not_lt, Int.not_le, Nat.not_lt, Nat.not_le, Int.ofNat_lt, Int.ofNat_le, Bool.not_eq_eq_eq_not, Bool.not_true, Bool.not_false] at hb7
            refine SOps.skip rfl ?_
            refine SOps.skip rfl ?_
            refine SOps.skip rfl ?_
            refine SOps.skip rfl ?_
            refine SOps.pick rfl rfl ?_
            refine SOps.move rfl ?_
            refine SOps.skip rfl ?_
            refine SOps.skip rfl ?_
            refine SOps.skip rfl ?_
            refine SOps.skip rfl ?_
            refine SOps.pick rfl rfl ?_
            refine SOps.assign rfl ?_
            refine SOps.nil ?_
            refine SCode.ret ?_
            exact ⟨_, Res.one (.tmp rfl), congrArg (fun b => DV.v (.bool b)) (by rcases Classical.em ((runes r.«to»).length ≤ 4) with h4 | h4 <;> rcases hx : idx a r.fr with _ | k <;> first | (exfalso; omega) | (simp_all [validR, consS_eq, validPat_adm, idxI]; done) | (simp_all [validR, consS_eq, validPat_adm, idxI] <;> intros <;> omega)), rfl⟩
        · try simp only [decide_eq_true_eq, decide_eq_false_iff_not, Bool.not_eq_true', Bool.not_eq_false', beq_iff_eq, bne_iff_ne, ne_eq, beq_eq_false_iff_ne, bne_eq_false_iff_eq, Int.not_lt, Int.not_le, Nat.not_lt, Nat.not_le, Int.ofNat_lt, Int.ofNat_le, Bool.not_eq_eq_eq_not, Bool.not_true, Bool.not_false] at hb6
          refine SOps.skip rfl ?_
          refine SOps.skip rfl ?_
          refine SOps.skip rfl ?_
          refine SOps.pick rfl rfl ?_
          refine SOps.move rfl ?_
          refine SOps.skip rfl ?_
          refine SOps.skip rfl ?_
          refine SOps.skip rfl ?_
          refine SOps.skip rfl ?_
          refine SOps.pick rfl rfl ?_
          refine SOps.move rfl ?_
          refine SOps.skip rfl ?_
          refine SOps.skip rfl ?_
          refine SOps.skip rfl ?_
          refine SOps.skip rfl ?_
          refine SOps.pick rfl rfl ?_
          refine SOps.assign rfl ?_
          refine SOps.nil ?_
          refine SCode.ret ?_
          exact ⟨_, Res.one (.tmp rfl), congrArg (fun b => DV.v (.bool b)) (by rcases Classical.em ((runes r.«to»).length ≤ 4) with h4 | h4 <;> rcases hx : idx a r.fr with _ | k <;> first | (exfalso; omega) | (simp_all [validR, consS_eq, validPat_adm, idxI]; done) | (simp_all [validR, consS_eq, validPat_adm, idxI] <;> intros <;> omega)), rfl⟩
      · try simp only [decide_eq_true_eq, decide_eq_false_iff_not, Bool.not_eq_true', Bool.not_eq_false', beq_iff_eq, bne_iff_ne, ne_eq, beq_eq_false_iff_ne, bne_eq_false_iff_eq, Int.not_lt, Int.not_le, Nat.not_lt, Nat.not_le, Int.ofNat_lt, Int.ofNat_le, Bool.not_eq_eq_eq_not, Bool.not_true, Bool.not_false] at hb5
        refine SOps.move rfl ?_
        refine SOps.fieldPin rfl fieldB_47_0_0 ?_
        refine SOps.loadPin rfl flatB_21 ?_
        refine SOps.callP (qIndex _ _) rfl ?_
        rintro _ rfl
        refine SOps.bin rfl rfl rfl ?_
        refine SOps.pick rfl rfl ?_
        refine SOps.pick rfl rfl ?_
        refine SOps.move rfl ?_
        refine SOps.caseB 28 rfl (fun hb9 => ?_) (fun hb9 => ?_)
        · try simp only [decide_eq_true_eq, decide_eq_false_iff_not, Bool.not_eq_true', Bool.not_eq_false', beq_iff_eq, bne_iff_ne, ne_eq, beq_eq_false_iff_ne, bne_eq_false_iff_eq, Int.not_lt, Int.not_le, Nat.not_lt, Nat.not_le, Int.ofNat_lt, Int.ofNat_le, Bool.not_eq_eq_eq_not, Bool.not_true, Bool.not_false] at hb9
          refine SOps.move rfl ?_
          refine SOps.pick rfl rfl ?_
          refine SOps.move rfl ?_
          refine SOps.caseB 31 rfl (fun hb10 => ?_) (fun hb10 => ?_)
          · try simp only [decide_eq_true_eq, decide_eq_false_iff_not, Bool.not_eq_true', Bool.not_eq_false', beq_iff_eq, bne_iff_ne, ne_eq, beq_eq_false_iff_ne, bne_eq_false_iff_eq, Int.not_lt, Int.not_le, Nat.not_lt, Nat.not_le, Int.ofNat_lt, Int.ofNat_le, Bool.not_eq_eq_eq_not, Bool.not_true, Bool.not_false] at hb10
            refine SOps.move rfl ?_
            refine SOps.lenM rfl sliceB_84_21_1 ?_
            refine SOps.bin rfl rfl rfl ?_
            refine SOps.pick rfl rfl ?_
            refine SOps.move rfl ?_
            refine SOps.caseB 36 rfl (fun hb11 => ?_) (fun hb11 => ?_)
            · try simp only [decide_eq_true_eq, decide_eq_false_iff_not, Bool.not_eq_true', Bool.not_eq_false', beq_iff_eq, bne_iff_ne, ne_eq, beq_eq_false_iff_ne, bne_eq_false_iff_eq, Int.not_lt, Int.not_le, Nat.not_lt, Nat.not_le, Int.ofNat_lt, Int.ofNat_le, Bool.not_eq_eq_eq_not, Bool.not_true, Bool.not_false] at hb11
              refine SOps.move rfl ?_
              refine SOps.fieldPin rfl fieldB_47_2_2 ?_
              refine SOps.loadPin rfl flatB_45 ?_
              refine SOps.callP (qPattern hV _ _) rfl ?_
              rintro _ rfl
              refine SOps.pick rfl rfl ?_
              refine SOps.move rfl ?_
              refine SOps.caseB 42 rfl (fun hb12 => ?_) (fun hb12 => ?_)
              · try simp only [decide_eq_true_eq, decide_eq_false_iff_not, Bool.not_eq_true', Bool.not_eq_false', beq_iff_eq, bne_iff_ne, ne_eq, beq_eq_false_iff_ne, bne_eq_false_iff_eq, Int.not_lt, Int.not_le, Nat.not_lt, Nat.not_le, Int.ofNat_lt, Int.ofNat_le, Bool.not_eq_eq_eq_not, Bool.not_true, Bool.not_false] at hb12
                refine SOps.move rfl ?_
                refine SOps.fieldPin rfl fieldB_47_3_3 ?_
                refine SOps.loadPin rfl flatB_45 ?_
                refine SOps.callP (qPattern hV _ _) rfl ?_
                rintro _ rfl
                refine SOps.pick rfl rfl ?_
                refine SOps.assign rfl ?_
                refine SOps.nil ?_
                refine SCode.ret ?_
                exact ⟨_, Res.one (.tmp rfl), congrArg (fun b => DV.v (.bool b)) (by rcases Classical.em ((runes r.«to»).length ≤ 4) with h4 | h4 <;> rcases hx : idx a r.fr with _ | k <;> first | (exfalso; omega) | (simp_all [validR, consS_eq, validPat_adm, idxI]; done) | (simp_all [validR, consS_eq, validPat_adm, idxI] <;> intros <;> omega)), rfl⟩
              · try simp only [decide_eq_true_eq, decide_eq_false_iff_not, Bool.not_eq_true', Bool.not_eq_false', beq_iff_eq, bne_iff_ne, ne_eq, beq_eq_false_iff_ne, bne_eq_false_iff_eq, Int.not_lt, Int.not_le, Nat.not_lt, Nat.not_le, Int.ofNat_lt, Int.ofNat_le, Bool.not_eq_eq_eq_not, Bool.not_true, Bool.not_false] at hb12
                refine SOps.skip rfl ?_
                refine SOps.skip rfl ?_
                refine SOps.skip rfl ?_
                refine SOps.skip rfl ?_
                refine SOps.pick rfl rfl ?_
                refine SOps.assign rfl ?_
                refine SOps.nil ?_
                refine SCode.ret ?_
                exact ⟨_, Res.one (.tmp rfl), congrArg (fun b => DV.v (.bool b)) (by rcases Classical.em ((runes r.«to»).length ≤ 4) with h4 | h4 <;> rcases hx : idx a r.fr with _ | k <;> first | (exfalso; omega) | (simp_all [validR, consS_eq, validPat_adm, idxI]; done) | (simp_all [validR, consS_eq, validPat_adm, idxI] <;> intros <;> omega)), rfl⟩
            · try simp only [decide_eq_true_eq, decide_eq_false_iff_not, Bool.not_eq_true', Bool.not_eq_false', beq_iff_eq, bne_iff_ne, ne_eq, beq_eq_false_iff_ne, bne_eq_false_iff_eq, Int.not_lt, Int.not_le, Nat.not_lt, Nat.not_le, Int.ofNat_lt, Int.ofNat_le, Bool.not_eq_eq_eq_not, Bool.not_true, Bool.not_false] at hb11
              refine SOps.skip rfl ?_
              refine SOps.skip rfl ?_
              refine SOps.skip rfl ?_
              refine SOps.skip rfl ?_
              refine SOps.pick rfl rfl ?_
              refine SOps.move rfl ?_
              refine SOps.skip rfl ?_
              refine SOps.skip rfl ?_
              refine SOps.skip rfl ?_
              refine SOps.skip rfl ?_
              refine SOps.pick rfl rfl ?_
              refine SOps.assign rfl ?_
              refine SOps.nil ?_
              refine SCode.ret ?_
              exact ⟨_, Res.one (.tmp rfl), congrArg (fun b => DV.v (.bool b)) (by rcases Classical.em ((runes r.«to»).length ≤ 4) with h4 | h4 <;> rcases hx : idx a r.fr with _ | k <;> first | (exfalso; omega) | (simp_all [validR, consS_eq, validPat_adm, idxI]; done) | (simp_all [validR, consS_eq, validPat_adm, idxI] <;> intros <;> omega)), rfl⟩
          · try simp only [decide_eq_true_eq, decide_eq_false_iff_not, Bool.not_eq_true', Bool.not_eq_false', beq_iff_eq, bne_iff_ne, ne_eq, beq_eq_false_iff_ne, bne_eq_false_iff_eq, Int.not_lt, Int.not_le, Nat.not_lt, Nat.not_le, Int.ofNat_lt, Int.ofNat_le, Bool.not_eq_eq_eq_not, Bool.not_true, Bool.not_false] at hb10
            refine SOps.skip rfl ?_
            refine SOps.skip rfl ?_
            refine SOps.skip rfl ?_
            refine SOps.pick rfl rfl ?_
            refine SOps.move rfl ?_
            refine SOps.skip rfl ?_
            refine SOps.skip rfl ?_
            refine SOps.skip rfl ?_
            refine SOps.skip rfl ?_
            refine SOps.pick rfl rfl ?_
            refine SOps.move rfl ?_
            refine SOps.skip rfl ?_
            refine SOps.skip rfl ?_
            refine SOps.skip rfl ?_
            refine SOps.skip rfl ?_
            refine SOps.pick rfl rfl ?_
            refine SOps.assign rfl ?_
            refine SOps.nil ?_
            refine SCode.ret ?_
            exact ⟨_, Res.one (.tmp rfl), congrArg (fun b => DV.v (.bool b)) (by rcases Classical.em ((runes r.«to»).length ≤ 4) with h4 | h4 <;> rcases hx : idx a r.fr with _ | k <;> first | (exfalso; omega) | (simp_all [validR, consS_eq, validPat_adm, idxI]; done) | (simp_all [validR, consS_eq, validPat_adm, idxI] <;> intros <;> omega)), rfl⟩
        · try simp only [decide_eq_true_eq, decide_eq_false_iff_not, Bool.not_eq_true', Bool.not_eq_false', beq_iff_eq, bne_iff_ne, ne_eq, beq_eq_false_iff_ne, bne_eq_false_iff_eq, Int.not_lt, Int.not_le, Nat.not_lt, Nat.not_le, Int.ofNat_lt, Int.ofNat_le, Bool.not_eq_eq_eq_not, Bool.not_true, Bool.not_false] at hb9
          refine SOps.skip rfl ?_
          refine SOps.pick rfl rfl ?_
          refine SOps.move rfl ?_
          refine SOps.skip rfl ?_
          refine SOps.skip rfl ?_
          refine SOps.skip rfl ?_
          refine SOps.pick rfl rfl ?_
          refine SOps.move rfl ?_
          refine SOps.skip rfl ?_
          refine SOps.skip rfl ?_
          refine SOps.skip rfl ?_
          refine SOps.skip rfl ?_
          refine SOps.pick rfl rfl ?_
          refine SOps.move rfl ?_
          refine SOps.skip rfl ?_
          refine SOps.skip rfl ?_
          refine SOps.skip rfl ?_
          refine SOps.skip rfl ?_
          refine SOps.pick rfl rfl ?_
          refine SOps.assign rfl ?_
          refine SOps.nil ?_
          refine SCode.ret ?_
          exact ⟨_, Res.one (.tmp rfl), congrArg (fun b => DV.v (.bool b)) (by rcases Classical.em ((runes r.«to»).length ≤ 4) with h4 | h4 <;> rcases hx : idx a r.fr with _ | k <;> first | (exfalso; omega) | (simp_all [validR, consS_eq, validPat_adm, idxI]; done) | (simp_all [validR, consS_eq, validPat_adm, idxI] <;> intros <;> omega)), rfl⟩
    · try simp only [decide_eq_true_eq, decide_eq_false_iff_not, Bool.not_eq_true', Bool.not_eq_false', beq_iff_eq, bne_iff_ne, ne_eq, beq_eq_false_iff_ne, bne_eq_false_iff_eq, Int.not_lt, Int.not_le, Nat.not_lt, Nat.not_le, Int.ofNat_lt, Int.ofNat_le, Bool.not_eq_eq_eq_not, Bool.not_true, Bool.not_false] at hb4
      refine SOps.skip rfl ?_
      refine SOps.skip rfl ?_
      refine SOps.skip rfl ?_
      refine SOps.skip rfl ?_
      refine SOps.skip rfl ?_
      refine SOps.skip rfl ?_
      refine SOps.skip rfl ?_
      refine SOps.skip rfl ?_
      refine SOps.skip rfl ?_
      refine SOps.skip rfl ?_
      refine SOps.pick rfl rfl ?_
      refine SOps.move rfl ?_
      refine SOps.skip rfl ?_
      refine SOps.pick rfl rfl ?_
      refine SOps.move rfl ?_
      refine SOps.skip rfl ?_
      refine SOps.skip rfl ?_
      refine SOps.skip rfl ?_
      refine SOps.pick rfl rfl ?_
      refine SOps.move rfl ?_
      refine SOps.skip rfl ?_
      refine SOps.skip rfl ?_
      refine SOps.skip rfl ?_
      refine SOps.skip rfl ?_
      refine SOps.pick rfl rfl ?_
      refine SOps.move rfl ?_
      refine SOps.skip rfl ?_
      refine SOps.skip rfl ?_
      refine SOps.skip rfl ?_
      refine SOps.skip rfl ?_
      refine SOps.pick rfl rfl ?_
      refine SOps.assign rfl ?_
      refine SOps.nil ?_
      refine SCode.ret ?_
      exact ⟨_, Res.one (.tmp rfl), congrArg (fun b => DV.v (.bool b)) (by rcases Classical.em ((runes r.«to»).length ≤ 4) with h4 | h4 <;> rcases hx : idx a r.fr with _ | k <;> first | (exfalso; omega) | (simp_all [validR, consS_eq, validPat_adm, idxI]; done) | (simp_all [validR, consS_eq, validPat_adm, idxI] <;> intros <;> omega)), rfl⟩
theorem rFollows (hV : VS E) (a : List Letter) (r : Rule) (s : ByteArray) (hr : SmR r) (hs : s.size ≤ 1048576) : GCall Tryd.prog E 98 [DLs a, .agg (encR r), .v (.string s)] [] (fun d H => d = .v (.bool (followsR a r s)) ∧ H = []) := by
  obtain ⟨hr1, hp1, hp2⟩ := hr
  refine GCall.body (C := ⟨Tryd.prog, E, true⟩) Tryd.func98 rfl (fun _ => rfl) (by kernel_rfl) rfl ?_
  refine SCode.seqR ?_
  refine SOps.boxAM rfl rfl ?_
  refine SOps.assign rfl ?_
  refine SOps.nil ?_
  refine SCode.seq ?_
  refine SCode.seqR ?_
  refine SOps.fieldPin rfl fieldB_47_4_4 ?_
  refine SOps.loadPin rfl flatB_4 ?_
  refine SOps.nil ?_
  refine SCode.cond rfl (fun hc1 => ?_) (fun hc1 => ?_)
  · try simp only [decide_eq_true_eq, decide_eq_false_iff_not, Bool.not_eq_true', Bool.not_eq_false', beq_iff_eq, bne_iff_ne, ne_eq, beq_eq_false_iff_ne, bne_eq_false_iff_eq, Int.not_lt, Int.not_le, Nat.not_lt, Nat.not_le, Int.ofNat_lt, Int.ofNat_le, Bool.not_eq_eq_eq_not, Bool.not_true, Bool.not_false] at hc1
    refine SCode.seqR ?_
    refine SOps.move rfl ?_
    refine SOps.fieldPin rfl fieldB_47_2_2 ?_
    refine SOps.loadPin rfl flatB_45 ?_
    refine SOps.move rfl ?_
    refine SOps.callP (pMatches hV _ _ _ hp1 hs) rfl ?_
    rintro _ rfl
    refine SOps.assign rfl ?_
    refine SOps.nil ?_
    refine SCode.ret ?_
    exact ⟨_, Res.one (.tmp rfl), congrArg (fun b => DV.v (.bool b)) (by rw [followsR, if_pos hc1]), rfl⟩
  · try simp only [decide_eq_true_eq, decide_eq_false_iff_not, Bool.not_eq_true', Bool.not_eq_false', beq_iff_eq, bne_iff_ne, ne_eq, beq_eq_false_iff_ne, bne_eq_false_iff_eq, Int.not_lt, Int.not_le, Nat.not_lt, Nat.not_le, Int.ofNat_lt, Int.ofNat_le, Bool.not_eq_eq_eq_not, Bool.not_true, Bool.not_false] at hc1
    refine SCode.skip ?_
    show SCode _ _ _ _
    refine SCode.seqR ?_
    refine SOps.move rfl ?_
    refine SOps.fieldPin rfl fieldB_47_2_2 ?_
    refine SOps.loadPin rfl flatB_45 ?_
    refine SOps.move rfl ?_
    refine SOps.callP (pSuffixes hV _ _ _ hp1 hs) rfl ?_
    rintro _ rfl
    refine SOps.lenM rfl sliceB_43_3_1 ?_
    refine SOps.bin rfl rfl rfl ?_
    refine SOps.assign rfl ?_
    refine SOps.nil ?_
    refine SCode.ret ?_
    exact ⟨_, Res.one (.tmp rfl), congrArg (fun b => DV.v (.bool b)) (by rw [followsR, if_neg (by rw [hc1]; simp), Bool.eq_iff_iff]; simp only [decide_eq_true_eq]; omega), rfl⟩
theorem rPrecedes (hV : VS E) (a : List Letter) (r : Rule) (s : ByteArray) (hr : SmR r) (hs : s.size ≤ 1048576) : GCall Tryd.prog E 99 [DLs a, .agg (encR r), .v (.string s)] [] (fun d H => d = .v (.bool (precedesR a r s)) ∧ H = []) := by
  obtain ⟨hr1, hp1, hp2⟩ := hr
  refine GCall.body (C := ⟨Tryd.prog, E, true⟩) Tryd.func99 rfl (fun _ => rfl) (by kernel_rfl) rfl ?_
  refine SCode.seqR ?_
  refine SOps.boxAM rfl rfl ?_
  refine SOps.assign rfl ?_
  refine SOps.nil ?_
  refine SCode.seq ?_
  refine SCode.seqR ?_
  refine SOps.fieldPin rfl fieldB_47_5_5 ?_
  refine SOps.loadPin rfl flatB_4 ?_
  refine SOps.nil ?_
  refine SCode.cond rfl (fun hc1 => ?_) (fun hc1 => ?_)
  · try simp only [decide_eq_true_eq, decide_eq_false_iff_not, Bool.not_eq_true', Bool.not_eq_false', beq_iff_eq, bne_iff_ne, ne_eq, beq_eq_false_iff_ne, bne_eq_false_iff_eq, Int.not_lt, Int.not_le, Nat.not_lt, Nat.not_le, Int.ofNat_lt, Int.ofNat_le, Bool.not_eq_eq_eq_not, Bool.not_true, Bool.not_false] at hc1
    refine SCode.seqR ?_
    refine SOps.move rfl ?_
    refine SOps.fieldPin rfl fieldB_47_3_3 ?_
    refine SOps.loadPin rfl flatB_45 ?_
    refine SOps.move rfl ?_
    refine SOps.callP (pMatches hV _ _ _ hp2 hs) rfl ?_
    rintro _ rfl
    refine SOps.assign rfl ?_
    refine SOps.nil ?_
    refine SCode.ret ?_
    exact ⟨_, Res.one (.tmp rfl), congrArg (fun b => DV.v (.bool b)) (by rw [precedesR, if_pos hc1]), rfl⟩
  · try simp only [decide_eq_true_eq, decide_eq_false_iff_not, Bool.not_eq_true', Bool.not_eq_false', beq_iff_eq, bne_iff_ne, ne_eq, beq_eq_false_iff_ne, bne_eq_false_iff_eq, Int.not_lt, Int.not_le, Nat.not_lt, Nat.not_le, Int.ofNat_lt, Int.ofNat_le, Bool.not_eq_eq_eq_not, Bool.not_true, Bool.not_false] at hc1
    refine SCode.skip ?_
    show SCode _ _ _ _
    refine SCode.seqR ?_
    refine SOps.move rfl ?_
    refine SOps.fieldPin rfl fieldB_47_3_3 ?_
    refine SOps.loadPin rfl flatB_45 ?_
    refine SOps.move rfl ?_
    refine SOps.callP (pPrefixes hV _ _ _ hp2 hs) rfl ?_
    rintro _ rfl
    refine SOps.lenM rfl sliceB_43_3_1 ?_
    refine SOps.bin rfl rfl rfl ?_
    refine SOps.assign rfl ?_
    refine SOps.nil ?_
    refine SCode.ret ?_
    exact ⟨_, Res.one (.tmp rfl), congrArg (fun b => DV.v (.bool b)) (by rw [precedesR, if_neg (by rw [hc1]; simp), Bool.eq_iff_iff]; simp only [decide_eq_true_eq]; omega), rfl⟩
def siteB (a : List Letter) (r : Rule) (w : List Int) (i : Nat) : Bool := (decide (r.fr = 0) || (w[i]? == some r.fr)) && followsR a r (encs (w.take i)) && precedesR a r (encs (w.drop (if r.fr = 0 then i else i + 1)))
def siteQ (a : List Letter) (r : Rule) (w : List Int) (i : Nat) : Bool := (decide (r.fr = 0) || (w[i]? == some r.fr)) && leftR a r (w.take i) && rightR a r (w.drop (if r.fr = 0 then i else i + 1))
def okR (a : List Letter) (r : Rule) (s : ByteArray) : Bool := validR a r && consS a 40 s
def sitesF (p : Nat → Bool) (w : List Int) : List Nat := (List.range (w.length + 1)).filter p
theorem filter_succ (p : Nat → Bool) (i : Nat) : (List.range (i + 1)).filter p = (List.range i).filter p ++ if p i then [i] else [] := by
  rw [List.range_succ, List.filter_append]
  cases h : p i <;> simp [h]
theorem filter_len (p : Nat → Bool) (i : Nat) : ((List.range i).filter p).length ≤ i := by
  have := List.length_filter_le p (List.range i)
  simpa using this
theorem encs_take_size (w : List Int) (n : Nat) (h : w.length ≤ 40) : (encs (w.take n)).size ≤ 1048576 := by
  have := runesBytes_size_le (w.take n)
  rw [encs_eq] at this
  simp only [List.length_take] at this
  omega
theorem encs_drop_size (w : List Int) (n : Nat) (h : w.length ≤ 40) : (encs (w.drop n)).size ≤ 1048576 := by
  have := runesBytes_size_le (w.drop n)
  rw [encs_eq] at this
  simp only [List.length_drop] at this
  omega
theorem rSites0 (hV : VS E) (a : List Letter) (r : Rule) (s : ByteArray) (hr : SmR r) (hs : s.size ≤ 1048576) : GCall Tryd.prog E 97 [DLs a, .agg (encR r), .v (.string s)] [] (fun d H => d = (if okR a r s then DNats (sitesF (siteB a r (runes s)) (runes s)) else .v (.slice none 0 0)) ∧ H = []) := by
  refine GCall.body (C := ⟨Tryd.prog, E, true⟩) Tryd.func97 rfl (fun _ => rfl) (by kernel_rfl) rfl ?_
  refine SCode.seqR ?_
  refine SOps.boxAM rfl rfl ?_
  refine SOps.assign rfl ?_
  refine SOps.nil ?_
  refine SCode.scope ?_
  refine SCode.seq ?_
  refine SCode.seqR ?_
  refine SOps.move rfl ?_
  refine SOps.loadPinA rfl aggB_47_6 (Nat.le_of_ble_eq_true rfl) ?_
  refine SOps.callP (rValid hV _ _ (by assumption)) rfl ?_
  rintro _ rfl
  refine SOps.un rfl rfl ?_
  refine SOps.move rfl ?_
  refine SOps.caseB 15 rfl (fun hb1 => ?_) (fun hb1 => ?_)
  · try simp only [decide_eq_true_eq, decide_eq_false_iff_not, Bool.not_eq_true', Bool.not_eq_false', beq_iff_eq, bne_iff_ne, ne_eq, beq_eq_false_iff_ne, bne_eq_false_iff_eq, Int.not_lt, Int.not_le, Nat.not_lt, Nat.not_le, Int.ofNat_lt, Int.ofNat_le, Bool.not_eq_eq_eq_not, Bool.not_true, Bool.not_false] at hb1
    refine SOps.skip rfl ?_
    refine SOps.skip rfl ?_
    refine SOps.skip rfl ?_
    refine SOps.skip rfl ?_
    refine SOps.pick rfl rfl ?_
    refine SOps.nil ?_
    refine SCode.cond rfl (fun _ => ?_) (fun h => by cases h)
    refine SCode.seqR ?_
    refine SOps.assign rfl ?_
    refine SOps.nil ?_
    refine SCode.ret ?_
    exact ⟨_, Res.one (.tmp rfl), by first | (rw [if_neg (by simp_all [okR])]; done) | (rw [if_pos hok, ← ho]; rfl), rfl⟩
  · try simp only [decide_eq_true_eq, decide_eq_false_iff_not, Bool.not_eq_true', Bool.not_eq_false', beq_iff_eq, bne_iff_ne, ne_eq, beq_eq_false_iff_ne, bne_eq_false_iff_eq, Int.not_lt, Int.not_le, Nat.not_lt, Nat.not_le, Int.ofNat_lt, Int.ofNat_le, Bool.not_eq_eq_eq_not, Bool.not_true, Bool.not_false] at hb1
    refine SOps.move rfl ?_
    refine SOps.move rfl ?_
    refine SOps.callP (lIsWord hV _ _) rfl ?_
    rintro _ rfl
    refine SOps.un rfl rfl ?_
    refine SOps.pick rfl rfl ?_
    refine SOps.nil ?_
    refine SCode.cond rfl (fun hc2 => ?_) (fun hc2 => ?_)
    · try simp only [decide_eq_true_eq, decide_eq_false_iff_not, Bool.not_eq_true', Bool.not_eq_false', beq_iff_eq, bne_iff_ne, ne_eq, beq_eq_false_iff_ne, bne_eq_false_iff_eq, Int.not_lt, Int.not_le, Nat.not_lt, Nat.not_le, Int.ofNat_lt, Int.ofNat_le, Bool.not_eq_eq_eq_not, Bool.not_true, Bool.not_false] at hc2
      refine SCode.seqR ?_
      refine SOps.assign rfl ?_
      refine SOps.nil ?_
      refine SCode.ret ?_
      exact ⟨_, Res.one (.tmp rfl), by first | (rw [if_neg (by simp_all [okR])]; done) | (rw [if_pos hok, ← ho]; rfl), rfl⟩
    · try simp only [decide_eq_true_eq, decide_eq_false_iff_not, Bool.not_eq_true', Bool.not_eq_false', beq_iff_eq, bne_iff_ne, ne_eq, beq_eq_false_iff_ne, bne_eq_false_iff_eq, Int.not_lt, Int.not_le, Nat.not_lt, Nat.not_le, Int.ofNat_lt, Int.ofNat_le, Bool.not_eq_eq_eq_not, Bool.not_true, Bool.not_false] at hc2
      refine SCode.skip ?_
      show SCode _ _ _ _
      refine SCode.seqR ?_
      refine SOps.move rfl ?_
      refine SOps.runesF rfl rfl strB_9 sliceB_84_21_1 intB_21_i32 ?_
      refine SOps.assign rfl ?_
      refine SOps.nil ?_
      refine SCode.seqR ?_
      refine SOps.assign rfl ?_
      refine SOps.nil ?_
      refine SCode.seq ?_
      refine SCode.label ?_
      show SCode _ _ _ _
      refine SCode.seq ?_
      refine SCode.seqR ?_
      refine SOps.assign rfl ?_
      refine SOps.nil ?_
      refine SCode.block ?_
      have hok : okR a r s = true := by simp_all [okR]
      have hw40 : (runes s).length ≤ 40 := by have h40 : consS a 40 s = true := (by simp_all); rw [consS_eq] at h40; simp only [Bool.and_eq_true, decide_eq_true_eq] at h40; exact h40.1.2
      refine SCode.loop3 (fun (i : Nat) (out : List Nat) (k : Nat) => (⟨69, [(0, DLs a), (4, .ipin (encR r)), (7, DRunes (runes s)), (8, accD 1 k (out.map encN)), (9, .v (.int .i64 (i : Int)))], accH 3 1 k (out.map encN) ++ []⟩ : St)) (fun (i : Nat) (out : List Nat) (k : Nat) => i ≤ (runes s).length + 1 ∧ (List.range i).filter (siteB a r (runes s)) = out) (fun (i : Nat) (out : List Nat) (k : Nat) => (runes s).length + 1 - i) (0) ([]) (0) (by exact ⟨Nat.zero_le _, rfl⟩) (St.Le.of ⟨(by first | rfl | (show some _ = some _; simp)), (by first | rfl | (show some _ = some _; simp)), (by first | rfl | (show some _ = some _; simp)), (by first | rfl | (show some _ = some _; simp)), (by first | rfl | (show some _ = some _; simp)), trivial⟩ rfl (by first | rfl | (simp))) ?_
      rintro i out k ⟨hi, ho⟩
      have hol := filter_len (siteB a r (runes s)) i
      rw [ho] at hol
      refine SCode.seq ?_
      refine SCode.seqR ?_
      refine SOps.move rfl ?_
      refine SOps.move rfl ?_
      refine SOps.lenM rfl sliceB_84_21_1 ?_
      refine SOps.bin rfl rfl rfl ?_
      refine SOps.nil ?_
      refine SCode.cond rfl (fun hc3 => ?_) (fun hc3 => ?_)
      · try simp only [decide_eq_true_eq, decide_eq_false_iff_not, Bool.not_eq_true', Bool.not_eq_false', beq_iff_eq, bne_iff_ne, ne_eq, beq_eq_false_iff_ne, bne_eq_false_iff_eq, Int.not_lt, Int.not_le, Nat.not_lt, Nat.not_le, Int.ofNat_lt, Int.ofNat_le, Bool.not_eq_eq_eq_not, Bool.not_true, Bool.not_false] at hc3
        refine SCode.skip ?_
        show SCode _ _ _ _
        refine SCode.seq ?_
        refine SCode.block ?_
        refine SCode.seqR ?_
        refine SOps.move rfl ?_
        refine SOps.assign rfl ?_
        refine SOps.nil ?_
        refine SCode.seq ?_
        refine SCode.seqR ?_
        refine SOps.fieldPin rfl fieldB_47_0_0 ?_
        refine SOps.loadPin rfl flatB_21 ?_
        refine SOps.bin rfl rfl rfl ?_
        refine SOps.nil ?_
        refine SCode.cond rfl (fun hc4 => ?_) (fun hc4 => ?_)
        · try simp only [decide_eq_true_eq, decide_eq_false_iff_not, Bool.not_eq_true', Bool.not_eq_false', beq_iff_eq, bne_iff_ne, ne_eq, beq_eq_false_iff_ne, bne_eq_false_iff_eq, Int.not_lt, Int.not_le, Nat.not_lt, Nat.not_le, Int.ofNat_lt, Int.ofNat_le, Bool.not_eq_eq_eq_not, Bool.not_true, Bool.not_false] at hc4
          refine SCode.seq ?_
          refine SCode.seq ?_
          rcases (show i = (runes s).length ∨ i < (runes s).length from by omega) with hq | hq
          · refine SCode.drawPure mixed_ [(33, .v (.int .i64 (i : Int))), (34, DRunes (runes s)), (35, .v (.int .i64 (((runes s).length : Nat) : Int))), (36, .v (.bool true)), (37, .v (.bool true)), (38, .v (.tuple #[])), (39, .v (.tuple #[])), (40, .v (.tuple #[])), (41, .v (.tuple #[])), (42, .v (.tuple #[])), (43, .v (.tuple #[])), (44, .v (.tuple #[])), (45, .v (.bool true))] [33, 34, 35, 36, 37, 38, 39, 40, 41, 42, 43, 44, 45] [[.inr 9], [.inr 7], [.inl 1], [.inl 0, .inl 2], [.inl 3], [.inl 4], [.inl 4], [.inl 4], [.inl 4], [.inl 4], [.inl 4], [.inl 4], [.inl 4, .inl 11]] [[(9, .v (.int .i64 (i : Int)))], [(7, DRunes (runes s))], [(34, DRunes (runes s))], [(33, .v (.int .i64 (i : Int))), (35, .v (.int .i64 (((runes s).length : Nat) : Int)))], [(36, .v (.bool true))], [(37, .v (.bool true))], [(37, .v (.bool true))], [(37, .v (.bool true))], [(37, .v (.bool true))], [(37, .v (.bool true))], [(37, .v (.bool true))], [(37, .v (.bool true))], [(37, .v (.bool true)), (44, .v (.tuple #[]))]] rfl (by kernel_rfl) (by kernel_rfl) rfl ?_ ?_
            · refine OpsOk.cons (fun rest => ?_) ?_
              · refine SOps.move rfl ?_
                exact SOps.nil (by first | rfl | simp_all)
              refine OpsOk.cons (fun rest => ?_) ?_
              · refine SOps.move rfl ?_
                exact SOps.nil (by first | rfl | simp_all)
              refine OpsOk.cons (fun rest => ?_) ?_
              · refine SOps.lenM rfl sliceB_84_21_1 ?_
                exact SOps.nil (by first | rfl | simp_all)
              refine OpsOk.cons (fun rest => ?_) ?_
              · refine SOps.bin rfl rfl rfl ?_
                exact SOps.nil (by exact congrArg (fun b => St.put _ _ (.v (.bool b))) (beq_iff_eq.2 (by omega)))
              refine OpsOk.cons (fun rest => ?_) ?_
              · refine SOps.move rfl ?_
                exact SOps.nil (by first | rfl | simp_all)
              refine OpsOk.cons (fun rest => ?_) ?_
              · refine SOps.skip rfl ?_
                exact SOps.nil (by first | rfl | simp_all)
              refine OpsOk.cons (fun rest => ?_) ?_
              · refine SOps.skip rfl ?_
                exact SOps.nil (by first | rfl | simp_all)
              refine OpsOk.cons (fun rest => ?_) ?_
              · refine SOps.skip rfl ?_
                exact SOps.nil (by first | rfl | simp_all)
              refine OpsOk.cons (fun rest => ?_) ?_
              · refine SOps.skip rfl ?_
                exact SOps.nil (by first | rfl | simp_all)
              refine OpsOk.cons (fun rest => ?_) ?_
              · refine SOps.skip rfl ?_
                exact SOps.nil (by first | rfl | simp_all)
              refine OpsOk.cons (fun rest => ?_) ?_
              · refine SOps.skip rfl ?_
                exact SOps.nil (by first | rfl | simp_all)
              refine OpsOk.cons (fun rest => ?_) ?_
              · refine SOps.skip rfl ?_
                exact SOps.nil (by first | rfl | simp_all)
              refine OpsOk.cons (fun rest => ?_) ?_
              · refine SOps.pick rfl rfl ?_
                exact SOps.nil (by first | rfl | simp_all)
              exact OpsOk.nil
            · show SCode _ _ _ _
              refine SCode.cond rfl (fun _ => ?_) (fun h => by cases h)
              refine SCode.exit ?_
              show SCode _ _ _ _
              refine SCode.region ?_
              refine SOps.move rfl ?_
              refine SOps.addI rfl rfl (by first | omega | (simp only [lenB]; omega)) (by first | omega | (simp only [lenB]; omega)) ?_
              refine SOps.assign rfl ?_
              refine SOps.nil ?_
              first
                | exact ⟨i + 1, out ++ [i], b0, ⟨by omega, by rw [filter_succ, if_pos (by simp_all [siteB]), ho]⟩, by omega, St.Le.of ⟨rfl, rfl, rfl, (by show some _ = some _; rw [List.map_append]; rfl), rfl, trivial⟩ rfl (by rw [List.map_append]; rfl)⟩
                | exact ⟨i + 1, out ++ [i], b1, ⟨by omega, by rw [filter_succ, if_pos (by simp_all [siteB]), ho]⟩, by omega, St.Le.of ⟨rfl, rfl, rfl, (by show some _ = some _; rw [List.map_append]; rfl), rfl, trivial⟩ rfl (by rw [List.map_append]; rfl)⟩
                | exact ⟨i + 1, out, k, ⟨by omega, by rw [filter_succ, if_neg (by simp_all [siteB]), ho, List.append_nil]⟩, by omega, St.Le.of ⟨rfl, rfl, rfl, rfl, rfl, trivial⟩⟩
          · refine SCode.drawPure mixed_ [(33, .v (.int .i64 (i : Int))), (34, DRunes (runes s)), (35, .v (.int .i64 (((runes s).length : Nat) : Int))), (36, .v (.bool false)), (37, .v (.bool false)), (38, DRunes (runes s)), (39, .v (.int .i64 (i : Int))), (40, .ipin (rcell ((runes s)[i]))), (41, .v (.int .i32 ((runes s)[i]))), (42, .ipin ((encR r).drop 0)), (43, .v (.int .i32 r.fr)), (44, .v (.bool (!decide ((runes s)[i] = r.fr)))), (45, .v (.bool (!decide ((runes s)[i] = r.fr))))] [33, 34, 35, 36, 37, 38, 39, 40, 41, 42, 43, 44, 45] [[.inr 9], [.inr 7], [.inl 1], [.inl 0, .inl 2], [.inl 3], [.inl 4, .inr 7], [.inl 4, .inr 9], [.inl 4, .inl 5, .inl 6], [.inl 4, .inl 7], [.inl 4, .inr 4], [.inl 4, .inl 9], [.inl 4, .inl 8, .inl 10], [.inl 4, .inl 11]] [[(9, .v (.int .i64 (i : Int)))], [(7, DRunes (runes s))], [(34, DRunes (runes s))], [(33, .v (.int .i64 (i : Int))), (35, .v (.int .i64 (((runes s).length : Nat) : Int)))], [(36, .v (.bool false))], [(37, .v (.bool false)), (7, DRunes (runes s))], [(37, .v (.bool false)), (9, .v (.int .i64 (i : Int)))], [(37, .v (.bool false)), (38, DRunes (runes s)), (39, .v (.int .i64 (i : Int)))], [(37, .v (.bool false)), (40, .ipin (rcell ((runes s)[i])))], [(37, .v (.bool false)), (4, .ipin (encR r))], [(37, .v (.bool false)), (42, .ipin ((encR r).drop 0))], [(37, .v (.bool false)), (41, .v (.int .i32 ((runes s)[i]))), (43, .v (.int .i32 r.fr))], [(37, .v (.bool false)), (44, .v (.bool (!decide ((runes s)[i] = r.fr))))]] rfl (by kernel_rfl) (by kernel_rfl) rfl ?_ ?_
            · refine OpsOk.cons (fun rest => ?_) ?_
              · refine SOps.move rfl ?_
                exact SOps.nil (by first | rfl | simp_all)
              refine OpsOk.cons (fun rest => ?_) ?_
              · refine SOps.move rfl ?_
                exact SOps.nil (by first | rfl | simp_all)
              refine OpsOk.cons (fun rest => ?_) ?_
              · refine SOps.lenM rfl sliceB_84_21_1 ?_
                exact SOps.nil (by first | rfl | simp_all)
              refine OpsOk.cons (fun rest => ?_) ?_
              · refine SOps.bin rfl rfl rfl ?_
                exact SOps.nil (by exact congrArg (fun b => St.put _ _ (.v (.bool b))) (beq_eq_false_iff_ne.2 (by omega)))
              refine OpsOk.cons (fun rest => ?_) ?_
              · refine SOps.move rfl ?_
                exact SOps.nil (by first | rfl | simp_all)
              refine OpsOk.cons (fun rest => ?_) ?_
              · refine SOps.move rfl ?_
                exact SOps.nil (by first | rfl | simp_all)
              refine OpsOk.cons (fun rest => ?_) ?_
              · refine SOps.move rfl ?_
                exact SOps.nil (by first | rfl | simp_all)
              refine OpsOk.cons (fun rest => ?_) ?_
              · refine SOps.indexM (i) rfl rfl sliceB_84_21_1 (by first | omega | (simp only [lenB]; omega)) (by first | omega | (simp only [lenB]; omega)) ?_
                exact SOps.nil (by first | rfl | simp_all)
              refine OpsOk.cons (fun rest => ?_) ?_
              · refine SOps.loadPin rfl flatB_21 ?_
                exact SOps.nil (by first | rfl | simp_all)
              refine OpsOk.cons (fun rest => ?_) ?_
              · refine SOps.fieldPin rfl fieldB_47_0_0 ?_
                exact SOps.nil (by first | rfl | simp_all)
              refine OpsOk.cons (fun rest => ?_) ?_
              · refine SOps.loadPin rfl flatB_21 ?_
                exact SOps.nil (by first | rfl | simp_all)
              refine OpsOk.cons (fun rest => ?_) ?_
              · refine SOps.bin rfl rfl rfl ?_
                exact SOps.nil (by first | rfl | simp_all)
              refine OpsOk.cons (fun rest => ?_) ?_
              · refine SOps.pick rfl rfl ?_
                exact SOps.nil (by first | rfl | simp_all)
              exact OpsOk.nil
            · show SCode _ _ _ _
              refine SCode.cond rfl (fun hc5 => ?_) (fun hc5 => ?_)
              · try simp only [decide_eq_true_eq, decide_eq_false_iff_not, Bool.not_eq_true', Bool.not_eq_false', beq_iff_eq, bne_iff_ne, ne_eq, beq_eq_false_iff_ne, bne_eq_false_iff_eq, Int.not_lt, Int.not_le, Nat.not_lt, Nat.not_le, Int.ofNat_lt, Int.ofNat_le, Bool.not_eq_eq_eq_not, Bool.not_true, Bool.not_false] at hc5
                refine SCode.exit ?_
                show SCode _ _ _ _
                refine SCode.region ?_
                refine SOps.move rfl ?_
                refine SOps.addI rfl rfl (by first | omega | (simp only [lenB]; omega)) (by first | omega | (simp only [lenB]; omega)) ?_
                refine SOps.assign rfl ?_
                refine SOps.nil ?_
                first
                  | exact ⟨i + 1, out ++ [i], b0, ⟨by omega, by rw [filter_succ, if_pos (by simp_all [siteB]), ho]⟩, by omega, St.Le.of ⟨rfl, rfl, rfl, (by show some _ = some _; rw [List.map_append]; rfl), rfl, trivial⟩ rfl (by rw [List.map_append]; rfl)⟩
                  | exact ⟨i + 1, out ++ [i], b1, ⟨by omega, by rw [filter_succ, if_pos (by simp_all [siteB]), ho]⟩, by omega, St.Le.of ⟨rfl, rfl, rfl, (by show some _ = some _; rw [List.map_append]; rfl), rfl, trivial⟩ rfl (by rw [List.map_append]; rfl)⟩
                  | exact ⟨i + 1, out, k, ⟨by omega, by rw [filter_succ, if_neg (by simp_all [siteB]), ho, List.append_nil]⟩, by omega, St.Le.of ⟨rfl, rfl, rfl, rfl, rfl, trivial⟩⟩
              · try simp only [decide_eq_true_eq, decide_eq_false_iff_not, Bool.not_eq_true', Bool.not_eq_false', beq_iff_eq, bne_iff_ne, ne_eq, beq_eq_false_iff_ne, bne_eq_false_iff_eq, Int.not_lt, Int.not_le, Nat.not_lt, Nat.not_le, Int.ofNat_lt, Int.ofNat_le, Bool.not_eq_eq_eq_not, Bool.not_true, Bool.not_false] at hc5
                refine SCode.skip ?_
                show SCode _ _ _ _
                refine SCode.region ?_
                refine SOps.move rfl ?_
                refine SOps.addI rfl rfl (by first | omega | (simp only [lenB]; omega)) (by first | omega | (simp only [lenB]; omega)) ?_
                refine SOps.assign rfl ?_
                refine SOps.nil ?_
                show SCode _ _ _ _
                refine SCode.seq ?_
                have hz1 := encs_take_size (runes s) i hw40
                have hz2 := encs_drop_size (runes s) (i + 1) hw40
                rcases hq3 : followsR a r (encs ((runes s).take i)) with _ | _
                · refine SCode.drawPure mixed_ [(48, DLs a), (49, .agg (encR r)), (50, DRunes (runes s)), (51, .v (.int .i64 (i : Int))), (52, DRunes ((runes s).take i)), (53, .v (.string (encs ((runes s).take i)))), (54, .v (.bool false)), (55, .v (.bool false)), (56, .v (.tuple #[])), (57, .v (.tuple #[])), (58, .v (.tuple #[])), (59, .v (.tuple #[])), (60, .v (.tuple #[])), (61, .v (.tuple #[])), (62, .v (.tuple #[])), (63, .v (.bool false))] [48, 49, 50, 51, 52, 53, 54, 55, 56, 57, 58, 59, 60, 61, 62, 63] [[.inr 0], [.inr 4], [.inr 7], [.inr 9], [.inl 2, .inl 3], [.inl 4], [.inl 0, .inl 1, .inl 5], [.inl 6], [.inl 7], [.inl 7], [.inl 7], [.inl 7], [.inl 7], [.inl 7], [.inl 7], [.inl 7, .inl 14]] [[(0, DLs a)], [(4, .ipin (encR r))], [(7, DRunes (runes s))], [(9, .v (.int .i64 (i : Int)))], [(50, DRunes (runes s)), (51, .v (.int .i64 (i : Int)))], [(52, DRunes ((runes s).take i))], [(48, DLs a), (49, .agg (encR r)), (53, .v (.string (encs ((runes s).take i))))], [(54, .v (.bool false))], [(55, .v (.bool false))], [(55, .v (.bool false))], [(55, .v (.bool false))], [(55, .v (.bool false))], [(55, .v (.bool false))], [(55, .v (.bool false))], [(55, .v (.bool false))], [(55, .v (.bool false)), (62, .v (.tuple #[]))]] rfl (by kernel_rfl) (by kernel_rfl) rfl ?_ ?_
                  · refine OpsOk.cons (fun rest => ?_) ?_
                    · refine SOps.move rfl ?_
                      exact SOps.nil (by first | rfl | simp_all)
                    refine OpsOk.cons (fun rest => ?_) ?_
                    · refine SOps.loadPinA rfl aggB_47_6 (Nat.le_of_ble_eq_true rfl) ?_
                      exact SOps.nil (by first | rfl | simp_all)
                    refine OpsOk.cons (fun rest => ?_) ?_
                    · refine SOps.move rfl ?_
                      exact SOps.nil (by first | rfl | simp_all)
                    refine OpsOk.cons (fun rest => ?_) ?_
                    · refine SOps.move rfl ?_
                      exact SOps.nil (by first | rfl | simp_all)
                    refine OpsOk.cons (fun rest => ?_) ?_
                    · refine SOps.sliceT (n1 := 0) (i) sliceB_84_21_1 rfl rfl (by first | omega | (simp only [lenB]; omega)) (by first | omega | (simp only [lenB]; omega)) ?_
                      exact SOps.nil (by first | rfl | simp_all)
                    refine OpsOk.cons (fun rest => ?_) ?_
                    · refine SOps.convRunesStr rfl sliceB_84_21_1 intB_21_i32 strB_9 (by simp [lenB] <;> (first | omega | (simp only [lenB]; omega))) ?_
                      exact SOps.nil (by first | rfl | simp_all)
                    refine OpsOk.cons (fun rest => ?_) ?_
                    · refine SOps.callP (rFollows hV _ _ _ hr hz1) rfl ?_
                      rintro _ rfl
                      exact SOps.nil (by exact congrArg (fun b => St.put _ _ (.v (.bool b))) hq3)
                    refine OpsOk.cons (fun rest => ?_) ?_
                    · refine SOps.move rfl ?_
                      exact SOps.nil (by first | rfl | simp_all)
                    refine OpsOk.cons (fun rest => ?_) ?_
                    · refine SOps.skip rfl ?_
                      exact SOps.nil (by first | rfl | simp_all)
                    refine OpsOk.cons (fun rest => ?_) ?_
                    · refine SOps.skip rfl ?_
                      exact SOps.nil (by first | rfl | simp_all)
                    refine OpsOk.cons (fun rest => ?_) ?_
                    · refine SOps.skip rfl ?_
                      exact SOps.nil (by first | rfl | simp_all)
                    refine OpsOk.cons (fun rest => ?_) ?_
                    · refine SOps.skip rfl ?_
                      exact SOps.nil (by first | rfl | simp_all)
                    refine OpsOk.cons (fun rest => ?_) ?_
                    · refine SOps.skip rfl ?_
                      exact SOps.nil (by first | rfl | simp_all)
                    refine OpsOk.cons (fun rest => ?_) ?_
                    · refine SOps.skip rfl ?_
                      exact SOps.nil (by first | rfl | simp_all)
                    refine OpsOk.cons (fun rest => ?_) ?_
                    · refine SOps.skip rfl ?_
                      exact SOps.nil (by first | rfl | simp_all)
                    refine OpsOk.cons (fun rest => ?_) ?_
                    · refine SOps.pick rfl rfl ?_
                      exact SOps.nil (by first | rfl | simp_all)
                    exact OpsOk.nil
                  · show SCode _ _ _ _
                    refine SCode.cond rfl (fun h => by cases h) (fun _ => ?_)
                    refine SCode.skip ?_
                    show SCode _ _ _ _
                    refine SCode.region ?_
                    refine SOps.move rfl ?_
                    refine SOps.addI rfl rfl (by first | omega | (simp only [lenB]; omega)) (by first | omega | (simp only [lenB]; omega)) ?_
                    refine SOps.assign rfl ?_
                    refine SOps.nil ?_
                    first
                      | exact ⟨i + 1, out ++ [i], b0, ⟨by omega, by rw [filter_succ, if_pos (by simp_all [siteB]), ho]⟩, by omega, St.Le.of ⟨rfl, rfl, rfl, (by show some _ = some _; rw [List.map_append]; rfl), rfl, trivial⟩ rfl (by rw [List.map_append]; rfl)⟩
                      | exact ⟨i + 1, out ++ [i], b1, ⟨by omega, by rw [filter_succ, if_pos (by simp_all [siteB]), ho]⟩, by omega, St.Le.of ⟨rfl, rfl, rfl, (by show some _ = some _; rw [List.map_append]; rfl), rfl, trivial⟩ rfl (by rw [List.map_append]; rfl)⟩
                      | exact ⟨i + 1, out, k, ⟨by omega, by rw [filter_succ, if_neg (by simp_all [siteB]), ho, List.append_nil]⟩, by omega, St.Le.of ⟨rfl, rfl, rfl, rfl, rfl, trivial⟩⟩
                · refine SCode.drawPure mixed_ [(48, DLs a), (49, .agg (encR r)), (50, DRunes (runes s)), (51, .v (.int .i64 (i : Int))), (52, DRunes ((runes s).take i)), (53, .v (.string (encs ((runes s).take i)))), (54, .v (.bool true)), (55, .v (.bool true)), (56, DLs a), (57, .agg (encR r)), (58, DRunes (runes s)), (59, .v (.int .i64 ((i : Int) + 1))), (60, DRunes ((runes s).drop (i + 1))), (61, .v (.string (encs ((runes s).drop (i + 1))))), (62, .v (.bool (precedesR a r (encs ((runes s).drop (i + 1)))))), (63, .v (.bool (precedesR a r (encs ((runes s).drop (i + 1))))))] [48, 49, 50, 51, 52, 53, 54, 55, 56, 57, 58, 59, 60, 61, 62, 63] [[.inr 0], [.inr 4], [.inr 7], [.inr 9], [.inl 2, .inl 3], [.inl 4], [.inl 0, .inl 1, .inl 5], [.inl 6], [.inl 7, .inr 0], [.inl 7, .inr 4], [.inl 7, .inr 7], [.inl 7, .inr 10], [.inl 7, .inl 10, .inl 11], [.inl 7, .inl 12], [.inl 7, .inl 8, .inl 9, .inl 13], [.inl 7, .inl 14]] [[(0, DLs a)], [(4, .ipin (encR r))], [(7, DRunes (runes s))], [(9, .v (.int .i64 (i : Int)))], [(50, DRunes (runes s)), (51, .v (.int .i64 (i : Int)))], [(52, DRunes ((runes s).take i))], [(48, DLs a), (49, .agg (encR r)), (53, .v (.string (encs ((runes s).take i))))], [(54, .v (.bool true))], [(55, .v (.bool true)), (0, DLs a)], [(55, .v (.bool true)), (4, .ipin (encR r))], [(55, .v (.bool true)), (7, DRunes (runes s))], [(55, .v (.bool true)), (10, .v (.int .i64 ((i : Int) + 1)))], [(55, .v (.bool true)), (58, DRunes (runes s)), (59, .v (.int .i64 ((i : Int) + 1)))], [(55, .v (.bool true)), (60, DRunes ((runes s).drop (i + 1)))], [(55, .v (.bool true)), (56, DLs a), (57, .agg (encR r)), (61, .v (.string (encs ((runes s).drop (i + 1)))))], [(55, .v (.bool true)), (62, .v (.bool (precedesR a r (encs ((runes s).drop (i + 1))))))]] rfl (by kernel_rfl) (by kernel_rfl) rfl ?_ ?_
                  · refine OpsOk.cons (fun rest => ?_) ?_
                    · refine SOps.move rfl ?_
                      exact SOps.nil (by first | rfl | simp_all)
                    refine OpsOk.cons (fun rest => ?_) ?_
                    · refine SOps.loadPinA rfl aggB_47_6 (Nat.le_of_ble_eq_true rfl) ?_
                      exact SOps.nil (by first | rfl | simp_all)
                    refine OpsOk.cons (fun rest => ?_) ?_
                    · refine SOps.move rfl ?_
                      exact SOps.nil (by first | rfl | simp_all)
                    refine OpsOk.cons (fun rest => ?_) ?_
                    · refine SOps.move rfl ?_
                      exact SOps.nil (by first | rfl | simp_all)
                    refine OpsOk.cons (fun rest => ?_) ?_
                    · refine SOps.sliceT (n1 := 0) (i) sliceB_84_21_1 rfl rfl (by first | omega | (simp only [lenB]; omega)) (by first | omega | (simp only [lenB]; omega)) ?_
                      exact SOps.nil (by first | rfl | simp_all)
                    refine OpsOk.cons (fun rest => ?_) ?_
                    · refine SOps.convRunesStr rfl sliceB_84_21_1 intB_21_i32 strB_9 (by simp [lenB] <;> (first | omega | (simp only [lenB]; omega))) ?_
                      exact SOps.nil (by first | rfl | simp_all)
                    refine OpsOk.cons (fun rest => ?_) ?_
                    · refine SOps.callP (rFollows hV _ _ _ hr hz1) rfl ?_
                      rintro _ rfl
                      exact SOps.nil (by exact congrArg (fun b => St.put _ _ (.v (.bool b))) hq3)
                    refine OpsOk.cons (fun rest => ?_) ?_
                    · refine SOps.move rfl ?_
                      exact SOps.nil (by first | rfl | simp_all)
                    refine OpsOk.cons (fun rest => ?_) ?_
                    · refine SOps.move rfl ?_
                      exact SOps.nil (by first | rfl | simp_all)
                    refine OpsOk.cons (fun rest => ?_) ?_
                    · refine SOps.loadPinA rfl aggB_47_6 (Nat.le_of_ble_eq_true rfl) ?_
                      exact SOps.nil (by first | rfl | simp_all)
                    refine OpsOk.cons (fun rest => ?_) ?_
                    · refine SOps.move rfl ?_
                      exact SOps.nil (by first | rfl | simp_all)
                    refine OpsOk.cons (fun rest => ?_) ?_
                    · refine SOps.move rfl ?_
                      exact SOps.nil (by first | rfl | simp_all)
                    refine OpsOk.cons (fun rest => ?_) ?_
                    · refine SOps.sliceD (n1 := 0) (i + 1) sliceB_84_21_1 rfl rfl (by first | omega | (simp only [lenB]; omega)) (by first | omega | (simp only [lenB]; omega)) ?_
                      exact SOps.nil (by first | rfl | simp_all)
                    refine OpsOk.cons (fun rest => ?_) ?_
                    · refine SOps.convRunesStr rfl sliceB_84_21_1 intB_21_i32 strB_9 (by simp [lenB] <;> (first | omega | (simp only [lenB]; omega))) ?_
                      exact SOps.nil (by first | rfl | simp_all)
                    refine OpsOk.cons (fun rest => ?_) ?_
                    · refine SOps.callP (rPrecedes hV _ _ _ hr hz2) rfl ?_
                      rintro _ rfl
                      exact SOps.nil (by first | rfl | simp_all)
                    refine OpsOk.cons (fun rest => ?_) ?_
                    · refine SOps.pick rfl rfl ?_
                      exact SOps.nil (by first | rfl | simp_all)
                    exact OpsOk.nil
                  · show SCode _ _ _ _
                    refine SCode.cond rfl (fun hc6 => ?_) (fun hc6 => ?_)
                    · try simp only [decide_eq_true_eq, decide_eq_false_iff_not, Bool.not_eq_true', Bool.not_eq_false', beq_iff_eq, bne_iff_ne, ne_eq, beq_eq_false_iff_ne, bne_eq_false_iff_eq, Int.not_lt, Int.not_le, Nat.not_lt, Nat.not_le, Int.ofNat_lt, Int.ofNat_le, Bool.not_eq_eq_eq_not, Bool.not_true, Bool.not_false] at hc6
                      refine SCode.region ?_
                      refine SOps.move rfl ?_
                      refine SOps.move rfl ?_
                      refine SOps.litF rfl sliceB_43_3_1 zeroIs_3 rfl ?_
                      refine SOps.appendAcc [] [] sliceB_43_3_1 elemB_3_1_8 rfl rfl rfl SrcD.isl (by simp) (by first | (simp [lenB] <;> (first | omega | (simp only [lenB]; omega))) | (simp only [lenB]; (first | omega | (simp only [lenB]; omega)))) (by first | (simp <;> (first | omega | (simp only [lenB]; omega))) | (first | omega | (simp only [lenB]; omega))) (fun b0 => ?_)
                      refine SOps.assign rfl ?_
                      refine SOps.nil ?_
                      show SCode _ _ _ _
                      refine SCode.region ?_
                      refine SOps.move rfl ?_
                      refine SOps.addI rfl rfl (by first | omega | (simp only [lenB]; omega)) (by first | omega | (simp only [lenB]; omega)) ?_
                      refine SOps.assign rfl ?_
                      refine SOps.nil ?_
                      first
                        | exact ⟨i + 1, out ++ [i], b0, ⟨by omega, by rw [filter_succ, if_pos (by simp_all [siteB]), ho]⟩, by omega, St.Le.of ⟨rfl, rfl, rfl, (by show some _ = some _; rw [List.map_append]; rfl), rfl, trivial⟩ rfl (by rw [List.map_append]; rfl)⟩
                        | exact ⟨i + 1, out ++ [i], b1, ⟨by omega, by rw [filter_succ, if_pos (by simp_all [siteB]), ho]⟩, by omega, St.Le.of ⟨rfl, rfl, rfl, (by show some _ = some _; rw [List.map_append]; rfl), rfl, trivial⟩ rfl (by rw [List.map_append]; rfl)⟩
                        | exact ⟨i + 1, out, k, ⟨by omega, by rw [filter_succ, if_neg (by simp_all [siteB]), ho, List.append_nil]⟩, by omega, St.Le.of ⟨rfl, rfl, rfl, rfl, rfl, trivial⟩⟩
                    · try simp only [decide_eq_true_eq, decide_eq_false_iff_not, Bool.not_eq_true', Bool.not_eq_false', beq_iff_eq, bne_iff_ne, ne_eq, beq_eq_false_iff_ne, bne_eq_false_iff_eq, Int.not_lt, Int.not_le, Nat.not_lt, Nat.not_le, Int.ofNat_lt, Int.ofNat_le, Bool.not_eq_eq_eq_not, Bool.not_true, Bool.not_false] at hc6
                      refine SCode.skip ?_
                      show SCode _ _ _ _
                      refine SCode.region ?_
                      refine SOps.move rfl ?_
                      refine SOps.addI rfl rfl (by first | omega | (simp only [lenB]; omega)) (by first | omega | (simp only [lenB]; omega)) ?_
                      refine SOps.assign rfl ?_
                      refine SOps.nil ?_
                      first
                        | exact ⟨i + 1, out ++ [i], b0, ⟨by omega, by rw [filter_succ, if_pos (by simp_all [siteB]), ho]⟩, by omega, St.Le.of ⟨rfl, rfl, rfl, (by show some _ = some _; rw [List.map_append]; rfl), rfl, trivial⟩ rfl (by rw [List.map_append]; rfl)⟩
                        | exact ⟨i + 1, out ++ [i], b1, ⟨by omega, by rw [filter_succ, if_pos (by simp_all [siteB]), ho]⟩, by omega, St.Le.of ⟨rfl, rfl, rfl, (by show some _ = some _; rw [List.map_append]; rfl), rfl, trivial⟩ rfl (by rw [List.map_append]; rfl)⟩
                        | exact ⟨i + 1, out, k, ⟨by omega, by rw [filter_succ, if_neg (by simp_all [siteB]), ho, List.append_nil]⟩, by omega, St.Le.of ⟨rfl, rfl, rfl, rfl, rfl, trivial⟩⟩
        · try simp only [decide_eq_true_eq, decide_eq_false_iff_not, Bool.not_eq_true', Bool.not_eq_false', beq_iff_eq, bne_iff_ne, ne_eq, beq_eq_false_iff_ne, bne_eq_false_iff_eq, Int.not_lt, Int.not_le, Nat.not_lt, Nat.not_le, Int.ofNat_lt, Int.ofNat_le, Bool.not_eq_eq_eq_not, Bool.not_true, Bool.not_false] at hc4
          refine SCode.skip ?_
          show SCode _ _ _ _
          refine SCode.seq ?_
          have hz1 := encs_take_size (runes s) i hw40
          have hz2 := encs_drop_size (runes s) (i) hw40
          rcases hq3 : followsR a r (encs ((runes s).take i)) with _ | _
          · refine SCode.drawPure mixed_ [(48, DLs a), (49, .agg (encR r)), (50, DRunes (runes s)), (51, .v (.int .i64 (i : Int))), (52, DRunes ((runes s).take i)), (53, .v (.string (encs ((runes s).take i)))), (54, .v (.bool false)), (55, .v (.bool false)), (56, .v (.tuple #[])), (57, .v (.tuple #[])), (58, .v (.tuple #[])), (59, .v (.tuple #[])), (60, .v (.tuple #[])), (61, .v (.tuple #[])), (62, .v (.tuple #[])), (63, .v (.bool false))] [48, 49, 50, 51, 52, 53, 54, 55, 56, 57, 58, 59, 60, 61, 62, 63] [[.inr 0], [.inr 4], [.inr 7], [.inr 9], [.inl 2, .inl 3], [.inl 4], [.inl 0, .inl 1, .inl 5], [.inl 6], [.inl 7], [.inl 7], [.inl 7], [.inl 7], [.inl 7], [.inl 7], [.inl 7], [.inl 7, .inl 14]] [[(0, DLs a)], [(4, .ipin (encR r))], [(7, DRunes (runes s))], [(9, .v (.int .i64 (i : Int)))], [(50, DRunes (runes s)), (51, .v (.int .i64 (i : Int)))], [(52, DRunes ((runes s).take i))], [(48, DLs a), (49, .agg (encR r)), (53, .v (.string (encs ((runes s).take i))))], [(54, .v (.bool false))], [(55, .v (.bool false))], [(55, .v (.bool false))], [(55, .v (.bool false))], [(55, .v (.bool false))], [(55, .v (.bool false))], [(55, .v (.bool false))], [(55, .v (.bool false))], [(55, .v (.bool false)), (62, .v (.tuple #[]))]] rfl (by kernel_rfl) (by kernel_rfl) rfl ?_ ?_
            · refine OpsOk.cons (fun rest => ?_) ?_
              · refine SOps.move rfl ?_
                exact SOps.nil (by first | rfl | simp_all)
              refine OpsOk.cons (fun rest => ?_) ?_
              · refine SOps.loadPinA rfl aggB_47_6 (Nat.le_of_ble_eq_true rfl) ?_
                exact SOps.nil (by first | rfl | simp_all)
              refine OpsOk.cons (fun rest => ?_) ?_
              · refine SOps.move rfl ?_
                exact SOps.nil (by first | rfl | simp_all)
              refine OpsOk.cons (fun rest => ?_) ?_
              · refine SOps.move rfl ?_
                exact SOps.nil (by first | rfl | simp_all)
              refine OpsOk.cons (fun rest => ?_) ?_
              · refine SOps.sliceT (n1 := 0) (i) sliceB_84_21_1 rfl rfl (by first | omega | (simp only [lenB]; omega)) (by first | omega | (simp only [lenB]; omega)) ?_
                exact SOps.nil (by first | rfl | simp_all)
              refine OpsOk.cons (fun rest => ?_) ?_
              · refine SOps.convRunesStr rfl sliceB_84_21_1 intB_21_i32 strB_9 (by simp [lenB] <;> (first | omega | (simp only [lenB]; omega))) ?_
                exact SOps.nil (by first | rfl | simp_all)
              refine OpsOk.cons (fun rest => ?_) ?_
              · refine SOps.callP (rFollows hV _ _ _ hr hz1) rfl ?_
                rintro _ rfl
                exact SOps.nil (by exact congrArg (fun b => St.put _ _ (.v (.bool b))) hq3)
              refine OpsOk.cons (fun rest => ?_) ?_
              · refine SOps.move rfl ?_
                exact SOps.nil (by first | rfl | simp_all)
              refine OpsOk.cons (fun rest => ?_) ?_
              · refine SOps.skip rfl ?_
                exact SOps.nil (by first | rfl | simp_all)
              refine OpsOk.cons (fun rest => ?_) ?_
              · refine SOps.skip rfl ?_
                exact SOps.nil (by first | rfl | simp_all)
              refine OpsOk.cons (fun rest => ?_) ?_
              · refine SOps.skip rfl ?_
                exact SOps.nil (by first | rfl | simp_all)
              refine OpsOk.cons (fun rest => ?_) ?_
              · refine SOps.skip rfl ?_
                exact SOps.nil (by first | rfl | simp_all)
              refine OpsOk.cons (fun rest => ?_) ?_
              · refine SOps.skip rfl ?_
                exact SOps.nil (by first | rfl | simp_all)
              refine OpsOk.cons (fun rest => ?_) ?_
              · refine SOps.skip rfl ?_
                exact SOps.nil (by first | rfl | simp_all)
              refine OpsOk.cons (fun rest => ?_) ?_
              · refine SOps.skip rfl ?_
                exact SOps.nil (by first | rfl | simp_all)
              refine OpsOk.cons (fun rest => ?_) ?_
              · refine SOps.pick rfl rfl ?_
                exact SOps.nil (by first | rfl | simp_all)
              exact OpsOk.nil
            · show SCode _ _ _ _
              refine SCode.cond rfl (fun h => by cases h) (fun _ => ?_)
              refine SCode.skip ?_
              show SCode _ _ _ _
              refine SCode.region ?_
              refine SOps.move rfl ?_
              refine SOps.addI rfl rfl (by first | omega | (simp only [lenB]; omega)) (by first | omega | (simp only [lenB]; omega)) ?_
              refine SOps.assign rfl ?_
              refine SOps.nil ?_
              first
                | exact ⟨i + 1, out ++ [i], b0, ⟨by omega, by rw [filter_succ, if_pos (by simp_all [siteB]), ho]⟩, by omega, St.Le.of ⟨rfl, rfl, rfl, (by show some _ = some _; rw [List.map_append]; rfl), rfl, trivial⟩ rfl (by rw [List.map_append]; rfl)⟩
                | exact ⟨i + 1, out ++ [i], b1, ⟨by omega, by rw [filter_succ, if_pos (by simp_all [siteB]), ho]⟩, by omega, St.Le.of ⟨rfl, rfl, rfl, (by show some _ = some _; rw [List.map_append]; rfl), rfl, trivial⟩ rfl (by rw [List.map_append]; rfl)⟩
                | exact ⟨i + 1, out, k, ⟨by omega, by rw [filter_succ, if_neg (by simp_all [siteB]), ho, List.append_nil]⟩, by omega, St.Le.of ⟨rfl, rfl, rfl, rfl, rfl, trivial⟩⟩
          · refine SCode.drawPure mixed_ [(48, DLs a), (49, .agg (encR r)), (50, DRunes (runes s)), (51, .v (.int .i64 (i : Int))), (52, DRunes ((runes s).take i)), (53, .v (.string (encs ((runes s).take i)))), (54, .v (.bool true)), (55, .v (.bool true)), (56, DLs a), (57, .agg (encR r)), (58, DRunes (runes s)), (59, .v (.int .i64 (i : Int))), (60, DRunes ((runes s).drop (i))), (61, .v (.string (encs ((runes s).drop (i))))), (62, .v (.bool (precedesR a r (encs ((runes s).drop (i)))))), (63, .v (.bool (precedesR a r (encs ((runes s).drop (i))))))] [48, 49, 50, 51, 52, 53, 54, 55, 56, 57, 58, 59, 60, 61, 62, 63] [[.inr 0], [.inr 4], [.inr 7], [.inr 9], [.inl 2, .inl 3], [.inl 4], [.inl 0, .inl 1, .inl 5], [.inl 6], [.inl 7, .inr 0], [.inl 7, .inr 4], [.inl 7, .inr 7], [.inl 7, .inr 10], [.inl 7, .inl 10, .inl 11], [.inl 7, .inl 12], [.inl 7, .inl 8, .inl 9, .inl 13], [.inl 7, .inl 14]] [[(0, DLs a)], [(4, .ipin (encR r))], [(7, DRunes (runes s))], [(9, .v (.int .i64 (i : Int)))], [(50, DRunes (runes s)), (51, .v (.int .i64 (i : Int)))], [(52, DRunes ((runes s).take i))], [(48, DLs a), (49, .agg (encR r)), (53, .v (.string (encs ((runes s).take i))))], [(54, .v (.bool true))], [(55, .v (.bool true)), (0, DLs a)], [(55, .v (.bool true)), (4, .ipin (encR r))], [(55, .v (.bool true)), (7, DRunes (runes s))], [(55, .v (.bool true)), (10, .v (.int .i64 (i : Int)))], [(55, .v (.bool true)), (58, DRunes (runes s)), (59, .v (.int .i64 (i : Int)))], [(55, .v (.bool true)), (60, DRunes ((runes s).drop (i)))], [(55, .v (.bool true)), (56, DLs a), (57, .agg (encR r)), (61, .v (.string (encs ((runes s).drop (i)))))], [(55, .v (.bool true)), (62, .v (.bool (precedesR a r (encs ((runes s).drop (i))))))]] rfl (by kernel_rfl) (by kernel_rfl) rfl ?_ ?_
            · refine OpsOk.cons (fun rest => ?_) ?_
              · refine SOps.move rfl ?_
                exact SOps.nil (by first | rfl | simp_all)
              refine OpsOk.cons (fun rest => ?_) ?_
              · refine SOps.loadPinA rfl aggB_47_6 (Nat.le_of_ble_eq_true rfl) ?_
                exact SOps.nil (by first | rfl | simp_all)
              refine OpsOk.cons (fun rest => ?_) ?_
              · refine SOps.move rfl ?_
                exact SOps.nil (by first | rfl | simp_all)
              refine OpsOk.cons (fun rest => ?_) ?_
              · refine SOps.move rfl ?_
                exact SOps.nil (by first | rfl | simp_all)
              refine OpsOk.cons (fun rest => ?_) ?_
              · refine SOps.sliceT (n1 := 0) (i) sliceB_84_21_1 rfl rfl (by first | omega | (simp only [lenB]; omega)) (by first | omega | (simp only [lenB]; omega)) ?_
                exact SOps.nil (by first | rfl | simp_all)
              refine OpsOk.cons (fun rest => ?_) ?_
              · refine SOps.convRunesStr rfl sliceB_84_21_1 intB_21_i32 strB_9 (by simp [lenB] <;> (first | omega | (simp only [lenB]; omega))) ?_
                exact SOps.nil (by first | rfl | simp_all)
              refine OpsOk.cons (fun rest => ?_) ?_
              · refine SOps.callP (rFollows hV _ _ _ hr hz1) rfl ?_
                rintro _ rfl
                exact SOps.nil (by exact congrArg (fun b => St.put _ _ (.v (.bool b))) hq3)
              refine OpsOk.cons (fun rest => ?_) ?_
              · refine SOps.move rfl ?_
                exact SOps.nil (by first | rfl | simp_all)
              refine OpsOk.cons (fun rest => ?_) ?_
              · refine SOps.move rfl ?_
                exact SOps.nil (by first | rfl | simp_all)
              refine OpsOk.cons (fun rest => ?_) ?_
              · refine SOps.loadPinA rfl aggB_47_6 (Nat.le_of_ble_eq_true rfl) ?_
                exact SOps.nil (by first | rfl | simp_all)
              refine OpsOk.cons (fun rest => ?_) ?_
              · refine SOps.move rfl ?_
                exact SOps.nil (by first | rfl | simp_all)
              refine OpsOk.cons (fun rest => ?_) ?_
              · refine SOps.move rfl ?_
                exact SOps.nil (by first | rfl | simp_all)
              refine OpsOk.cons (fun rest => ?_) ?_
              · refine SOps.sliceD (n1 := 0) (i) sliceB_84_21_1 rfl rfl (by first | omega | (simp only [lenB]; omega)) (by first | omega | (simp only [lenB]; omega)) ?_
                exact SOps.nil (by first | rfl | simp_all)
              refine OpsOk.cons (fun rest => ?_) ?_
              · refine SOps.convRunesStr rfl sliceB_84_21_1 intB_21_i32 strB_9 (by simp [lenB] <;> (first | omega | (simp only [lenB]; omega))) ?_
                exact SOps.nil (by first | rfl | simp_all)
              refine OpsOk.cons (fun rest => ?_) ?_
              · refine SOps.callP (rPrecedes hV _ _ _ hr hz2) rfl ?_
                rintro _ rfl
                exact SOps.nil (by first | rfl | simp_all)
              refine OpsOk.cons (fun rest => ?_) ?_
              · refine SOps.pick rfl rfl ?_
                exact SOps.nil (by first | rfl | simp_all)
              exact OpsOk.nil
            · show SCode _ _ _ _
              refine SCode.cond rfl (fun hc7 => ?_) (fun hc7 => ?_)
              · try simp only [decide_eq_true_eq, decide_eq_false_iff_not, Bool.not_eq_true', Bool.not_eq_false', beq_iff_eq, bne_iff_ne, ne_eq, beq_eq_false_iff_ne, bne_eq_false_iff_eq, Int.not_lt, Int.not_le, Nat.not_lt, Nat.not_le, Int.ofNat_lt, Int.ofNat_le, Bool.not_eq_eq_eq_not, Bool.not_true, Bool.not_false] at hc7
                refine SCode.region ?_
                refine SOps.move rfl ?_
                refine SOps.move rfl ?_
                refine SOps.litF rfl sliceB_43_3_1 zeroIs_3 rfl ?_
                refine SOps.appendAcc [] [] sliceB_43_3_1 elemB_3_1_8 rfl rfl rfl SrcD.isl (by simp) (by first | (simp [lenB] <;> (first | omega | (simp only [lenB]; omega))) | (simp only [lenB]; (first | omega | (simp only [lenB]; omega)))) (by first | (simp <;> (first | omega | (simp only [lenB]; omega))) | (first | omega | (simp only [lenB]; omega))) (fun b1 => ?_)
                refine SOps.assign rfl ?_
                refine SOps.nil ?_
                show SCode _ _ _ _
                refine SCode.region ?_
                refine SOps.move rfl ?_
                refine SOps.addI rfl rfl (by first | omega | (simp only [lenB]; omega)) (by first | omega | (simp only [lenB]; omega)) ?_
                refine SOps.assign rfl ?_
                refine SOps.nil ?_
                first
                  | exact ⟨i + 1, out ++ [i], b0, ⟨by omega, by rw [filter_succ, if_pos (by simp_all [siteB]), ho]⟩, by omega, St.Le.of ⟨rfl, rfl, rfl, (by show some _ = some _; rw [List.map_append]; rfl), rfl, trivial⟩ rfl (by rw [List.map_append]; rfl)⟩
                  | exact ⟨i + 1, out ++ [i], b1, ⟨by omega, by rw [filter_succ, if_pos (by simp_all [siteB]), ho]⟩, by omega, St.Le.of ⟨rfl, rfl, rfl, (by show some _ = some _; rw [List.map_append]; rfl), rfl, trivial⟩ rfl (by rw [List.map_append]; rfl)⟩
                  | exact ⟨i + 1, out, k, ⟨by omega, by rw [filter_succ, if_neg (by simp_all [siteB]), ho, List.append_nil]⟩, by omega, St.Le.of ⟨rfl, rfl, rfl, rfl, rfl, trivial⟩⟩
              · try simp only [decide_eq_true_eq, decide_eq_false_iff_not, Bool.not_eq_true', Bool.not_eq_false', beq_iff_eq, bne_iff_ne, ne_eq, beq_eq_false_iff_ne, bne_eq_false_iff_eq, Int.not_lt, Int.not_le, Nat.not_lt, Nat.not_le, Int.ofNat_lt, Int.ofNat_le, Bool.not_eq_eq_eq_not, Bool.not_true, Bool.not_false] at hc7
                refine SCode.skip ?_
                show SCode _ _ _ _
                refine SCode.region ?_
                refine SOps.move rfl ?_
                refine SOps.addI rfl rfl (by first | omega | (simp only [lenB]; omega)) (by first | omega | (simp only [lenB]; omega)) ?_
                refine SOps.assign rfl ?_
                refine SOps.nil ?_
                first
                  | exact ⟨i + 1, out ++ [i], b0, ⟨by omega, by rw [filter_succ, if_pos (by simp_all [siteB]), ho]⟩, by omega, St.Le.of ⟨rfl, rfl, rfl, (by show some _ = some _; rw [List.map_append]; rfl), rfl, trivial⟩ rfl (by rw [List.map_append]; rfl)⟩
                  | exact ⟨i + 1, out ++ [i], b1, ⟨by omega, by rw [filter_succ, if_pos (by simp_all [siteB]), ho]⟩, by omega, St.Le.of ⟨rfl, rfl, rfl, (by show some _ = some _; rw [List.map_append]; rfl), rfl, trivial⟩ rfl (by rw [List.map_append]; rfl)⟩
                  | exact ⟨i + 1, out, k, ⟨by omega, by rw [filter_succ, if_neg (by simp_all [siteB]), ho, List.append_nil]⟩, by omega, St.Le.of ⟨rfl, rfl, rfl, rfl, rfl, trivial⟩⟩
      · try simp only [decide_eq_true_eq, decide_eq_false_iff_not, Bool.not_eq_true', Bool.not_eq_false', beq_iff_eq, bne_iff_ne, ne_eq, beq_eq_false_iff_ne, bne_eq_false_iff_eq, Int.not_lt, Int.not_le, Nat.not_lt, Nat.not_le, Int.ofNat_lt, Int.ofNat_le, Bool.not_eq_eq_eq_not, Bool.not_true, Bool.not_false] at hc3
        refine SCode.exit ?_
        show SCode _ _ _ _
        refine SCode.seqR ?_
        refine SOps.freezeAcc (t := 8) [] [] rfl rfl rfl ?_
        obtain rfl : i = (runes s).length + 1 := by omega
        refine SOps.move rfl ?_
        refine SOps.assign rfl ?_
        refine SOps.nil ?_
        refine SCode.ret ?_
        exact ⟨_, Res.one (.tmp rfl), by first | (rw [if_neg (by simp_all [okR])]; done) | (rw [if_pos hok, ← ho]; rfl), rfl⟩
def sitesR (a : List Letter) (r : Rule) (s : ByteArray) : List Nat := if okR a r s then sitesF (siteB a r (runes s)) (runes s) else []
theorem rSites (hV : VS E) (a : List Letter) (r : Rule) (s : ByteArray) (hr : SmR r) (hs : s.size ≤ 1048576) : GCall Tryd.prog E 97 [DLs a, .agg (encR r), .v (.string s)] [] (fun d H => d = DNats (sitesR a r s) ∧ H = []) :=
  (rSites0 hV a r s hr hs).nilI.mono (fun d H h => ⟨h.1.trans (by unfold sitesR; split <;> rfl), h.2⟩)
def sitesQ (a : List Letter) (r : Rule) (s : ByteArray) : List Nat := if okR a r s then sitesF (siteQ a r (runes s)) (runes s) else []
end Go.GH
namespace Go.GH
open Go Go.Proofs
variable {E : Env}
def resF (fr : Int) (tl : List Int) : List Int → Nat → List Nat → List Int
  | [], i, ss => if ss.head? = some i then tl else []
  | c :: w, i, ss => (if ss.head? = some i then tl else []) ++ ((if ss.head? = some i ∧ fr ≠ 0 then [] else [c]) ++ resF fr tl w (i + 1) (if ss.head? = some i then ss.tail else ss))
theorem resF_nil (fr : Int) (tl : List Int) (i : Nat) (ss : List Nat) : resF fr tl [] i ss = if ss.head? = some i then tl else [] := rfl
theorem resF_cons (fr : Int) (tl : List Int) (c : Int) (w : List Int) (i : Nat) (ss : List Nat) : resF fr tl (c :: w) i ss = (if ss.head? = some i then tl else []) ++ ((if ss.head? = some i ∧ fr ≠ 0 then [] else [c]) ++ resF fr tl w (i + 1) (if ss.head? = some i then ss.tail else ss)) := rfl
theorem resF_len (fr : Int) (tl : List Int) : ∀ (w : List Int) (i : Nat) (ss : List Nat), (resF fr tl w i ss).length ≤ (w.length + 1) * (tl.length + 1)
  | [], i, ss => by rw [resF_nil]; split <;> simp
  | c :: w, i, ss => by
    have := resF_len fr tl w (i + 1) (if ss.head? = some i then ss.tail else ss)
    rw [resF_cons, List.length_append, List.length_append, List.length_cons, Nat.add_mul (w.length + 1) 1]
    have h1 : (if ss.head? = some i then tl else []).length ≤ tl.length := by split <;> simp
    have h2 : (if ss.head? = some i ∧ fr ≠ 0 then [] else [c]).length ≤ 1 := by split <;> simp
    omega
theorem rResult (r : Rule) (l : List Nat) (s : ByteArray) (h4 : (runes r.«to»).length ≤ 4) (h40 : (runes s).length ≤ 40) : GCall Tryd.prog E 96 [.agg (encR r), DNats l, .v (.string s)] [] (fun d H => d = .v (.string (encs (resF r.fr (runes r.«to») (runes s) 0 l))) ∧ H = []) := by
  refine GCall.body (C := ⟨Tryd.prog, E, true⟩) Tryd.func96 rfl (fun _ => rfl) (by kernel_rfl) rfl ?_
  refine SCode.seqR ?_
  refine SOps.boxAM rfl rfl ?_
  refine SOps.assign rfl ?_
  refine SOps.nil ?_
  refine SCode.seqR ?_
  refine SOps.move rfl ?_
  refine SOps.runesF rfl rfl strB_9 sliceB_84_21_1 intB_21_i32 ?_
  refine SOps.assign rfl ?_
  refine SOps.nil ?_
  refine SCode.seqR ?_
  refine SOps.fieldPin rfl fieldB_47_1_1 ?_
  refine SOps.loadPin rfl flatB_9 ?_
  refine SOps.runesF rfl rfl strB_9 sliceB_84_21_1 intB_21_i32 ?_
  refine SOps.assign rfl ?_
  refine SOps.nil ?_
  refine SCode.seqR ?_
  refine SOps.assign rfl ?_
  refine SOps.nil ?_
  refine SCode.seq ?_
  refine SCode.seqR ?_
  refine SOps.assign rfl ?_
  refine SOps.nil ?_
  refine SCode.block ?_
  refine SCode.loop4 (fun (i : Nat) (ss : List Nat) (out : List Int) (k : Nat) => (⟨61, [(1, DNats ss), (3, .ipin (encR r)), (7, DRunes (runes s)), (8, DRunes (runes r.«to»)), (9, accD 1 k (out.map rcell)), (10, .v (.int .i64 (i : Int)))], accH 21 1 k (out.map rcell) ++ []⟩ : St)) (fun (i : Nat) (ss : List Nat) (out : List Int) (k : Nat) => out.length ≤ 5 * i ∧ ((i ≤ (runes s).length ∧ out ++ resF r.fr (runes r.«to») ((runes s).drop i) i ss = resF r.fr (runes r.«to») (runes s) 0 l) ∨ (i = (runes s).length + 1 ∧ out = resF r.fr (runes r.«to») (runes s) 0 l))) (fun (i : Nat) (ss : List Nat) (out : List Int) (k : Nat) => (runes s).length + 1 - i) (0) (l) ([]) (0) (by exact ⟨Nat.le_refl _, .inl ⟨Nat.zero_le _, rfl⟩⟩) (St.Le.of ⟨(by first | rfl | (show some _ = some _; simp)), (by first | rfl | (show some _ = some _; simp)), (by first | rfl | (show some _ = some _; simp)), (by first | rfl | (show some _ = some _; simp)), (by first | rfl | (show some _ = some _; simp)), (by first | rfl | (show some _ = some _; simp)), trivial⟩ rfl (by first | rfl | (simp))) ?_
  rintro i ss out k ⟨hol, hf⟩
  refine SCode.seq ?_
  refine SCode.seqR ?_
  refine SOps.move rfl ?_
  refine SOps.move rfl ?_
  refine SOps.lenM rfl sliceB_84_21_1 ?_
  refine SOps.bin rfl rfl rfl ?_
  refine SOps.nil ?_
  refine SCode.cond rfl (fun hc1 => ?_) (fun hc1 => ?_)
  · try simp only [decide_eq_true_eq, decide_eq_false_iff_not, Bool.not_eq_true', Bool.not_eq_false', beq_iff_eq, bne_iff_ne, ne_eq, beq_eq_false_iff_ne, bne_eq_false_iff_eq, Int.not_lt, Int.not_le, Nat.not_lt, Nat.not_le, Int.ofNat_lt, Int.ofNat_le, Bool.not_eq_eq_eq_not, Bool.not_true, Bool.not_false] at hc1
    refine SCode.skip ?_
    show SCode _ _ _ _
    refine SCode.seq ?_
    refine SCode.block ?_
    refine SCode.seqR ?_
    have hf2 := (hf.resolve_right (by omega)).2
    have hdn : i = (runes s).length → (runes s).drop i = [] := fun h => List.drop_eq_nil_of_le (by omega)
    have hdc : ∀ h : i < (runes s).length, (runes s).drop i = (runes s)[i] :: (runes s).drop (i + 1) := fun h => List.drop_eq_getElem_cons h
    refine SOps.move rfl ?_
    refine SOps.lenM rfl sliceB_43_3_1 ?_
    refine SOps.bin rfl rfl rfl ?_
    refine SOps.move rfl ?_
    refine SOps.caseB 26 rfl (fun hb2 => ?_) (fun hb2 => ?_)
    · try simp only [decide_eq_true_eq, decide_eq_false_iff_not, Bool.not_eq_true', Bool.not_eq_false', beq_iff_eq, bne_iff_ne, ne_eq, beq_eq_false_iff_ne, bne_eq_false_iff_eq, Int.not_lt, Int.not_le, Nat.not_lt, Nat.not_le, Int.ofNat_lt, Int.ofNat_le, Bool.not_eq_eq_eq_not, Bool.not_true, Bool.not_false] at hb2
      obtain ⟨s0, ss0, rfl⟩ : ∃ s0 ss0, ss = s0 :: ss0 := by cases ss with | nil => exact absurd hb2 (by simp) | cons x y => exact ⟨x, y, rfl⟩
      refine SOps.move rfl ?_
      refine SOps.indexM (0) rfl rfl sliceB_43_3_1 (by first | omega | (simp only [lenB]; omega)) (by first | omega | (simp only [lenB]; omega)) ?_
      refine SOps.loadPin rfl flatB_3 ?_
      refine SOps.move rfl ?_
      refine SOps.bin rfl rfl rfl ?_
      refine SOps.pick rfl rfl ?_
      refine SOps.assign rfl ?_
      refine SOps.nil ?_
      refine SCode.seq ?_
      refine SCode.seqR ?_
      refine SOps.move rfl ?_
      refine SOps.nil ?_
      refine SCode.cond rfl (fun hc3 => ?_) (fun hc3 => ?_)
      · try simp only [decide_eq_true_eq, decide_eq_false_iff_not, Bool.not_eq_true', Bool.not_eq_false', beq_iff_eq, bne_iff_ne, ne_eq, beq_eq_false_iff_ne, bne_eq_false_iff_eq, Int.not_lt, Int.not_le, Nat.not_lt, Nat.not_le, Int.ofNat_lt, Int.ofNat_le, Bool.not_eq_eq_eq_not, Bool.not_true, Bool.not_false] at hc3
        have hs0 : s0 = i := Int.ofNat.inj hc3
        refine SCode.seqR ?_
        refine SOps.move rfl ?_
        refine SOps.sliceD (n1 := 0) (1) sliceB_43_3_1 rfl rfl (by first | omega | (simp only [lenB]; omega)) (by first | omega | (simp only [lenB]; omega)) ?_
        refine SOps.assign rfl ?_
        refine SOps.nil ?_
        refine SCode.region ?_
        refine SOps.move rfl ?_
        refine SOps.move rfl ?_
        refine SOps.appendAccE [] [] sliceB_84_21_1 elemB_21_1_4 rfl rfl rfl SrcD.isl (by simp [lenB]; omega) (by simp; omega) (fun kA => ?_)
        refine SOps.assign rfl ?_
        refine SOps.nil ?_
        show SCode _ _ _ _
        refine SCode.seqR ?_
        refine SOps.move rfl ?_
        refine SOps.move rfl ?_
        refine SOps.lenM rfl sliceB_84_21_1 ?_
        refine SOps.bin rfl rfl rfl ?_
        refine SOps.move rfl ?_
        refine SOps.caseB 43 rfl (fun hb4 => ?_) (fun hb4 => ?_)
        · try simp only [decide_eq_true_eq, decide_eq_false_iff_not, Bool.not_eq_true', Bool.not_eq_false', beq_iff_eq, bne_iff_ne, ne_eq, beq_eq_false_iff_ne, bne_eq_false_iff_eq, Int.not_lt, Int.not_le, Nat.not_lt, Nat.not_le, Int.ofNat_lt, Int.ofNat_le, Bool.not_eq_eq_eq_not, Bool.not_true, Bool.not_false] at hb4
          refine SOps.move rfl ?_
          refine SOps.un rfl rfl ?_
          refine SOps.move rfl ?_
          refine SOps.caseB 46 rfl (fun hb5 => ?_) (fun hb5 => ?_)
          · try simp only [decide_eq_true_eq, decide_eq_false_iff_not, Bool.not_eq_true', Bool.not_eq_false', beq_iff_eq, bne_iff_ne, ne_eq, beq_eq_false_iff_ne, bne_eq_false_iff_eq, Int.not_lt, Int.not_le, Nat.not_lt, Nat.not_le, Int.ofNat_lt, Int.ofNat_le, Bool.not_eq_eq_eq_not, Bool.not_true, Bool.not_false] at hb5
            refine SOps.skip rfl ?_
            refine SOps.skip rfl ?_
            refine SOps.skip rfl ?_
            refine SOps.pick rfl rfl ?_
            refine SOps.pick rfl rfl ?_
            refine SOps.nil ?_
            refine SCode.cond rfl (fun _ => ?_) (fun h => by cases h)
            refine SCode.region ?_
            refine SOps.move rfl ?_
            refine SOps.move rfl ?_
            refine SOps.move rfl ?_
            refine SOps.indexM (i) rfl rfl sliceB_84_21_1 (by first | omega | (simp only [lenB]; omega)) (by first | omega | (simp only [lenB]; omega)) ?_
            refine SOps.loadPin rfl flatB_21 ?_
            refine SOps.litF rfl sliceB_84_21_1 zeroIs_21 rfl ?_
            refine SOps.appendAcc [] [] sliceB_84_21_1 elemB_21_1_4 rfl rfl rfl SrcD.isl (by simp) (by simp [lenB]; omega) (by simp; omega) (fun kB => ?_)
            refine SOps.assign rfl ?_
            refine SOps.nil ?_
            show SCode _ _ _ _
            refine SCode.region ?_
            refine SOps.move rfl ?_
            refine SOps.addI rfl rfl (by first | omega | (simp only [lenB]; omega)) (by first | omega | (simp only [lenB]; omega)) ?_
            refine SOps.assign rfl ?_
            refine SOps.nil ?_
            first
              | (exfalso; simp only [List.getElem_cons_zero] at *; omega)
              | exact ⟨i + 1, ss0, out ++ runes r.«to» ++ [(runes s)[i]], ((fun _ : Nat => kB) kA), ⟨by first | omega | (simp; omega), by cases Nat.lt_or_ge i (runes s).length with | inl hlt => (first | (exfalso; omega) | (left; refine ⟨by omega, ?_⟩; rw [← hf2, hdc hlt, resF_cons]; clear hf2 hf hdc hdn; simp_all; done)) | inr hge => (first | (exfalso; omega) | (right; refine ⟨by omega, ?_⟩; rw [← hf2, hdn (by omega), resF_nil]; clear hf2 hf hdc hdn; simp_all; done))⟩, by omega, St.Le.of ⟨rfl, rfl, rfl, rfl, (by show some _ = some _; first | (simp only [List.map_append, List.append_assoc]; done) | (simp only [List.map_append, List.append_assoc]; rfl)), rfl, trivial⟩ rfl (by first | (simp only [List.map_append, List.append_assoc]; done) | (simp only [List.map_append, List.append_assoc]; rfl))⟩
              | exact ⟨i + 1, (s0 :: ss0), out ++ runes r.«to» ++ [(runes s)[i]], ((fun _ : Nat => kB) kA), ⟨by first | omega | (simp; omega), by cases Nat.lt_or_ge i (runes s).length with | inl hlt => (first | (exfalso; omega) | (left; refine ⟨by omega, ?_⟩; rw [← hf2, hdc hlt, resF_cons]; clear hf2 hf hdc hdn; simp_all; done)) | inr hge => (first | (exfalso; omega) | (right; refine ⟨by omega, ?_⟩; rw [← hf2, hdn (by omega), resF_nil]; clear hf2 hf hdc hdn; simp_all; done))⟩, by omega, St.Le.of ⟨rfl, rfl, rfl, rfl, (by show some _ = some _; first | (simp only [List.map_append, List.append_assoc]; done) | (simp only [List.map_append, List.append_assoc]; rfl)), rfl, trivial⟩ rfl (by first | (simp only [List.map_append, List.append_assoc]; done) | (simp only [List.map_append, List.append_assoc]; rfl))⟩
              | exact ⟨i + 1, [], out ++ runes r.«to» ++ [(runes s)[i]], ((fun _ : Nat => kB) kA), ⟨by first | omega | (simp; omega), by cases Nat.lt_or_ge i (runes s).length with | inl hlt => (first | (exfalso; omega) | (left; refine ⟨by omega, ?_⟩; rw [← hf2, hdc hlt, resF_cons]; clear hf2 hf hdc hdn; simp_all; done)) | inr hge => (first | (exfalso; omega) | (right; refine ⟨by omega, ?_⟩; rw [← hf2, hdn (by omega), resF_nil]; clear hf2 hf hdc hdn; simp_all; done))⟩, by omega, St.Le.of ⟨rfl, rfl, rfl, rfl, (by show some _ = some _; first | (simp only [List.map_append, List.append_assoc]; done) | (simp only [List.map_append, List.append_assoc]; rfl)), rfl, trivial⟩ rfl (by first | (simp only [List.map_append, List.append_assoc]; done) | (simp only [List.map_append, List.append_assoc]; rfl))⟩
              | exact ⟨i + 1, ss0, out ++ runes r.«to», kA, ⟨by first | omega | (simp; omega), by cases Nat.lt_or_ge i (runes s).length with | inl hlt => (first | (exfalso; omega) | (left; refine ⟨by omega, ?_⟩; rw [← hf2, hdc hlt, resF_cons]; clear hf2 hf hdc hdn; simp_all; done)) | inr hge => (first | (exfalso; omega) | (right; refine ⟨by omega, ?_⟩; rw [← hf2, hdn (by omega), resF_nil]; clear hf2 hf hdc hdn; simp_all; done))⟩, by omega, St.Le.of ⟨rfl, rfl, rfl, rfl, (by show some _ = some _; first | (simp only [List.map_append, List.append_assoc]; done) | (simp only [List.map_append, List.append_assoc]; rfl)), rfl, trivial⟩ rfl (by first | (simp only [List.map_append, List.append_assoc]; done) | (simp only [List.map_append, List.append_assoc]; rfl))⟩
              | exact ⟨i + 1, (s0 :: ss0), out ++ runes r.«to», kA, ⟨by first | omega | (simp; omega), by cases Nat.lt_or_ge i (runes s).length with | inl hlt => (first | (exfalso; omega) | (left; refine ⟨by omega, ?_⟩; rw [← hf2, hdc hlt, resF_cons]; clear hf2 hf hdc hdn; simp_all; done)) | inr hge => (first | (exfalso; omega) | (right; refine ⟨by omega, ?_⟩; rw [← hf2, hdn (by omega), resF_nil]; clear hf2 hf hdc hdn; simp_all; done))⟩, by omega, St.Le.of ⟨rfl, rfl, rfl, rfl, (by show some _ = some _; first | (simp only [List.map_append, List.append_assoc]; done) | (simp only [List.map_append, List.append_assoc]; rfl)), rfl, trivial⟩ rfl (by first | (simp only [List.map_append, List.append_assoc]; done) | (simp only [List.map_append, List.append_assoc]; rfl))⟩
              | exact ⟨i + 1, [], out ++ runes r.«to», kA, ⟨by first | omega | (simp; omega), by cases Nat.lt_or_ge i (runes s).length with | inl hlt => (first | (exfalso; omega) | (left; refine ⟨by omega, ?_⟩; rw [← hf2, hdc hlt, resF_cons]; clear hf2 hf hdc hdn; simp_all; done)) | inr hge => (first | (exfalso; omega) | (right; refine ⟨by omega, ?_⟩; rw [← hf2, hdn (by omega), resF_nil]; clear hf2 hf hdc hdn; simp_all; done))⟩, by omega, St.Le.of ⟨rfl, rfl, rfl, rfl, (by show some _ = some _; first | (simp only [List.map_append, List.append_assoc]; done) | (simp only [List.map_append, List.append_assoc]; rfl)), rfl, trivial⟩ rfl (by first | (simp only [List.map_append, List.append_assoc]; done) | (simp only [List.map_append, List.append_assoc]; rfl))⟩
              | exact ⟨i + 1, ss0, out ++ [(runes s)[i]], kB, ⟨by first | omega | (simp; omega), by cases Nat.lt_or_ge i (runes s).length with | inl hlt => (first | (exfalso; omega) | (left; refine ⟨by omega, ?_⟩; rw [← hf2, hdc hlt, resF_cons]; clear hf2 hf hdc hdn; simp_all; done)) | inr hge => (first | (exfalso; omega) | (right; refine ⟨by omega, ?_⟩; rw [← hf2, hdn (by omega), resF_nil]; clear hf2 hf hdc hdn; simp_all; done))⟩, by omega, St.Le.of ⟨rfl, rfl, rfl, rfl, (by show some _ = some _; first | (simp only [List.map_append, List.append_assoc]; done) | (simp only [List.map_append, List.append_assoc]; rfl)), rfl, trivial⟩ rfl (by first | (simp only [List.map_append, List.append_assoc]; done) | (simp only [List.map_append, List.append_assoc]; rfl))⟩
              | exact ⟨i + 1, (s0 :: ss0), out ++ [(runes s)[i]], kB, ⟨by first | omega | (simp; omega), by cases Nat.lt_or_ge i (runes s).length with | inl hlt => (first | (exfalso; omega) | (left; refine ⟨by omega, ?_⟩; rw [← hf2, hdc hlt, resF_cons]; clear hf2 hf hdc hdn; simp_all; done)) | inr hge => (first | (exfalso; omega) | (right; refine ⟨by omega, ?_⟩; rw [← hf2, hdn (by omega), resF_nil]; clear hf2 hf hdc hdn; simp_all; done))⟩, by omega, St.Le.of ⟨rfl, rfl, rfl, rfl, (by show some _ = some _; first | (simp only [List.map_append, List.append_assoc]; done) | (simp only [List.map_append, List.append_assoc]; rfl)), rfl, trivial⟩ rfl (by first | (simp only [List.map_append, List.append_assoc]; done) | (simp only [List.map_append, List.append_assoc]; rfl))⟩
              | exact ⟨i + 1, [], out ++ [(runes s)[i]], kB, ⟨by first | omega | (simp; omega), by cases Nat.lt_or_ge i (runes s).length with | inl hlt => (first | (exfalso; omega) | (left; refine ⟨by omega, ?_⟩; rw [← hf2, hdc hlt, resF_cons]; clear hf2 hf hdc hdn; simp_all; done)) | inr hge => (first | (exfalso; omega) | (right; refine ⟨by omega, ?_⟩; rw [← hf2, hdn (by omega), resF_nil]; clear hf2 hf hdc hdn; simp_all; done))⟩, by omega, St.Le.of ⟨rfl, rfl, rfl, rfl, (by show some _ = some _; first | (simp only [List.map_append, List.append_assoc]; done) | (simp only [List.map_append, List.append_assoc]; rfl)), rfl, trivial⟩ rfl (by first | (simp only [List.map_append, List.append_assoc]; done) | (simp only [List.map_append, List.append_assoc]; rfl))⟩
              | exact ⟨i + 1, ss0, out, k, ⟨by first | omega | (simp; omega), by cases Nat.lt_or_ge i (runes s).length with | inl hlt => (first | (exfalso; omega) | (left; refine ⟨by omega, ?_⟩; rw [← hf2, hdc hlt, resF_cons]; clear hf2 hf hdc hdn; simp_all; done)) | inr hge => (first | (exfalso; omega) | (right; refine ⟨by omega, ?_⟩; rw [← hf2, hdn (by omega), resF_nil]; clear hf2 hf hdc hdn; simp_all; done))⟩, by omega, St.Le.of ⟨rfl, rfl, rfl, rfl, rfl, rfl, trivial⟩ rfl (rfl)⟩
              | exact ⟨i + 1, (s0 :: ss0), out, k, ⟨by first | omega | (simp; omega), by cases Nat.lt_or_ge i (runes s).length with | inl hlt => (first | (exfalso; omega) | (left; refine ⟨by omega, ?_⟩; rw [← hf2, hdc hlt, resF_cons]; clear hf2 hf hdc hdn; simp_all; done)) | inr hge => (first | (exfalso; omega) | (right; refine ⟨by omega, ?_⟩; rw [← hf2, hdn (by omega), resF_nil]; clear hf2 hf hdc hdn; simp_all; done))⟩, by omega, St.Le.of ⟨rfl, rfl, rfl, rfl, rfl, rfl, trivial⟩ rfl (rfl)⟩
              | exact ⟨i + 1, [], out, k, ⟨by first | omega | (simp; omega), by cases Nat.lt_or_ge i (runes s).length with | inl hlt => (first | (exfalso; omega) | (left; refine ⟨by omega, ?_⟩; rw [← hf2, hdc hlt, resF_cons]; clear hf2 hf hdc hdn; simp_all; done)) | inr hge => (first | (exfalso; omega) | (right; refine ⟨by omega, ?_⟩; rw [← hf2, hdn (by omega), resF_nil]; clear hf2 hf hdc hdn; simp_all; done))⟩, by omega, St.Le.of ⟨rfl, rfl, rfl, rfl, rfl, rfl, trivial⟩ rfl (rfl)⟩
          · try simp only [decide_eq_true_eq, decide_eq_false_iff_not, Bool.not_eq_true', Bool.not_eq_false', beq_iff_eq, bne_iff_ne, ne_eq, beq_eq_false_iff_ne, bne_eq_false_iff_eq, Int.not_lt, Int.not_le, Nat.not_lt, Nat.not_le, Int.ofNat_lt, Int.ofNat_le, Bool.not_eq_eq_eq_not, Bool.not_true, Bool.not_false] at hb5
            refine SOps.fieldPin rfl fieldB_47_0_0 ?_
            refine SOps.loadPin rfl flatB_21 ?_
            refine SOps.bin rfl rfl rfl ?_
            refine SOps.pick rfl rfl ?_
            refine SOps.pick rfl rfl ?_
            refine SOps.nil ?_
            refine SCode.cond rfl (fun hc6 => ?_) (fun hc6 => ?_)
            · try simp only [decide_eq_true_eq, decide_eq_false_iff_not, Bool.not_eq_true', Bool.not_eq_false', beq_iff_eq, bne_iff_ne, ne_eq, beq_eq_false_iff_ne, bne_eq_false_iff_eq, Int.not_lt, Int.not_le, Nat.not_lt, Nat.not_le, Int.ofNat_lt, Int.ofNat_le, Bool.not_eq_eq_eq_not, Bool.not_true, Bool.not_false] at hc6
              refine SCode.region ?_
              refine SOps.move rfl ?_
              refine SOps.move rfl ?_
              refine SOps.move rfl ?_
              refine SOps.indexM (i) rfl rfl sliceB_84_21_1 (by first | omega | (simp only [lenB]; omega)) (by first | omega | (simp only [lenB]; omega)) ?_
              refine SOps.loadPin rfl flatB_21 ?_
              refine SOps.litF rfl sliceB_84_21_1 zeroIs_21 rfl ?_
              refine SOps.appendAcc [] [] sliceB_84_21_1 elemB_21_1_4 rfl rfl rfl SrcD.isl (by simp) (by simp [lenB]; omega) (by simp; omega) (fun kB => ?_)
              refine SOps.assign rfl ?_
              refine SOps.nil ?_
              show SCode _ _ _ _
              refine SCode.region ?_
              refine SOps.move rfl ?_
              refine SOps.addI rfl rfl (by first | omega | (simp only [lenB]; omega)) (by first | omega | (simp only [lenB]; omega)) ?_
              refine SOps.assign rfl ?_
              refine SOps.nil ?_
              first
                | (exfalso; simp only [List.getElem_cons_zero] at *; omega)
                | exact ⟨i + 1, ss0, out ++ runes r.«to» ++ [(runes s)[i]], ((fun _ : Nat => kB) kA), ⟨by first | omega | (simp; omega), by cases Nat.lt_or_ge i (runes s).length with | inl hlt => (first | (exfalso; omega) | (left; refine ⟨by omega, ?_⟩; rw [← hf2, hdc hlt, resF_cons]; clear hf2 hf hdc hdn; simp_all; done)) | inr hge => (first | (exfalso; omega) | (right; refine ⟨by omega, ?_⟩; rw [← hf2, hdn (by omega), resF_nil]; clear hf2 hf hdc hdn; simp_all; done))⟩, by omega, St.Le.of ⟨rfl, rfl, rfl, rfl, (by show some _ = some _; first | (simp only [List.map_append, List.append_assoc]; done) | (simp only [List.map_append, List.append_assoc]; rfl)), rfl, trivial⟩ rfl (by first | (simp only [List.map_append, List.append_assoc]; done) | (simp only [List.map_append, List.append_assoc]; rfl))⟩
                | exact ⟨i + 1, (s0 :: ss0), out ++ runes r.«to» ++ [(runes s)[i]], ((fun _ : Nat => kB) kA), ⟨by first | omega | (simp; omega), by cases Nat.lt_or_ge i (runes s).length with | inl hlt => (first | (exfalso; omega) | (left; refine ⟨by omega, ?_⟩; rw [← hf2, hdc hlt, resF_cons]; clear hf2 hf hdc hdn; simp_all; done)) | inr hge => (first | (exfalso; omega) | (right; refine ⟨by omega, ?_⟩; rw [← hf2, hdn (by omega), resF_nil]; clear hf2 hf hdc hdn; simp_all; done))⟩, by omega, St.Le.of ⟨rfl, rfl, rfl, rfl, (by show some _ = some _; first | (simp only [List.map_append, List.append_assoc]; done) | (simp only [List.map_append, List.append_assoc]; rfl)), rfl, trivial⟩ rfl (by first | (simp only [List.map_append, List.append_assoc]; done) | (simp only [List.map_append, List.append_assoc]; rfl))⟩
                | exact ⟨i + 1, [], out ++ runes r.«to» ++ [(runes s)[i]], ((fun _ : Nat => kB) kA), ⟨by first | omega | (simp; omega), by cases Nat.lt_or_ge i (runes s).length with | inl hlt => (first | (exfalso; omega) | (left; refine ⟨by omega, ?_⟩; rw [← hf2, hdc hlt, resF_cons]; clear hf2 hf hdc hdn; simp_all; done)) | inr hge => (first | (exfalso; omega) | (right; refine ⟨by omega, ?_⟩; rw [← hf2, hdn (by omega), resF_nil]; clear hf2 hf hdc hdn; simp_all; done))⟩, by omega, St.Le.of ⟨rfl, rfl, rfl, rfl, (by show some _ = some _; first | (simp only [List.map_append, List.append_assoc]; done) | (simp only [List.map_append, List.append_assoc]; rfl)), rfl, trivial⟩ rfl (by first | (simp only [List.map_append, List.append_assoc]; done) | (simp only [List.map_append, List.append_assoc]; rfl))⟩
                | exact ⟨i + 1, ss0, out ++ runes r.«to», kA, ⟨by first | omega | (simp; omega), by cases Nat.lt_or_ge i (runes s).length with | inl hlt => (first | (exfalso; omega) | (left; refine ⟨by omega, ?_⟩; rw [← hf2, hdc hlt, resF_cons]; clear hf2 hf hdc hdn; simp_all; done)) | inr hge => (first | (exfalso; omega) | (right; refine ⟨by omega, ?_⟩; rw [← hf2, hdn (by omega), resF_nil]; clear hf2 hf hdc hdn; simp_all; done))⟩, by omega, St.Le.of ⟨rfl, rfl, rfl, rfl, (by show some _ = some _; first | (simp only [List.map_append, List.append_assoc]; done) | (simp only [List.map_append, List.append_assoc]; rfl)), rfl, trivial⟩ rfl (by first | (simp only [List.map_append, List.append_assoc]; done) | (simp only [List.map_append, List.append_assoc]; rfl))⟩
                | exact ⟨i + 1, (s0 :: ss0), out ++ runes r.«to», kA, ⟨by first | omega | (simp; omega), by cases Nat.lt_or_ge i (runes s).length with | inl hlt => (first | (exfalso; omega) | (left; refine ⟨by omega, ?_⟩; rw [← hf2, hdc hlt, resF_cons]; clear hf2 hf hdc hdn; simp_all; done)) | inr hge => (first | (exfalso; omega) | (right; refine ⟨by omega, ?_⟩; rw [← hf2, hdn (by omega), resF_nil]; clear hf2 hf hdc hdn; simp_all; done))⟩, by omega, St.Le.of ⟨rfl, rfl, rfl, rfl, (by show some _ = some _; first | (simp only [List.map_append, List.append_assoc]; done) | (simp only [List.map_append, List.append_assoc]; rfl)), rfl, trivial⟩ rfl (by first | (simp only [List.map_append, List.append_assoc]; done) | (simp only [List.map_append, List.append_assoc]; rfl))⟩
                | exact ⟨i + 1, [], out ++ runes r.«to», kA, ⟨by first | omega | (simp; omega), by cases Nat.lt_or_ge i (runes s).length with | inl hlt => (first | (exfalso; omega) | (left; refine ⟨by omega, ?_⟩; rw [← hf2, hdc hlt, resF_cons]; clear hf2 hf hdc hdn; simp_all; done)) | inr hge => (first | (exfalso; omega) | (right; refine ⟨by omega, ?_⟩; rw [← hf2, hdn (by omega), resF_nil]; clear hf2 hf hdc hdn; simp_all; done))⟩, by omega, St.Le.of ⟨rfl, rfl, rfl, rfl, (by show some _ = some _; first | (simp only [List.map_append, List.append_assoc]; done) | (simp only [List.map_append, List.append_assoc]; rfl)), rfl, trivial⟩ rfl (by first | (simp only [List.map_append, List.append_assoc]; done) | (simp only [List.map_append, List.append_assoc]; rfl))⟩
                | exact ⟨i + 1, ss0, out ++ [(runes s)[i]], kB, ⟨by first | omega | (simp; omega), by cases Nat.lt_or_ge i (runes s).length with | inl hlt => (first | (exfalso; omega) | (left; refine ⟨by omega, ?_⟩; rw [← hf2, hdc hlt, resF_cons]; clear hf2 hf hdc hdn; simp_all; done)) | inr hge => (first | (exfalso; omega) | (right; refine ⟨by omega, ?_⟩; rw [← hf2, hdn (by omega), resF_nil]; clear hf2 hf hdc hdn; simp_all; done))⟩, by omega, St.Le.of ⟨rfl, rfl, rfl, rfl, (by show some _ = some _; first | (simp only [List.map_append, List.append_assoc]; done) | (simp only [List.map_append, List.append_assoc]; rfl)), rfl, trivial⟩ rfl (by first | (simp only [List.map_append, List.append_assoc]; done) | (simp only [List.map_append, List.append_assoc]; rfl))⟩
                | exact ⟨i + 1, (s0 :: ss0), out ++ [(runes s)[i]], kB, ⟨by first | omega | (simp; omega), by cases Nat.lt_or_ge i (runes s).length with | inl hlt => (first | (exfalso; omega) | (left; refine ⟨by omega, ?_⟩; rw [← hf2, hdc hlt, resF_cons]; clear hf2 hf hdc hdn; simp_all; done)) | inr hge => (first | (exfalso; omega) | (right; refine ⟨by omega, ?_⟩; rw [← hf2, hdn (by omega), resF_nil]; clear hf2 hf hdc hdn; simp_all; done))⟩, by omega, St.Le.of ⟨rfl, rfl, rfl, rfl, (by show some _ = some _; first | (simp only [List.map_append, List.append_assoc]; done) | (simp only [List.map_append, List.append_assoc]; rfl)), rfl, trivial⟩ rfl (by first | (simp only [List.map_append, List.append_assoc]; done) | (simp only [List.map_append, List.append_assoc]; rfl))⟩
                | exact ⟨i + 1, [], out ++ [(runes s)[i]], kB, ⟨by first | omega | (simp; omega), by cases Nat.lt_or_ge i (runes s).length with | inl hlt => (first | (exfalso; omega) | (left; refine ⟨by omega, ?_⟩; rw [← hf2, hdc hlt, resF_cons]; clear hf2 hf hdc hdn; simp_all; done)) | inr hge => (first | (exfalso; omega) | (right; refine ⟨by omega, ?_⟩; rw [← hf2, hdn (by omega), resF_nil]; clear hf2 hf hdc hdn; simp_all; done))⟩, by omega, St.Le.of ⟨rfl, rfl, rfl, rfl, (by show some _ = some _; first | (simp only [List.map_append, List.append_assoc]; done) | (simp only [List.map_append, List.append_assoc]; rfl)), rfl, trivial⟩ rfl (by first | (simp only [List.map_append, List.append_assoc]; done) | (simp only [List.map_append, List.append_assoc]; rfl))⟩
                | exact ⟨i + 1, ss0, out, k, ⟨by first | omega | (simp; omega), by cases Nat.lt_or_ge i (runes s).length with | inl hlt => (first | (exfalso; omega) | (left; refine ⟨by omega, ?_⟩; rw [← hf2, hdc hlt, resF_cons]; clear hf2 hf hdc hdn; simp_all; done)) | inr hge => (first | (exfalso; omega) | (right; refine ⟨by omega, ?_⟩; rw [← hf2, hdn (by omega), resF_nil]; clear hf2 hf hdc hdn; simp_all; done))⟩, by omega, St.Le.of ⟨rfl, rfl, rfl, rfl, rfl, rfl, trivial⟩ rfl (rfl)⟩
                | exact ⟨i + 1, (s0 :: ss0), out, k, ⟨by first | omega | (simp; omega), by cases Nat.lt_or_ge i (runes s).length with | inl hlt => (first | (exfalso; omega) | (left; refine ⟨by omega, ?_⟩; rw [← hf2, hdc hlt, resF_cons]; clear hf2 hf hdc hdn; simp_all; done)) | inr hge => (first | (exfalso; omega) | (right; refine ⟨by omega, ?_⟩; rw [← hf2, hdn (by omega), resF_nil]; clear hf2 hf hdc hdn; simp_all; done))⟩, by omega, St.Le.of ⟨rfl, rfl, rfl, rfl, rfl, rfl, trivial⟩ rfl (rfl)⟩
                | exact ⟨i + 1, [], out, k, ⟨by first | omega | (simp; omega), by cases Nat.lt_or_ge i (runes s).length with | inl hlt => (first | (exfalso; omega) | (left; refine ⟨by omega, ?_⟩; rw [← hf2, hdc hlt, resF_cons]; clear hf2 hf hdc hdn; simp_all; done)) | inr hge => (first | (exfalso; omega) | (right; refine ⟨by omega, ?_⟩; rw [← hf2, hdn (by omega), resF_nil]; clear hf2 hf hdc hdn; simp_all; done))⟩, by omega, St.Le.of ⟨rfl, rfl, rfl, rfl, rfl, rfl, trivial⟩ rfl (rfl)⟩
            · try simp only [decide_eq_true_eq, decide_eq_false_iff_not, Bool.not_eq_true', Bool.not_eq_false', beq_iff_eq, bne_iff_ne, ne_eq, beq_eq_false_iff_ne, bne_eq_false_iff_eq, Int.not_lt, Int.not_le, Nat.not_lt, Nat.not_le, Int.ofNat_lt, Int.ofNat_le, Bool.not_eq_eq_eq_not, Bool.not_true, Bool.not_false] at hc6
              refine SCode.skip ?_
              show SCode _ _ _ _
              refine SCode.region ?_
              refine SOps.move rfl ?_
              refine SOps.addI rfl rfl (by first | omega | (simp only [lenB]; omega)) (by first | omega | (simp only [lenB]; omega)) ?_
              refine SOps.assign rfl ?_
              refine SOps.nil ?_
              first
                | (exfalso; simp only [List.getElem_cons_zero] at *; omega)
                | exact ⟨i + 1, ss0, out ++ runes r.«to» ++ [(runes s)[i]], ((fun _ : Nat => kB) kA), ⟨by first | omega | (simp; omega), by cases Nat.lt_or_ge i (runes s).length with | inl hlt => (first | (exfalso; omega) | (left; refine ⟨by omega, ?_⟩; rw [← hf2, hdc hlt, resF_cons]; clear hf2 hf hdc hdn; simp_all; done)) | inr hge => (first | (exfalso; omega) | (right; refine ⟨by omega, ?_⟩; rw [← hf2, hdn (by omega), resF_nil]; clear hf2 hf hdc hdn; simp_all; done))⟩, by omega, St.Le.of ⟨rfl, rfl, rfl, rfl, (by show some _ = some _; first | (simp only [List.map_append, List.append_assoc]; done) | (simp only [List.map_append, List.append_assoc]; rfl)), rfl, trivial⟩ rfl (by first | (simp only [List.map_append, List.append_assoc]; done) | (simp only [List.map_append, List.append_assoc]; rfl))⟩
                | exact ⟨i + 1, (s0 :: ss0), out ++ runes r.«to» ++ [(runes s)[i]], ((fun _ : Nat => kB) kA), ⟨by first | omega | (simp; omega), by cases Nat.lt_or_ge i (runes s).length with | inl hlt => (first | (exfalso; omega) | (left; refine ⟨by omega, ?_⟩; rw [← hf2, hdc hlt, resF_cons]; clear hf2 hf hdc hdn; simp_all; done)) | inr hge => (first | (exfalso; omega) | (right; refine ⟨by omega, ?_⟩; rw [← hf2, hdn (by omega), resF_nil]; clear hf2 hf hdc hdn; simp_all; done))⟩, by omega, St.Le.of ⟨rfl, rfl, rfl, rfl, (by show some _ = some _; first | (simp only [List.map_append, List.append_assoc]; done) | (simp only [List.map_append, List.append_assoc]; rfl)), rfl, trivial⟩ rfl (by first | (simp only [List.map_append, List.append_assoc]; done) | (simp only [List.map_append, List.append_assoc]; rfl))⟩
                | exact ⟨i + 1, [], out ++ runes r.«to» ++ [(runes s)[i]], ((fun _ : Nat => kB) kA), ⟨by first | omega | (simp; omega), by cases Nat.lt_or_ge i (runes s).length with | inl hlt => (first | (exfalso; omega) | (left; refine ⟨by omega, ?_⟩; rw [← hf2, hdc hlt, resF_cons]; clear hf2 hf hdc hdn; simp_all; done)) | inr hge => (first | (exfalso; omega) | (right; refine ⟨by omega, ?_⟩; rw [← hf2, hdn (by omega), resF_nil]; clear hf2 hf hdc hdn; simp_all; done))⟩, by omega, St.Le.of ⟨rfl, rfl, rfl, rfl, (by show some _ = some _; first | (simp only [List.map_append, List.append_assoc]; done) | (simp only [List.map_append, List.append_assoc]; rfl)), rfl, trivial⟩ rfl (by first | (simp only [List.map_append, List.append_assoc]; done) | (simp only [List.map_append, List.append_assoc]; rfl))⟩
                | exact ⟨i + 1, ss0, out ++ runes r.«to», kA, ⟨by first | omega | (simp; omega), by cases Nat.lt_or_ge i (runes s).length with | inl hlt => (first | (exfalso; omega) | (left; refine ⟨by omega, ?_⟩; rw [← hf2, hdc hlt, resF_cons]; clear hf2 hf hdc hdn; simp_all; done)) | inr hge => (first | (exfalso; omega) | (right; refine ⟨by omega, ?_⟩; rw [← hf2, hdn (by omega), resF_nil]; clear hf2 hf hdc hdn; simp_all; done))⟩, by omega, St.Le.of ⟨rfl, rfl, rfl, rfl, (by show some _ = some _; first | (simp only [List.map_append, List.append_assoc]; done) | (simp only [List.map_append, List.append_assoc]; rfl)), rfl, trivial⟩ rfl (by first | (simp only [List.map_append, List.append_assoc]; done) | (simp only [List.map_append, List.append_assoc]; rfl))⟩
                | exact ⟨i + 1, (s0 :: ss0), out ++ runes r.«to», kA, ⟨by first | omega | (simp; omega), by cases Nat.lt_or_ge i (runes s).length with | inl hlt => (first | (exfalso; omega) | (left; refine ⟨by omega, ?_⟩; rw [← hf2, hdc hlt, resF_cons]; clear hf2 hf hdc hdn; simp_all; done)) | inr hge => (first | (exfalso; omega) | (right; refine ⟨by omega, ?_⟩; rw [← hf2, hdn (by omega), resF_nil]; clear hf2 hf hdc hdn; simp_all; done))⟩, by omega, St.Le.of ⟨rfl, rfl, rfl, rfl, (by show some _ = some _; first | (simp only [List.map_append, List.append_assoc]; done) | (simp only [List.map_append, List.append_assoc]; rfl)), rfl, trivial⟩ rfl (by first | (simp only [List.map_append, List.append_assoc]; done) | (simp only [List.map_append, List.append_assoc]; rfl))⟩
                | exact ⟨i + 1, [], out ++ runes r.«to», kA, ⟨by first | omega | (simp; omega), by cases Nat.lt_or_ge i (runes s).length with | inl hlt => (first | (exfalso; omega) | (left; refine ⟨by omega, ?_⟩; rw [← hf2, hdc hlt, resF_cons]; clear hf2 hf hdc hdn; simp_all; done)) | inr hge => (first | (exfalso; omega) | (right; refine ⟨by omega, ?_⟩; rw [← hf2, hdn (by omega), resF_nil]; clear hf2 hf hdc hdn; simp_all; done))⟩, by omega, St.Le.of ⟨rfl, rfl, rfl, rfl, (by show some _ = some _; first | (simp only [List.map_append, List.append_assoc]; done) | (simp only [List.map_append, List.append_assoc]; rfl)), rfl, trivial⟩ rfl (by first | (simp only [List.map_append, List.append_assoc]; done) | (simp only [List.map_append, List.append_assoc]; rfl))⟩
                | exact ⟨i + 1, ss0, out ++ [(runes s)[i]], kB, ⟨by first | omega | (simp; omega), by cases Nat.lt_or_ge i (runes s).length with | inl hlt => (first | (exfalso; omega) | (left; refine ⟨by omega, ?_⟩; rw [← hf2, hdc hlt, resF_cons]; clear hf2 hf hdc hdn; simp_all; done)) | inr hge => (first | (exfalso; omega) | (right; refine ⟨by omega, ?_⟩; rw [← hf2, hdn (by omega), resF_nil]; clear hf2 hf hdc hdn; simp_all; done))⟩, by omega, St.Le.of ⟨rfl, rfl, rfl, rfl, (by show some _ = some _; first | (simp only [List.map_append, List.append_assoc]; done) | (simp only [List.map_append, List.append_assoc]; rfl)), rfl, trivial⟩ rfl (by first | (simp only [List.map_append, List.append_assoc]; done) | (simp only [List.map_append, List.append_assoc]; rfl))⟩
                | exact ⟨i + 1, (s0 :: ss0), out ++ [(runes s)[i]], kB, ⟨by first | omega | (simp; omega), by cases Nat.lt_or_ge i (runes s).length with | inl hlt => (first | (exfalso; omega) | (left; refine ⟨by omega, ?_⟩; rw [← hf2, hdc hlt, resF_cons]; clear hf2 hf hdc hdn; simp_all; done)) | inr hge => (first | (exfalso; omega) | (right; refine ⟨by omega, ?_⟩; rw [← hf2, hdn (by omega), resF_nil]; clear hf2 hf hdc hdn; simp_all; done))⟩, by omega, St.Le.of ⟨rfl, rfl, rfl, rfl, (by show some _ = some _; first | (simp only [List.map_append, List.append_assoc]; done) | (simp only [List.map_append, List.append_assoc]; rfl)), rfl, trivial⟩ rfl (by first | (simp only [List.map_append, List.append_assoc]; done) | (simp only [List.map_append, List.append_assoc]; rfl))⟩
                | exact ⟨i + 1, [], out ++ [(runes s)[i]], kB, ⟨by first | omega | (simp; omega), by cases Nat.lt_or_ge i (runes s).length with | inl hlt => (first | (exfalso; omega) | (left; refine ⟨by omega, ?_⟩; rw [← hf2, hdc hlt, resF_cons]; clear hf2 hf hdc hdn; simp_all; done)) | inr hge => (first | (exfalso; omega) | (right; refine ⟨by omega, ?_⟩; rw [← hf2, hdn (by omega), resF_nil]; clear hf2 hf hdc hdn; simp_all; done))⟩, by omega, St.Le.of ⟨rfl, rfl, rfl, rfl, (by show some _ = some _; first | (simp only [List.map_append, List.append_assoc]; done) | (simp only [List.map_append, List.append_assoc]; rfl)), rfl, trivial⟩ rfl (by first | (simp only [List.map_append, List.append_assoc]; done) | (simp only [List.map_append, List.append_assoc]; rfl))⟩
                | exact ⟨i + 1, ss0, out, k, ⟨by first | omega | (simp; omega), by cases Nat.lt_or_ge i (runes s).length with | inl hlt => (first | (exfalso; omega) | (left; refine ⟨by omega, ?_⟩; rw [← hf2, hdc hlt, resF_cons]; clear hf2 hf hdc hdn; simp_all; done)) | inr hge => (first | (exfalso; omega) | (right; refine ⟨by omega, ?_⟩; rw [← hf2, hdn (by omega), resF_nil]; clear hf2 hf hdc hdn; simp_all; done))⟩, by omega, St.Le.of ⟨rfl, rfl, rfl, rfl, rfl, rfl, trivial⟩ rfl (rfl)⟩
                | exact ⟨i + 1, (s0 :: ss0), out, k, ⟨by first | omega | (simp; omega), by cases Nat.lt_or_ge i (runes s).length with | inl hlt => (first | (exfalso; omega) | (left; refine ⟨by omega, ?_⟩; rw [← hf2, hdc hlt, resF_cons]; clear hf2 hf hdc hdn; simp_all; done)) | inr hge => (first | (exfalso; omega) | (right; refine ⟨by omega, ?_⟩; rw [← hf2, hdn (by omega), resF_nil]; clear hf2 hf hdc hdn; simp_all; done))⟩, by omega, St.Le.of ⟨rfl, rfl, rfl, rfl, rfl, rfl, trivial⟩ rfl (rfl)⟩
                | exact ⟨i + 1, [], out, k, ⟨by first | omega | (simp; omega), by cases Nat.lt_or_ge i (runes s).length with | inl hlt => (first | (exfalso; omega) | (left; refine ⟨by omega, ?_⟩; rw [← hf2, hdc hlt, resF_cons]; clear hf2 hf hdc hdn; simp_all; done)) | inr hge => (first | (exfalso; omega) | (right; refine ⟨by omega, ?_⟩; rw [← hf2, hdn (by omega), resF_nil]; clear hf2 hf hdc hdn; simp_all; done))⟩, by omega, St.Le.of ⟨rfl, rfl, rfl, rfl, rfl, rfl, trivial⟩ rfl (rfl)⟩
        · try simp only [decide_eq_true_eq, decide_eq_false_iff_not, Bool.not_eq_true', Bool.not_eq_false', beq_iff_eq, bne_iff_ne, ne_eq, beq_eq_false_iff_ne, bne_eq_false_iff_eq, Int.not_lt, Int.not_le, Nat.not_lt, Nat.not_le, Int.ofNat_lt, Int.ofNat_le, Bool.not_eq_eq_eq_not, Bool.not_true, Bool.not_false] at hb4
          refine SOps.skip rfl ?_
          refine SOps.skip rfl ?_
          refine SOps.skip rfl ?_
          refine SOps.skip rfl ?_
          refine SOps.skip rfl ?_
          refine SOps.skip rfl ?_
          refine SOps.skip rfl ?_
          refine SOps.pick rfl rfl ?_
          refine SOps.nil ?_
          refine SCode.cond rfl (fun h => by cases h) (fun _ => ?_)
          refine SCode.skip ?_
          show SCode _ _ _ _
          refine SCode.region ?_
          refine SOps.move rfl ?_
          refine SOps.addI rfl rfl (by first | omega | (simp only [lenB]; omega)) (by first | omega | (simp only [lenB]; omega)) ?_
          refine SOps.assign rfl ?_
          refine SOps.nil ?_
          first
            | (exfalso; simp only [List.getElem_cons_zero] at *; omega)
            | exact ⟨i + 1, ss0, out ++ runes r.«to» ++ [(runes s)[i]], ((fun _ : Nat => kB) kA), ⟨by first | omega | (simp; omega), by cases Nat.lt_or_ge i (runes s).length with | inl hlt => (first | (exfalso; omega) | (left; refine ⟨by omega, ?_⟩; rw [← hf2, hdc hlt, resF_cons]; clear hf2 hf hdc hdn; simp_all; done)) | inr hge => (first | (exfalso; omega) | (right; refine ⟨by omega, ?_⟩; rw [← hf2, hdn (by omega), resF_nil]; clear hf2 hf hdc hdn; simp_all; done))⟩, by omega, St.Le.of ⟨rfl, rfl, rfl, rfl, (by show some _ = some _; first | (simp only [List.map_append, List.append_assoc]; done) | (simp only [List.map_append, List.append_assoc]; rfl)), rfl, trivial⟩ rfl (by first | (simp only [List.map_append, List.append_assoc]; done) | (simp only [List.map_append, List.append_assoc]; rfl))⟩
            | exact ⟨i + 1, (s0 :: ss0), out ++ runes r.«to» ++ [(runes s)[i]], ((fun _ : Nat => kB) kA), ⟨by first | omega | (simp; omega), by cases Nat.lt_or_ge i (runes s).length with | inl hlt => (first | (exfalso; omega) | (left; refine ⟨by omega, ?_⟩; rw [← hf2, hdc hlt, resF_cons]; clear hf2 hf hdc hdn; simp_all; done)) | inr hge => (first | (exfalso; omega) | (right; refine ⟨by omega, ?_⟩; rw [← hf2, hdn (by omega), resF_nil]; clear hf2 hf hdc hdn; simp_all; done))⟩, by omega, St.Le.of ⟨rfl, rfl, rfl, rfl, (by show some _ = some _; first | (simp only [List.map_append, List.append_assoc]; done) | (simp only [List.map_append, List.append_assoc]; rfl)), rfl, trivial⟩ rfl (by first | (simp only [List.map_append, List.append_assoc]; done) | (simp only [List.map_append, List.append_assoc]; rfl))⟩
            | exact ⟨i + 1, [], out ++ runes r.«to» ++ [(runes s)[i]], ((fun _ : Nat => kB) kA), ⟨by first | omega | (simp; omega), by cases Nat.lt_or_ge i (runes s).length with | inl hlt => (first | (exfalso; omega) | (left; refine ⟨by omega, ?_⟩; rw [← hf2, hdc hlt, resF_cons]; clear hf2 hf hdc hdn; simp_all; done)) | inr hge => (first | (exfalso; omega) | (right; refine ⟨by omega, ?_⟩; rw [← hf2, hdn (by omega), resF_nil]; clear hf2 hf hdc hdn; simp_all; done))⟩, by omega, St.Le.of ⟨rfl, rfl, rfl, rfl, (by show some _ = some _; first | (simp only [List.map_append, List.append_assoc]; done) | (simp only [List.map_append, List.append_assoc]; rfl)), rfl, trivial⟩ rfl (by first | (simp only [List.map_append, List.append_assoc]; done) | (simp only [List.map_append, List.append_assoc]; rfl))⟩
            | exact ⟨i + 1, ss0, out ++ runes r.«to», kA, ⟨by first | omega | (simp; omega), by cases Nat.lt_or_ge i (runes s).length with | inl hlt => (first | (exfalso; omega) | (left; refine ⟨by omega, ?_⟩; rw [← hf2, hdc hlt, resF_cons]; clear hf2 hf hdc hdn; simp_all; done)) | inr hge => (first | (exfalso; omega) | (right; refine ⟨by omega, ?_⟩; rw [← hf2, hdn (by omega), resF_nil]; clear hf2 hf hdc hdn; simp_all; done))⟩, by omega, St.Le.of ⟨rfl, rfl, rfl, rfl, (by show some _ = some _; first | (simp only [List.map_append, List.append_assoc]; done) | (simp only [List.map_append, List.append_assoc]; rfl)), rfl, trivial⟩ rfl (by first | (simp only [List.map_append, List.append_assoc]; done) | (simp only [List.map_append, List.append_assoc]; rfl))⟩
            | exact ⟨i + 1, (s0 :: ss0), out ++ runes r.«to», kA, ⟨by first | omega | (simp; omega), by cases Nat.lt_or_ge i (runes s).length with | inl hlt => (first | (exfalso; omega) | (left; refine ⟨by omega, ?_⟩; rw [← hf2, hdc hlt, resF_cons]; clear hf2 hf hdc hdn; simp_all; done)) | inr hge => (first | (exfalso; omega) | (right; refine ⟨by omega, ?_⟩; rw [← hf2, hdn (by omega), resF_nil]; clear hf2 hf hdc hdn; simp_all; done))⟩, by omega, St.Le.of ⟨rfl, rfl, rfl, rfl, (by show some _ = some _; first | (simp only [List.map_append, List.append_assoc]; done) | (simp only [List.map_append, List.append_assoc]; rfl)), rfl, trivial⟩ rfl (by first | (simp only [List.map_append, List.append_assoc]; done) | (simp only [List.map_append, List.append_assoc]; rfl))⟩
            | exact ⟨i + 1, [], out ++ runes r.«to», kA, ⟨by first | omega | (simp; omega), by cases Nat.lt_or_ge i (runes s).length with | inl hlt => (first | (exfalso; omega) | (left; refine ⟨by omega, ?_⟩; rw [← hf2, hdc hlt, resF_cons]; clear hf2 hf hdc hdn; simp_all; done)) | inr hge => (first | (exfalso; omega) | (right; refine ⟨by omega, ?_⟩; rw [← hf2, hdn (by omega), resF_nil]; clear hf2 hf hdc hdn; simp_all; done))⟩, by omega, St.Le.of ⟨rfl, rfl, rfl, rfl, (by show some _ = some _; first | (simp only [List.map_append, List.append_assoc]; done) | (simp only [List.map_append, List.append_assoc]; rfl)), rfl, trivial⟩ rfl (by first | (simp only [List.map_append, List.append_assoc]; done) | (simp only [List.map_append, List.append_assoc]; rfl))⟩
            | exact ⟨i + 1, ss0, out ++ [(runes s)[i]], kB, ⟨by first | omega | (simp; omega), by cases Nat.lt_or_ge i (runes s).length with | inl hlt => (first | (exfalso; omega) | (left; refine ⟨by omega, ?_⟩; rw [← hf2, hdc hlt, resF_cons]; clear hf2 hf hdc hdn; simp_all; done)) | inr hge => (first | (exfalso; omega) | (right; refine ⟨by omega, ?_⟩; rw [← hf2, hdn (by omega), resF_nil]; clear hf2 hf hdc hdn; simp_all; done))⟩, by omega, St.Le.of ⟨rfl, rfl, rfl, rfl, (by show some _ = some _; first | (simp only [List.map_append, List.append_assoc]; done) | (simp only [List.map_append, List.append_assoc]; rfl)), rfl, trivial⟩ rfl (by first | (simp only [List.map_append, List.append_assoc]; done) | (simp only [List.map_append, List.append_assoc]; rfl))⟩
            | exact ⟨i + 1, (s0 :: ss0), out ++ [(runes s)[i]], kB, ⟨by first | omega | (simp; omega), by cases Nat.lt_or_ge i (runes s).length with | inl hlt => (first | (exfalso; omega) | (left; refine ⟨by omega, ?_⟩; rw [← hf2, hdc hlt, resF_cons]; clear hf2 hf hdc hdn; simp_all; done)) | inr hge => (first | (exfalso; omega) | (right; refine ⟨by omega, ?_⟩; rw [← hf2, hdn (by omega), resF_nil]; clear hf2 hf hdc hdn; simp_all; done))⟩, by omega, St.Le.of ⟨rfl, rfl, rfl, rfl, (by show some _ = some _; first | (simp only [List.map_append, List.append_assoc]; done) | (simp only [List.map_append, List.append_assoc]; rfl)), rfl, trivial⟩ rfl (by first | (simp only [List.map_append, List.append_assoc]; done) | (simp only [List.map_append, List.append_assoc]; rfl))⟩
            | exact ⟨i + 1, [], out ++ [(runes s)[i]], kB, ⟨by first | omega | (simp; omega), by cases Nat.lt_or_ge i (runes s).length with | inl hlt => (first | (exfalso; omega) | (left; refine ⟨by omega, ?_⟩; rw [← hf2, hdc hlt, resF_cons]; clear hf2 hf hdc hdn; simp_all; done)) | inr hge => (first | (exfalso; omega) | (right; refine ⟨by omega, ?_⟩; rw [← hf2, hdn (by omega), resF_nil]; clear hf2 hf hdc hdn; simp_all; done))⟩, by omega, St.Le.of ⟨rfl, rfl, rfl, rfl, (by show some _ = some _; first | (simp only [List.map_append, List.append_assoc]; done) | (simp only [List.map_append, List.append_assoc]; rfl)), rfl, trivial⟩ rfl (by first | (simp only [List.map_append, List.append_assoc]; done) | (simp only [List.map_append, List.append_assoc]; rfl))⟩
            | exact ⟨i + 1, ss0, out, k, ⟨by first | omega | (simp; omega), by cases Nat.lt_or_ge i (runes s).length with | inl hlt => (first | (exfalso; omega) | (left; refine ⟨by omega, ?_⟩; rw [← hf2, hdc hlt, resF_cons]; clear hf2 hf hdc hdn; simp_all; done)) | inr hge => (first | (exfalso; omega) | (right; refine ⟨by omega, ?_⟩; rw [← hf2, hdn (by omega), resF_nil]; clear hf2 hf hdc hdn; simp_all; done))⟩, by omega, St.Le.of ⟨rfl, rfl, rfl, rfl, rfl, rfl, trivial⟩ rfl (rfl)⟩
            | exact ⟨i + 1, (s0 :: ss0), out, k, ⟨by first | omega | (simp; omega), by cases Nat.lt_or_ge i (runes s).length with | inl hlt => (first | (exfalso; omega) | (left; refine ⟨by omega, ?_⟩; rw [← hf2, hdc hlt, resF_cons]; clear hf2 hf hdc hdn; simp_all; done)) | inr hge => (first | (exfalso; omega) | (right; refine ⟨by omega, ?_⟩; rw [← hf2, hdn (by omega), resF_nil]; clear hf2 hf hdc hdn; simp_all; done))⟩, by omega, St.Le.of ⟨rfl, rfl, rfl, rfl, rfl, rfl, trivial⟩ rfl (rfl)⟩
            | exact ⟨i + 1, [], out, k, ⟨by first | omega | (simp; omega), by cases Nat.lt_or_ge i (runes s).length with | inl hlt => (first | (exfalso; omega) | (left; refine ⟨by omega, ?_⟩; rw [← hf2, hdc hlt, resF_cons]; clear hf2 hf hdc hdn; simp_all; done)) | inr hge => (first | (exfalso; omega) | (right; refine ⟨by omega, ?_⟩; rw [← hf2, hdn (by omega), resF_nil]; clear hf2 hf hdc hdn; simp_all; done))⟩, by omega, St.Le.of ⟨rfl, rfl, rfl, rfl, rfl, rfl, trivial⟩ rfl (rfl)⟩
      · try simp only [decide_eq_true_eq, decide_eq_false_iff_not, Bool.not_eq_true', Bool.not_eq_false', beq_iff_eq, bne_iff_ne, ne_eq, beq_eq_false_iff_ne, bne_eq_false_iff_eq, Int.not_lt, Int.not_le, Nat.not_lt, Nat.not_le, Int.ofNat_lt, Int.ofNat_le, Bool.not_eq_eq_eq_not, Bool.not_true, Bool.not_false] at hc3
        have hs0 : ¬ s0 = i := fun h => hc3 (by rw [← h]; rfl)
        refine SCode.skip ?_
        show SCode _ _ _ _
        refine SCode.seqR ?_
        refine SOps.move rfl ?_
        refine SOps.move rfl ?_
        refine SOps.lenM rfl sliceB_84_21_1 ?_
        refine SOps.bin rfl rfl rfl ?_
        refine SOps.move rfl ?_
        refine SOps.caseB 43 rfl (fun hb7 => ?_) (fun hb7 => ?_)
        · try simp only [decide_eq_true_eq, decide_eq_false_iff_not, Bool.not_eq_true', Bool.not_eq_false', beq_iff_eq, bne_iff_ne, ne_eq, beq_eq_false_iff_ne, bne_eq_false_iff_eq, Int.not_lt, Int.not_le, Nat.not_lt, Nat.not_le, Int.ofNat_lt, Int.ofNat_le, Bool.not_eq_eq_eq_not, Bool.not_true, Bool.not_false] at hb7
          refine SOps.move rfl ?_
          refine SOps.un rfl rfl ?_
          refine SOps.move rfl ?_
          refine SOps.caseB 46 rfl (fun hb8 => ?_) (fun hb8 => ?_)
          · try simp only [decide_eq_true_eq, decide_eq_false_iff_not, Bool.not_eq_true', Bool.not_eq_false', beq_iff_eq, bne_iff_ne, ne_eq, beq_eq_false_iff_ne, bne_eq_false_iff_eq, Int.not_lt, Int.not_le, Nat.not_lt, Nat.not_le, Int.ofNat_lt, Int.ofNat_le, Bool.not_eq_eq_eq_not, Bool.not_true, Bool.not_false] at hb8
            refine SOps.skip rfl ?_
            refine SOps.skip rfl ?_
            refine SOps.skip rfl ?_
            refine SOps.pick rfl rfl ?_
            refine SOps.pick rfl rfl ?_
            refine SOps.nil ?_
            refine SCode.cond rfl (fun _ => ?_) (fun h => by cases h)
            refine SCode.region ?_
            refine SOps.move rfl ?_
            refine SOps.move rfl ?_
            refine SOps.move rfl ?_
            refine SOps.indexM (i) rfl rfl sliceB_84_21_1 (by first | omega | (simp only [lenB]; omega)) (by first | omega | (simp only [lenB]; omega)) ?_
            refine SOps.loadPin rfl flatB_21 ?_
            refine SOps.litF rfl sliceB_84_21_1 zeroIs_21 rfl ?_
            refine SOps.appendAcc [] [] sliceB_84_21_1 elemB_21_1_4 rfl rfl rfl SrcD.isl (by simp) (by simp [lenB]; omega) (by simp; omega) (fun kB => ?_)
            refine SOps.assign rfl ?_
            refine SOps.nil ?_
            show SCode _ _ _ _
            refine SCode.region ?_
            refine SOps.move rfl ?_
            refine SOps.addI rfl rfl (by first | omega | (simp only [lenB]; omega)) (by first | omega | (simp only [lenB]; omega)) ?_
            refine SOps.assign rfl ?_
            refine SOps.nil ?_
            first
              | (exfalso; simp only [List.getElem_cons_zero] at *; omega)
              | exact ⟨i + 1, ss0, out ++ runes r.«to» ++ [(runes s)[i]], ((fun _ : Nat => kB) kA), ⟨by first | omega | (simp; omega), by cases Nat.lt_or_ge i (runes s).length with | inl hlt => (first | (exfalso; omega) | (left; refine ⟨by omega, ?_⟩; rw [← hf2, hdc hlt, resF_cons]; clear hf2 hf hdc hdn; simp_all; done)) | inr hge => (first | (exfalso; omega) | (right; refine ⟨by omega, ?_⟩; rw [← hf2, hdn (by omega), resF_nil]; clear hf2 hf hdc hdn; simp_all; done))⟩, by omega, St.Le.of ⟨rfl, rfl, rfl, rfl, (by show some _ = some _; first | (simp only [List.map_append, List.append_assoc]; done) | (simp only [List.map_append, List.append_assoc]; rfl)), rfl, trivial⟩ rfl (by first | (simp only [List.map_append, List.append_assoc]; done) | (simp only [List.map_append, List.append_assoc]; rfl))⟩
              | exact ⟨i + 1, (s0 :: ss0), out ++ runes r.«to» ++ [(runes s)[i]], ((fun _ : Nat => kB) kA), ⟨by first | omega | (simp; omega), by cases Nat.lt_or_ge i (runes s).length with | inl hlt => (first | (exfalso; omega) | (left; refine ⟨by omega, ?_⟩; rw [← hf2, hdc hlt, resF_cons]; clear hf2 hf hdc hdn; simp_all; done)) | inr hge => (first | (exfalso; omega) | (right; refine ⟨by omega, ?_⟩; rw [← hf2, hdn (by omega), resF_nil]; clear hf2 hf hdc hdn; simp_all; done))⟩, by omega, St.Le.of ⟨rfl, rfl, rfl, rfl, (by show some _ = some _; first | (simp only [List.map_append, List.append_assoc]; done) | (simp only [List.map_append, List.append_assoc]; rfl)), rfl, trivial⟩ rfl (by first | (simp only [List.map_append, List.append_assoc]; done) | (simp only [List.map_append, List.append_assoc]; rfl))⟩
              | exact ⟨i + 1, [], out ++ runes r.«to» ++ [(runes s)[i]], ((fun _ : Nat => kB) kA), ⟨by first | omega | (simp; omega), by cases Nat.lt_or_ge i (runes s).length with | inl hlt => (first | (exfalso; omega) | (left; refine ⟨by omega, ?_⟩; rw [← hf2, hdc hlt, resF_cons]; clear hf2 hf hdc hdn; simp_all; done)) | inr hge => (first | (exfalso; omega) | (right; refine ⟨by omega, ?_⟩; rw [← hf2, hdn (by omega), resF_nil]; clear hf2 hf hdc hdn; simp_all; done))⟩, by omega, St.Le.of ⟨rfl, rfl, rfl, rfl, (by show some _ = some _; first | (simp only [List.map_append, List.append_assoc]; done) | (simp only [List.map_append, List.append_assoc]; rfl)), rfl, trivial⟩ rfl (by first | (simp only [List.map_append, List.append_assoc]; done) | (simp only [List.map_append, List.append_assoc]; rfl))⟩
              | exact ⟨i + 1, ss0, out ++ runes r.«to», kA, ⟨by first | omega | (simp; omega), by cases Nat.lt_or_ge i (runes s).length with | inl hlt => (first | (exfalso; omega) | (left; refine ⟨by omega, ?_⟩; rw [← hf2, hdc hlt, resF_cons]; clear hf2 hf hdc hdn; simp_all; done)) | inr hge => (first | (exfalso; omega) | (right; refine ⟨by omega, ?_⟩; rw [← hf2, hdn (by omega), resF_nil]; clear hf2 hf hdc hdn; simp_all; done))⟩, by omega, St.Le.of ⟨rfl, rfl, rfl, rfl, (by show some _ = some _; first | (simp only [List.map_append, List.append_assoc]; done) | (simp only [List.map_append, List.append_assoc]; rfl)), rfl, trivial⟩ rfl (by first | (simp only [List.map_append, List.append_assoc]; done) | (simp only [List.map_append, List.append_assoc]; rfl))⟩
              | exact ⟨i + 1, (s0 :: ss0), out ++ runes r.«to», kA, ⟨by first | omega | (simp; omega), by cases Nat.lt_or_ge i (runes s).length with | inl hlt => (first | (exfalso; omega) | (left; refine ⟨by omega, ?_⟩; rw [← hf2, hdc hlt, resF_cons]; clear hf2 hf hdc hdn; simp_all; done)) | inr hge => (first | (exfalso; omega) | (right; refine ⟨by omega, ?_⟩; rw [← hf2, hdn (by omega), resF_nil]; clear hf2 hf hdc hdn; simp_all; done))⟩, by omega, St.Le.of ⟨rfl, rfl, rfl, rfl, (by show some _ = some _; first | (simp only [List.map_append, List.append_assoc]; done) | (simp only [List.map_append, List.append_assoc]; rfl)), rfl, trivial⟩ rfl (by first | (simp only [List.map_append, List.append_assoc]; done) | (simp only [List.map_append, List.append_assoc]; rfl))⟩
              | exact ⟨i + 1, [], out ++ runes r.«to», kA, ⟨by first | omega | (simp; omega), by cases Nat.lt_or_ge i (runes s).length with | inl hlt => (first | (exfalso; omega) | (left; refine ⟨by omega, ?_⟩; rw [← hf2, hdc hlt, resF_cons]; clear hf2 hf hdc hdn; simp_all; done)) | inr hge => (first | (exfalso; omega) | (right; refine ⟨by omega, ?_⟩; rw [← hf2, hdn (by omega), resF_nil]; clear hf2 hf hdc hdn; simp_all; done))⟩, by omega, St.Le.of ⟨rfl, rfl, rfl, rfl, (by show some _ = some _; first | (simp only [List.map_append, List.append_assoc]; done) | (simp only [List.map_append, List.append_assoc]; rfl)), rfl, trivial⟩ rfl (by first | (simp only [List.map_append, List.append_assoc]; done) | (simp only [List.map_append, List.append_assoc]; rfl))⟩
              | exact ⟨i + 1, ss0, out ++ [(runes s)[i]], kB, ⟨by first | omega | (simp; omega), by cases Nat.lt_or_ge i (runes s).length with | inl hlt => (first | (exfalso; omega) | (left; refine ⟨by omega, ?_⟩; rw [← hf2, hdc hlt, resF_cons]; clear hf2 hf hdc hdn; simp_all; done)) | inr hge => (first | (exfalso; omega) | (right; refine ⟨by omega, ?_⟩; rw [← hf2, hdn (by omega), resF_nil]; clear hf2 hf hdc hdn; simp_all; done))⟩, by omega, St.Le.of ⟨rfl, rfl, rfl, rfl, (by show some _ = some _; first | (simp only [List.map_append, List.append_assoc]; done) | (simp only [List.map_append, List.append_assoc]; rfl)), rfl, trivial⟩ rfl (by first | (simp only [List.map_append, List.append_assoc]; done) | (simp only [List.map_append, List.append_assoc]; rfl))⟩
              | exact ⟨i + 1, (s0 :: ss0), out ++ [(runes s)[i]], kB, ⟨by first | omega | (simp; omega), by cases Nat.lt_or_ge i (runes s).length with | inl hlt => (first | (exfalso; omega) | (left; refine ⟨by omega, ?_⟩; rw [← hf2, hdc hlt, resF_cons]; clear hf2 hf hdc hdn; simp_all; done)) | inr hge => (first | (exfalso; omega) | (right; refine ⟨by omega, ?_⟩; rw [← hf2, hdn (by omega), resF_nil]; clear hf2 hf hdc hdn; simp_all; done))⟩, by omega, St.Le.of ⟨rfl, rfl, rfl, rfl, (by show some _ = some _; first | (simp only [List.map_append, List.append_assoc]; done) | (simp only [List.map_append, List.append_assoc]; rfl)), rfl, trivial⟩ rfl (by first | (simp only [List.map_append, List.append_assoc]; done) | (simp only [List.map_append, List.append_assoc]; rfl))⟩
              | exact ⟨i + 1, [], out ++ [(runes s)[i]], kB, ⟨by first | omega | (simp; omega), by cases Nat.lt_or_ge i (runes s).length with | inl hlt => (first | (exfalso; omega) | (left; refine ⟨by omega, ?_⟩; rw [← hf2, hdc hlt, resF_cons]; clear hf2 hf hdc hdn; simp_all; done)) | inr hge => (first | (exfalso; omega) | (right; refine ⟨by omega, ?_⟩; rw [← hf2, hdn (by omega), resF_nil]; clear hf2 hf hdc hdn; simp_all; done))⟩, by omega, St.Le.of ⟨rfl, rfl, rfl, rfl, (by show some _ = some _; first | (simp only [List.map_append, List.append_assoc]; done) | (simp only [List.map_append, List.append_assoc]; rfl)), rfl, trivial⟩ rfl (by first | (simp only [List.map_append, List.append_assoc]; done) | (simp only [List.map_append, List.append_assoc]; rfl))⟩
              | exact ⟨i + 1, ss0, out, k, ⟨by first | omega | (simp; omega), by cases Nat.lt_or_ge i (runes s).length with | inl hlt => (first | (exfalso; omega) | (left; refine ⟨by omega, ?_⟩; rw [← hf2, hdc hlt, resF_cons]; clear hf2 hf hdc hdn; simp_all; done)) | inr hge => (first | (exfalso; omega) | (right; refine ⟨by omega, ?_⟩; rw [← hf2, hdn (by omega), resF_nil]; clear hf2 hf hdc hdn; simp_all; done))⟩, by omega, St.Le.of ⟨rfl, rfl, rfl, rfl, rfl, rfl, trivial⟩ rfl (rfl)⟩
              | exact ⟨i + 1, (s0 :: ss0), out, k, ⟨by first | omega | (simp; omega), by cases Nat.lt_or_ge i (runes s).length with | inl hlt => (first | (exfalso; omega) | (left; refine ⟨by omega, ?_⟩; rw [← hf2, hdc hlt, resF_cons]; clear hf2 hf hdc hdn; simp_all; done)) | inr hge => (first | (exfalso; omega) | (right; refine ⟨by omega, ?_⟩; rw [← hf2, hdn (by omega), resF_nil]; clear hf2 hf hdc hdn; simp_all; done))⟩, by omega, St.Le.of ⟨rfl, rfl, rfl, rfl, rfl, rfl, trivial⟩ rfl (rfl)⟩
              | exact ⟨i + 1, [], out, k, ⟨by first | omega | (simp; omega), by cases Nat.lt_or_ge i (runes s).length with | inl hlt => (first | (exfalso; omega) | (left; refine ⟨by omega, ?_⟩; rw [← hf2, hdc hlt, resF_cons]; clear hf2 hf hdc hdn; simp_all; done)) | inr hge => (first | (exfalso; omega) | (right; refine ⟨by omega, ?_⟩; rw [← hf2, hdn (by omega), resF_nil]; clear hf2 hf hdc hdn; simp_all; done))⟩, by omega, St.Le.of ⟨rfl, rfl, rfl, rfl, rfl, rfl, trivial⟩ rfl (rfl)⟩
          · try simp only [decide_eq_true_eq, decide_eq_false_iff_not, Bool.not_eq_true', Bool.not_eq_false', beq_iff_eq, bne_iff_ne, ne_eq, beq_eq_false_iff_ne, bne_eq_false_iff_eq, Int.not_lt, Int.not_le, Nat.not_lt, Nat.not_le, Int.ofNat_lt, Int.ofNat_le, Bool.not_eq_eq_eq_not, Bool.not_true, Bool.not_false] at hb8
            refine SOps.fieldPin rfl fieldB_47_0_0 ?_
            refine SOps.loadPin rfl flatB_21 ?_
            refine SOps.bin rfl rfl rfl ?_
            refine SOps.pick rfl rfl ?_
            refine SOps.pick rfl rfl ?_
            refine SOps.nil ?_
            refine SCode.cond rfl (fun hc9 => ?_) (fun hc9 => ?_)
            · try simp only [decide_eq_true_eq, decide_eq_false_iff_not, Bool.not_eq_true', Bool.not_eq_false', beq_iff_eq, bne_iff_ne, ne_eq, beq_eq_false_iff_ne, bne_eq_false_iff_eq, Int.not_lt, Int.not_le, Nat.not_lt, Nat.not_le, Int.ofNat_lt, Int.ofNat_le, Bool.not_eq_eq_eq_not, Bool.not_true, Bool.not_false] at hc9
              refine SCode.region ?_
              refine SOps.move rfl ?_
              refine SOps.move rfl ?_
              refine SOps.move rfl ?_
              refine SOps.indexM (i) rfl rfl sliceB_84_21_1 (by first | omega | (simp only [lenB]; omega)) (by first | omega | (simp only [lenB]; omega)) ?_
              refine SOps.loadPin rfl flatB_21 ?_
              refine SOps.litF rfl sliceB_84_21_1 zeroIs_21 rfl ?_
              refine SOps.appendAcc [] [] sliceB_84_21_1 elemB_21_1_4 rfl rfl rfl SrcD.isl (by simp) (by simp [lenB]; omega) (by simp; omega) (fun kB => ?_)
              refine SOps.assign rfl ?_
              refine SOps.nil ?_
              show SCode _ _ _ _
              refine SCode.region ?_
              refine SOps.move rfl ?_
              refine SOps.addI rfl rfl (by first | omega | (simp only [lenB]; omega)) (by first | omega | (simp only [lenB]; omega)) ?_
              refine SOps.assign rfl ?_
              refine SOps.nil ?_
              first
                | (exfalso; simp only [List.getElem_cons_zero] at *; omega)
                | exact ⟨i + 1, ss0, out ++ runes r.«to» ++ [(runes s)[i]], ((fun _ : Nat => kB) kA), ⟨by first | omega | (simp; omega), by cases Nat.lt_or_ge i (runes s).length with | inl hlt => (first | (exfalso; omega) | (left; refine ⟨by omega, ?_⟩; rw [← hf2, hdc hlt, resF_cons]; clear hf2 hf hdc hdn; simp_all; done)) | inr hge => (first | (exfalso; omega) | (right; refine ⟨by omega, ?_⟩; rw [← hf2, hdn (by omega), resF_nil]; clear hf2 hf hdc hdn; simp_all; done))⟩, by omega, St.Le.of ⟨rfl, rfl, rfl, rfl, (by show some _ = some _; first | (simp only [List.map_append, List.append_assoc]; done) | (simp only [List.map_append, List.append_assoc]; rfl)), rfl, trivial⟩ rfl (by first | (simp only [List.map_append, List.append_assoc]; done) | (simp only [List.map_append, List.append_assoc]; rfl))⟩
                | exact ⟨i + 1, (s0 :: ss0), out ++ runes r.«to» ++ [(runes s)[i]], ((fun _ : Nat => kB) kA), ⟨by first | omega | (simp; omega), by cases Nat.lt_or_ge i (runes s).length with | inl hlt => (first | (exfalso; omega) | (left; refine ⟨by omega, ?_⟩; rw [← hf2, hdc hlt, resF_cons]; clear hf2 hf hdc hdn; simp_all; done)) | inr hge => (first | (exfalso; omega) | (right; refine ⟨by omega, ?_⟩; rw [← hf2, hdn (by omega), resF_nil]; clear hf2 hf hdc hdn; simp_all; done))⟩, by omega, St.Le.of ⟨rfl, rfl, rfl, rfl, (by show some _ = some _; first | (simp only [List.map_append, List.append_assoc]; done) | (simp only [List.map_append, List.append_assoc]; rfl)), rfl, trivial⟩ rfl (by first | (simp only [List.map_append, List.append_assoc]; done) | (simp only [List.map_append, List.append_assoc]; rfl))⟩
                | exact ⟨i + 1, [], out ++ runes r.«to» ++ [(runes s)[i]], ((fun _ : Nat => kB) kA), ⟨by first | omega | (simp; omega), by cases Nat.lt_or_ge i (runes s).length with | inl hlt => (first | (exfalso; omega) | (left; refine ⟨by omega, ?_⟩; rw [← hf2, hdc hlt, resF_cons]; clear hf2 hf hdc hdn; simp_all; done)) | inr hge => (first | (exfalso; omega) | (right; refine ⟨by omega, ?_⟩; rw [← hf2, hdn (by omega), resF_nil]; clear hf2 hf hdc hdn; simp_all; done))⟩, by omega, St.Le.of ⟨rfl, rfl, rfl, rfl, (by show some _ = some _; first | (simp only [List.map_append, List.append_assoc]; done) | (simp only [List.map_append, List.append_assoc]; rfl)), rfl, trivial⟩ rfl (by first | (simp only [List.map_append, List.append_assoc]; done) | (simp only [List.map_append, List.append_assoc]; rfl))⟩
                | exact ⟨i + 1, ss0, out ++ runes r.«to», kA, ⟨by first | omega | (simp; omega), by cases Nat.lt_or_ge i (runes s).length with | inl hlt => (first | (exfalso; omega) | (left; refine ⟨by omega, ?_⟩; rw [← hf2, hdc hlt, resF_cons]; clear hf2 hf hdc hdn; simp_all; done)) | inr hge => (first | (exfalso; omega) | (right; refine ⟨by omega, ?_⟩; rw [← hf2, hdn (by omega), resF_nil]; clear hf2 hf hdc hdn; simp_all; done))⟩, by omega, St.Le.of ⟨rfl, rfl, rfl, rfl, (by show some _ = some _; first | (simp only [List.map_append, List.append_assoc]; done) | (simp only [List.map_append, List.append_assoc]; rfl)), rfl, trivial⟩ rfl (by first | (simp only [List.map_append, List.append_assoc]; done) | (simp only [List.map_append, List.append_assoc]; rfl))⟩
                | exact ⟨i + 1, (s0 :: ss0), out ++ runes r.«to», kA, ⟨by first | omega | (simp; omega), by cases Nat.lt_or_ge i (runes s).length with | inl hlt => (first | (exfalso; omega) | (left; refine ⟨by omega, ?_⟩; rw [← hf2, hdc hlt, resF_cons]; clear hf2 hf hdc hdn; simp_all; done)) | inr hge => (first | (exfalso; omega) | (right; refine ⟨by omega, ?_⟩; rw [← hf2, hdn (by omega), resF_nil]; clear hf2 hf hdc hdn; simp_all; done))⟩, by omega, St.Le.of ⟨rfl, rfl, rfl, rfl, (by show some _ = some _; first | (simp only [List.map_append, List.append_assoc]; done) | (simp only [List.map_append, List.append_assoc]; rfl)), rfl, trivial⟩ rfl (by first | (simp only [List.map_append, List.append_assoc]; done) | (simp only [List.map_append, List.append_assoc]; rfl))⟩
                | exact ⟨i + 1, [], out ++ runes r.«to», kA, ⟨by first | omega | (simp; omega), by cases Nat.lt_or_ge i (runes s).length with | inl hlt => (first | (exfalso; omega) | (left; refine ⟨by omega, ?_⟩; rw [← hf2, hdc hlt, resF_cons]; clear hf2 hf hdc hdn; simp_all; done)) | inr hge => (first | (exfalso; omega) | (right; refine ⟨by omega, ?_⟩; rw [← hf2, hdn (by omega), resF_nil]; clear hf2 hf hdc hdn; simp_all; done))⟩, by omega, St.Le.of ⟨rfl, rfl, rfl, rfl, (by show some _ = some _; first | (simp only [List.map_append, List.append_assoc]; done) | (simp only [List.map_append, List.append_assoc]; rfl)), rfl, trivial⟩ rfl (by first | (simp only [List.map_append, List.append_assoc]; done) | (simp only [List.map_append, List.append_assoc]; rfl))⟩
                | exact ⟨i + 1, ss0, out ++ [(runes s)[i]], kB, ⟨by first | omega | (simp; omega), by cases Nat.lt_or_ge i (runes s).length with | inl hlt => (first | (exfalso; omega) | (left; refine ⟨by omega, ?_⟩; rw [← hf2, hdc hlt, resF_cons]; clear hf2 hf hdc hdn; simp_all; done)) | inr hge => (first | (exfalso; omega) | (right; refine ⟨by omega, ?_⟩; rw [← hf2, hdn (by omega), resF_nil]; clear hf2 hf hdc hdn; simp_all; done))⟩, by omega, St.Le.of ⟨rfl, rfl, rfl, rfl, (by show some _ = some _; first | (simp only [List.map_append, List.append_assoc]; done) | (simp only [List.map_append, List.append_assoc]; rfl)), rfl, trivial⟩ rfl (by first | (simp only [List.map_append, List.append_assoc]; done) | (simp only [List.map_append, List.append_assoc]; rfl))⟩
                | exact ⟨i + 1, (s0 :: ss0), out ++ [(runes s)[i]], kB, ⟨by first | omega | (simp; omega), by cases Nat.lt_or_ge i (runes s).length with | inl hlt => (first | (exfalso; omega) | (left; refine ⟨by omega, ?_⟩; rw [← hf2, hdc hlt, resF_cons]; clear hf2 hf hdc hdn; simp_all; done)) | inr hge => (first | (exfalso; omega) | (right; refine ⟨by omega, ?_⟩; rw [← hf2, hdn (by omega), resF_nil]; clear hf2 hf hdc hdn; simp_all; done))⟩, by omega, St.Le.of ⟨rfl, rfl, rfl, rfl, (by show some _ = some _; first | (simp only [List.map_append, List.append_assoc]; done) | (simp only [List.map_append, List.append_assoc]; rfl)), rfl, trivial⟩ rfl (by first | (simp only [List.map_append, List.append_assoc]; done) | (simp only [List.map_append, List.append_assoc]; rfl))⟩
                | exact ⟨i + 1, [], out ++ [(runes s)[i]], kB, ⟨by first | omega | (simp; omega), by cases Nat.lt_or_ge i (runes s).length with | inl hlt => (first | (exfalso; omega) | (left; refine ⟨by omega, ?_⟩; rw [← hf2, hdc hlt, resF_cons]; clear hf2 hf hdc hdn; simp_all; done)) | inr hge => (first | (exfalso; omega) | (right; refine ⟨by omega, ?_⟩; rw [← hf2, hdn (by omega), resF_nil]; clear hf2 hf hdc hdn; simp_all; done))⟩, by omega, St.Le.of ⟨rfl, rfl, rfl, rfl, (by show some _ = some _; first | (simp only [List.map_append, List.append_assoc]; done) | (simp only [List.map_append, List.append_assoc]; rfl)), rfl, trivial⟩ rfl (by first | (simp only [List.map_append, List.append_assoc]; done) | (simp only [List.map_append, List.append_assoc]; rfl))⟩
                | exact ⟨i + 1, ss0, out, k, ⟨by first | omega | (simp; omega), by cases Nat.lt_or_ge i (runes s).length with | inl hlt => (first | (exfalso; omega) | (left; refine ⟨by omega, ?_⟩; rw [← hf2, hdc hlt, resF_cons]; clear hf2 hf hdc hdn; simp_all; done)) | inr hge => (first | (exfalso; omega) | (right; refine ⟨by omega, ?_⟩; rw [← hf2, hdn (by omega), resF_nil]; clear hf2 hf hdc hdn; simp_all; done))⟩, by omega, St.Le.of ⟨rfl, rfl, rfl, rfl, rfl, rfl, trivial⟩ rfl (rfl)⟩
                | exact ⟨i + 1, (s0 :: ss0), out, k, ⟨by first | omega | (simp; omega), by cases Nat.lt_or_ge i (runes s).length with | inl hlt => (first | (exfalso; omega) | (left; refine ⟨by omega, ?_⟩; rw [← hf2, hdc hlt, resF_cons]; clear hf2 hf hdc hdn; simp_all; done)) | inr hge => (first | (exfalso; omega) | (right; refine ⟨by omega, ?_⟩; rw [← hf2, hdn (by omega), resF_nil]; clear hf2 hf hdc hdn; simp_all; done))⟩, by omega, St.Le.of ⟨rfl, rfl, rfl, rfl, rfl, rfl, trivial⟩ rfl (rfl)⟩
                | exact ⟨i + 1, [], out, k, ⟨by first | omega | (simp; omega), by cases Nat.lt_or_ge i (runes s).length with | inl hlt => (first | (exfalso; omega) | (left; refine ⟨by omega, ?_⟩; rw [← hf2, hdc hlt, resF_cons]; clear hf2 hf hdc hdn; simp_all; done)) | inr hge => (first | (exfalso; omega) | (right; refine ⟨by omega, ?_⟩; rw [← hf2, hdn (by omega), resF_nil]; clear hf2 hf hdc hdn; simp_all; done))⟩, by omega, St.Le.of ⟨rfl, rfl, rfl, rfl, rfl, rfl, trivial⟩ rfl (rfl)⟩
            · try simp only [decide_eq_true_eq, decide_eq_false_iff_not, Bool.not_eq_true', Bool.not_eq_false', beq_iff_eq, bne_iff_ne, ne_eq, beq_eq_false_iff_ne, bne_eq_false_iff_eq, Int.not_lt, Int.not_le, Nat.not_lt, Nat.not_le, Int.ofNat_lt, Int.ofNat_le, Bool.not_eq_eq_eq_not, Bool.not_true, Bool.not_false] at hc9
              refine SCode.skip ?_
              show SCode _ _ _ _
              refine SCode.region ?_
              refine SOps.move rfl ?_
              refine SOps.addI rfl rfl (by first | omega | (simp only [lenB]; omega)) (by first | omega | (simp only [lenB]; omega)) ?_
              refine SOps.assign rfl ?_
              refine SOps.nil ?_
              first
                | (exfalso; simp only [List.getElem_cons_zero] at *; omega)
                | exact ⟨i + 1, ss0, out ++ runes r.«to» ++ [(runes s)[i]], ((fun _ : Nat => kB) kA), ⟨by first | omega | (simp; omega), by cases Nat.lt_or_ge i (runes s).length with | inl hlt => (first | (exfalso; omega) | (left; refine ⟨by omega, ?_⟩; rw [← hf2, hdc hlt, resF_cons]; clear hf2 hf hdc hdn; simp_all; done)) | inr hge => (first | (exfalso; omega) | (right; refine ⟨by omega, ?_⟩; rw [← hf2, hdn (by omega), resF_nil]; clear hf2 hf hdc hdn; simp_all; done))⟩, by omega, St.Le.of ⟨rfl, rfl, rfl, rfl, (by show some _ = some _; first | (simp only [List.map_append, List.append_assoc]; done) | (simp only [List.map_append, List.append_assoc]; rfl)), rfl, trivial⟩ rfl (by first | (simp only [List.map_append, List.append_assoc]; done) | (simp only [List.map_append, List.append_assoc]; rfl))⟩
                | exact ⟨i + 1, (s0 :: ss0), out ++ runes r.«to» ++ [(runes s)[i]], ((fun _ : Nat => kB) kA), ⟨by first | omega | (simp; omega), by cases Nat.lt_or_ge i (runes s).length with | inl hlt => (first | (exfalso; omega) | (left; refine ⟨by omega, ?_⟩; rw [← hf2, hdc hlt, resF_cons]; clear hf2 hf hdc hdn; simp_all; done)) | inr hge => (first | (exfalso; omega) | (right; refine ⟨by omega, ?_⟩; rw [← hf2, hdn (by omega), resF_nil]; clear hf2 hf hdc hdn; simp_all; done))⟩, by omega, St.Le.of ⟨rfl, rfl, rfl, rfl, (by show some _ = some _; first | (simp only [List.map_append, List.append_assoc]; done) | (simp only [List.map_append, List.append_assoc]; rfl)), rfl, trivial⟩ rfl (by first | (simp only [List.map_append, List.append_assoc]; done) | (simp only [List.map_append, List.append_assoc]; rfl))⟩
                | exact ⟨i + 1, [], out ++ runes r.«to» ++ [(runes s)[i]], ((fun _ : Nat => kB) kA), ⟨by first | omega | (simp; omega), by cases Nat.lt_or_ge i (runes s).length with | inl hlt => (first | (exfalso; omega) | (left; refine ⟨by omega, ?_⟩; rw [← hf2, hdc hlt, resF_cons]; clear hf2 hf hdc hdn; simp_all; done)) | inr hge => (first | (exfalso; omega) | (right; refine ⟨by omega, ?_⟩; rw [← hf2, hdn (by omega), resF_nil]; clear hf2 hf hdc hdn; simp_all; done))⟩, by omega, St.Le.of ⟨rfl, rfl, rfl, rfl, (by show some _ = some _; first | (simp only [List.map_append, List.append_assoc]; done) | (simp only [List.map_append, List.append_assoc]; rfl)), rfl, trivial⟩ rfl (by first | (simp only [List.map_append, List.append_assoc]; done) | (simp only [List.map_append, List.append_assoc]; rfl))⟩
                | exact ⟨i + 1, ss0, out ++ runes r.«to», kA, ⟨by first | omega | (simp; omega), by cases Nat.lt_or_ge i (runes s).length with | inl hlt => (first | (exfalso; omega) | (left; refine ⟨by omega, ?_⟩; rw [← hf2, hdc hlt, resF_cons]; clear hf2 hf hdc hdn; simp_all; done)) | inr hge => (first | (exfalso; omega) | (right; refine ⟨by omega, ?_⟩; rw [← hf2, hdn (by omega), resF_nil]; clear hf2 hf hdc hdn; simp_all; done))⟩, by omega, St.Le.of ⟨rfl, rfl, rfl, rfl, (by show some _ = some _; first | (simp only [List.map_append, List.append_assoc]; done) | (simp only [List.map_append, List.append_assoc]; rfl)), rfl, trivial⟩ rfl (by first | (simp only [List.map_append, List.append_assoc]; done) | (simp only [List.map_append, List.append_assoc]; rfl))⟩
                | exact ⟨i + 1, (s0 :: ss0), out ++ runes r.«to», kA, ⟨by first | omega | (simp; omega), by cases Nat.lt_or_ge i (runes s).length with | inl hlt => (first | (exfalso; omega) | (left; refine ⟨by omega, ?_⟩; rw [← hf2, hdc hlt, resF_cons]; clear hf2 hf hdc hdn; simp_all; done)) | inr hge => (first | (exfalso; omega) | (right; refine ⟨by omega, ?_⟩; rw [← hf2, hdn (by omega), resF_nil]; clear hf2 hf hdc hdn; simp_all; done))⟩, by omega, St.Le.of ⟨rfl, rfl, rfl, rfl, (by show some _ = some _; first | (simp only [List.map_append, List.append_assoc]; done) | (simp only [List.map_append, List.append_assoc]; rfl)), rfl, trivial⟩ rfl (by first | (simp only [List.map_append, List.append_assoc]; done) | (simp only [List.map_append, List.append_assoc]; rfl))⟩
                | exact ⟨i + 1, [], out ++ runes r.«to», kA, ⟨by first | omega | (simp; omega), by cases Nat.lt_or_ge i (runes s).length with | inl hlt => (first | (exfalso; omega) | (left; refine ⟨by omega, ?_⟩; rw [← hf2, hdc hlt, resF_cons]; clear hf2 hf hdc hdn; simp_all; done)) | inr hge => (first | (exfalso; omega) | (right; refine ⟨by omega, ?_⟩; rw [← hf2, hdn (by omega), resF_nil]; clear hf2 hf hdc hdn; simp_all; done))⟩, by omega, St.Le.of ⟨rfl, rfl, rfl, rfl, (by show some _ = some _; first | (simp only [List.map_append, List.append_assoc]; done) | (simp only [List.map_append, List.append_assoc]; rfl)), rfl, trivial⟩ rfl (by first | (simp only [List.map_append, List.append_assoc]; done) | (simp only [List.map_append, List.append_assoc]; rfl))⟩
                | exact ⟨i + 1, ss0, out ++ [(runes s)[i]], kB, ⟨by first | omega | (simp; omega), by cases Nat.lt_or_ge i (runes s).length with | inl hlt => (first | (exfalso; omega) | (left; refine ⟨by omega, ?_⟩; rw [← hf2, hdc hlt, resF_cons]; clear hf2 hf hdc hdn; simp_all; done)) | inr hge => (first | (exfalso; omega) | (right; refine ⟨by omega, ?_⟩; rw [← hf2, hdn (by omega), resF_nil]; clear hf2 hf hdc hdn; simp_all; done))⟩, by omega, St.Le.of ⟨rfl, rfl, rfl, rfl, (by show some _ = some _; first | (simp only [List.map_append, List.append_assoc]; done) | (simp only [List.map_append, List.append_assoc]; rfl)), rfl, trivial⟩ rfl (by first | (simp only [List.map_append, List.append_assoc]; done) | (simp only [List.map_append, List.append_assoc]; rfl))⟩
                | exact ⟨i + 1, (s0 :: ss0), out ++ [(runes s)[i]], kB, ⟨by first | omega | (simp; omega), by cases Nat.lt_or_ge i (runes s).length with | inl hlt => (first | (exfalso; omega) | (left; refine ⟨by omega, ?_⟩; rw [← hf2, hdc hlt, resF_cons]; clear hf2 hf hdc hdn; simp_all; done)) | inr hge => (first | (exfalso; omega) | (right; refine ⟨by omega, ?_⟩; rw [← hf2, hdn (by omega), resF_nil]; clear hf2 hf hdc hdn; simp_all; done))⟩, by omega, St.Le.of ⟨rfl, rfl, rfl, rfl, (by show some _ = some _; first | (simp only [List.map_append, List.append_assoc]; done) | (simp only [List.map_append, List.append_assoc]; rfl)), rfl, trivial⟩ rfl (by first | (simp only [List.map_append, List.append_assoc]; done) | (simp only [List.map_append, List.append_assoc]; rfl))⟩
                | exact ⟨i + 1, [], out ++ [(runes s)[i]], kB, ⟨by first | omega | (simp; omega), by cases Nat.lt_or_ge i (runes s).length with | inl hlt => (first | (exfalso; omega) | (left; refine ⟨by omega, ?_⟩; rw [← hf2, hdc hlt, resF_cons]; clear hf2 hf hdc hdn; simp_all; done)) | inr hge => (first | (exfalso; omega) | (right; refine ⟨by omega, ?_⟩; rw [← hf2, hdn (by omega), resF_nil]; clear hf2 hf hdc hdn; simp_all; done))⟩, by omega, St.Le.of ⟨rfl, rfl, rfl, rfl, (by show some _ = some _; first | (simp only [List.map_append, List.append_assoc]; done) | (simp only [List.map_append, List.append_assoc]; rfl)), rfl, trivial⟩ rfl (by first | (simp only [List.map_append, List.append_assoc]; done) | (simp only [List.map_append, List.append_assoc]; rfl))⟩
                | exact ⟨i + 1, ss0, out, k, ⟨by first | omega | (simp; omega), by cases Nat.lt_or_ge i (runes s).length with | inl hlt => (first | (exfalso; omega) | (left; refine ⟨by omega, ?_⟩; rw [← hf2, hdc hlt, resF_cons]; clear hf2 hf hdc hdn; simp_all; done)) | inr hge => (first | (exfalso; omega) | (right; refine ⟨by omega, ?_⟩; rw [← hf2, hdn (by omega), resF_nil]; clear hf2 hf hdc hdn; simp_all; done))⟩, by omega, St.Le.of ⟨rfl, rfl, rfl, rfl, rfl, rfl, trivial⟩ rfl (rfl)⟩
                | exact ⟨i + 1, (s0 :: ss0), out, k, ⟨by first | omega | (simp; omega), by cases Nat.lt_or_ge i (runes s).length with | inl hlt => (first | (exfalso; omega) | (left; refine ⟨by omega, ?_⟩; rw [← hf2, hdc hlt, resF_cons]; clear hf2 hf hdc hdn; simp_all; done)) | inr hge => (first | (exfalso; omega) | (right; refine ⟨by omega, ?_⟩; rw [← hf2, hdn (by omega), resF_nil]; clear hf2 hf hdc hdn; simp_all; done))⟩, by omega, St.Le.of ⟨rfl, rfl, rfl, rfl, rfl, rfl, trivial⟩ rfl (rfl)⟩
                | exact ⟨i + 1, [], out, k, ⟨by first | omega | (simp; omega), by cases Nat.lt_or_ge i (runes s).length with | inl hlt => (first | (exfalso; omega) | (left; refine ⟨by omega, ?_⟩; rw [← hf2, hdc hlt, resF_cons]; clear hf2 hf hdc hdn; simp_all; done)) | inr hge => (first | (exfalso; omega) | (right; refine ⟨by omega, ?_⟩; rw [← hf2, hdn (by omega), resF_nil]; clear hf2 hf hdc hdn; simp_all; done))⟩, by omega, St.Le.of ⟨rfl, rfl, rfl, rfl, rfl, rfl, trivial⟩ rfl (rfl)⟩
        · try simp only [decide_eq_true_eq, decide_eq_false_iff_not, Bool.not_eq_true', Bool.not_eq_false', beq_iff_eq, bne_iff_ne, ne_eq, beq_eq_false_iff_ne, bne_eq_false_iff_eq, Int.not_lt, Int.not_le, Nat.not_lt, Nat.not_le, Int.ofNat_lt, Int.ofNat_le, Bool.not_eq_eq_eq_not, Bool.not_true, Bool.not_false] at hb7
          refine SOps.skip rfl ?_
          refine SOps.skip rfl ?_
          refine SOps.skip rfl ?_
          refine SOps.skip rfl ?_
          refine SOps.skip rfl ?_
          refine SOps.skip rfl ?_
          refine SOps.skip rfl ?_
          refine SOps.pick rfl rfl ?_
          refine SOps.nil ?_
          refine SCode.cond rfl (fun h => by cases h) (fun _ => ?_)
          refine SCode.skip ?_
          show SCode _ _ _ _
          refine SCode.region ?_
          refine SOps.move rfl ?_
          refine SOps.addI rfl rfl (by first | omega | (simp only [lenB]; omega)) (by first | omega | (simp only [lenB]; omega)) ?_
          refine SOps.assign rfl ?_
          refine SOps.nil ?_
          first
            | (exfalso; simp only [List.getElem_cons_zero] at *; omega)
            | exact ⟨i + 1, ss0, out ++ runes r.«to» ++ [(runes s)[i]], ((fun _ : Nat => kB) kA), ⟨by first | omega | (simp; omega), by cases Nat.lt_or_ge i (runes s).length with | inl hlt => (first | (exfalso; omega) | (left; refine ⟨by omega, ?_⟩; rw [← hf2, hdc hlt, resF_cons]; clear hf2 hf hdc hdn; simp_all; done)) | inr hge => (first | (exfalso; omega) | (right; refine ⟨by omega, ?_⟩; rw [← hf2, hdn (by omega), resF_nil]; clear hf2 hf hdc hdn; simp_all; done))⟩, by omega, St.Le.of ⟨rfl, rfl, rfl, rfl, (by show some _ = some _; first | (simp only [List.map_append, List.append_assoc]; done) | (simp only [List.map_append, List.append_assoc]; rfl)), rfl, trivial⟩ rfl (by first | (simp only [List.map_append, List.append_assoc]; done) | (simp only [List.map_append, List.append_assoc]; rfl))⟩
            | exact ⟨i + 1, (s0 :: ss0), out ++ runes r.«to» ++ [(runes s)[i]], ((fun _ : Nat => kB) kA), ⟨by first | omega | (simp; omega), by cases Nat.lt_or_ge i (runes s).length with | inl hlt => (first | (exfalso; omega) | (left; refine ⟨by omega, ?_⟩; rw [← hf2, hdc hlt, resF_cons]; clear hf2 hf hdc hdn; simp_all; done)) | inr hge => (first | (exfalso; omega) | (right; refine ⟨by omega, ?_⟩; rw [← hf2, hdn (by omega), resF_nil]; clear hf2 hf hdc hdn; simp_all; done))⟩, by omega, St.Le.of ⟨rfl, rfl, rfl, rfl, (by show some _ = some _; first | (simp only [List.map_append, List.append_assoc]; done) | (simp only [List.map_append, List.append_assoc]; rfl)), rfl, trivial⟩ rfl (by first | (simp only [List.map_append, List.append_assoc]; done) | (simp only [List.map_append, List.append_assoc]; rfl))⟩
            | exact ⟨i + 1, [], out ++ runes r.«to» ++ [(runes s)[i]], ((fun _ : Nat => kB) kA), ⟨by first | omega | (simp; omega), by cases Nat.lt_or_ge i (runes s).length with | inl hlt => (first | (exfalso; omega) | (left; refine ⟨by omega, ?_⟩; rw [← hf2, hdc hlt, resF_cons]; clear hf2 hf hdc hdn; simp_all; done)) | inr hge => (first | (exfalso; omega) | (right; refine ⟨by omega, ?_⟩; rw [← hf2, hdn (by omega), resF_nil]; clear hf2 hf hdc hdn; simp_all; done))⟩, by omega, St.Le.of ⟨rfl, rfl, rfl, rfl, (by show some _ = some _; first | (simp only [List.map_append, List.append_assoc]; done) | (simp only [List.map_append, List.append_assoc]; rfl)), rfl, trivial⟩ rfl (by first | (simp only [List.map_append, List.append_assoc]; done) | (simp only [List.map_append, List.append_assoc]; rfl))⟩
            | exact ⟨i + 1, ss0, out ++ runes r.«to», kA, ⟨by first | omega | (simp; omega), by cases Nat.lt_or_ge i (runes s).length with | inl hlt => (first | (exfalso; omega) | (left; refine ⟨by omega, ?_⟩; rw [← hf2, hdc hlt, resF_cons]; clear hf2 hf hdc hdn; simp_all; done)) | inr hge => (first | (exfalso; omega) | (right; refine ⟨by omega, ?_⟩; rw [← hf2, hdn (by omega), resF_nil]; clear hf2 hf hdc hdn; simp_all; done))⟩, by omega, St.Le.of ⟨rfl, rfl, rfl, rfl, (by show some _ = some _; first | (simp only [List.map_append, List.append_assoc]; done) | (simp only [List.map_append, List.append_assoc]; rfl)), rfl, trivial⟩ rfl (by first | (simp only [List.map_append, List.append_assoc]; done) | (simp only [List.map_append, List.append_assoc]; rfl))⟩
            | exact ⟨i + 1, (s0 :: ss0), out ++ runes r.«to», kA, ⟨by first | omega | (simp; omega), by cases Nat.lt_or_ge i (runes s).length with | inl hlt => (first | (exfalso; omega) | (left; refine ⟨by omega, ?_⟩; rw [← hf2, hdc hlt, resF_cons]; clear hf2 hf hdc hdn; simp_all; done)) | inr hge => (first | (exfalso; omega) | (right; refine ⟨by omega, ?_⟩; rw [← hf2, hdn (by omega), resF_nil]; clear hf2 hf hdc hdn; simp_all; done))⟩, by omega, St.Le.of ⟨rfl, rfl, rfl, rfl, (by show some _ = some _; first | (simp only [List.map_append, List.append_assoc]; done) | (simp only [List.map_append, List.append_assoc]; rfl)), rfl, trivial⟩ rfl (by first | (simp only [List.map_append, List.append_assoc]; done) | (simp only [List.map_append, List.append_assoc]; rfl))⟩
            | exact ⟨i + 1, [], out ++ runes r.«to», kA, ⟨by first | omega | (simp; omega), by cases Nat.lt_or_ge i (runes s).length with | inl hlt => (first | (exfalso; omega) | (left; refine ⟨by omega, ?_⟩; rw [← hf2, hdc hlt, resF_cons]; clear hf2 hf hdc hdn; simp_all; done)) | inr hge => (first | (exfalso; omega) | (right; refine ⟨by omega, ?_⟩; rw [← hf2, hdn (by omega), resF_nil]; clear hf2 hf hdc hdn; simp_all; done))⟩, by omega, St.Le.of ⟨rfl, rfl, rfl, rfl, (by show some _ = some _; first | (simp only [List.map_append, List.append_assoc]; done) | (simp only [List.map_append, List.append_assoc]; rfl)), rfl, trivial⟩ rfl (by first | (simp only [List.map_append, List.append_assoc]; done) | (simp only [List.map_append, List.append_assoc]; rfl))⟩
            | exact ⟨i + 1, ss0, out ++ [(runes s)[i]], kB, ⟨by first | omega | (simp; omega), by cases Nat.lt_or_ge i (runes s).length with | inl hlt => (first | (exfalso; omega) | (left; refine ⟨by omega, ?_⟩; rw [← hf2, hdc hlt, resF_cons]; clear hf2 hf hdc hdn; simp_all; done)) | inr hge => (first | (exfalso; omega) | (right; refine ⟨by omega, ?_⟩; rw [← hf2, hdn (by omega), resF_nil]; clear hf2 hf hdc hdn; simp_all; done))⟩, by omega, St.Le.of ⟨rfl, rfl, rfl, rfl, (by show some _ = some _; first | (simp only [List.map_append, List.append_assoc]; done) | (simp only [List.map_append, List.append_assoc]; rfl)), rfl, trivial⟩ rfl (by first | (simp only [List.map_append, List.append_assoc]; done) | (simp only [List.map_append, List.append_assoc]; rfl))⟩
            | exact ⟨i + 1, (s0 :: ss0), out ++ [(runes s)[i]], kB, ⟨by first | omega | (simp; omega), by cases Nat.lt_or_ge i (runes s).length with | inl hlt => (first | (exfalso; omega) | (left; refine ⟨by omega, ?_⟩; rw [← hf2, hdc hlt, resF_cons]; clear hf2 hf hdc hdn; simp_all; done)) | inr hge => (first | (exfalso; omega) | (right; refine ⟨by omega, ?_⟩; rw [← hf2, hdn (by omega), resF_nil]; clear hf2 hf hdc hdn; simp_all; done))⟩, by omega, St.Le.of ⟨rfl, rfl, rfl, rfl, (by show some _ = some _; first | (simp only [List.map_append, List.append_assoc]; done) | (simp only [List.map_append, List.append_assoc]; rfl)), rfl, trivial⟩ rfl (by first | (simp only [List.map_append, List.append_assoc]; done) | (simp only [List.map_append, List.append_assoc]; rfl))⟩
            | exact ⟨i + 1, [], out ++ [(runes s)[i]], kB, ⟨by first | omega | (simp; omega), by cases Nat.lt_or_ge i (runes s).length with | inl hlt => (first | (exfalso; omega) | (left; refine ⟨by omega, ?_⟩; rw [← hf2, hdc hlt, resF_cons]; clear hf2 hf hdc hdn; simp_all; done)) | inr hge => (first | (exfalso; omega) | (right; refine ⟨by omega, ?_⟩; rw [← hf2, hdn (by omega), resF_nil]; clear hf2 hf hdc hdn; simp_all; done))⟩, by omega, St.Le.of ⟨rfl, rfl, rfl, rfl, (by show some _ = some _; first | (simp only [List.map_append, List.append_assoc]; done) | (simp only [List.map_append, List.append_assoc]; rfl)), rfl, trivial⟩ rfl (by first | (simp only [List.map_append, List.append_assoc]; done) | (simp only [List.map_append, List.append_assoc]; rfl))⟩
            | exact ⟨i + 1, ss0, out, k, ⟨by first | omega | (simp; omega), by cases Nat.lt_or_ge i (runes s).length with | inl hlt => (first | (exfalso; omega) | (left; refine ⟨by omega, ?_⟩; rw [← hf2, hdc hlt, resF_cons]; clear hf2 hf hdc hdn; simp_all; done)) | inr hge => (first | (exfalso; omega) | (right; refine ⟨by omega, ?_⟩; rw [← hf2, hdn (by omega), resF_nil]; clear hf2 hf hdc hdn; simp_all; done))⟩, by omega, St.Le.of ⟨rfl, rfl, rfl, rfl, rfl, rfl, trivial⟩ rfl (rfl)⟩
            | exact ⟨i + 1, (s0 :: ss0), out, k, ⟨by first | omega | (simp; omega), by cases Nat.lt_or_ge i (runes s).length with | inl hlt => (first | (exfalso; omega) | (left; refine ⟨by omega, ?_⟩; rw [← hf2, hdc hlt, resF_cons]; clear hf2 hf hdc hdn; simp_all; done)) | inr hge => (first | (exfalso; omega) | (right; refine ⟨by omega, ?_⟩; rw [← hf2, hdn (by omega), resF_nil]; clear hf2 hf hdc hdn; simp_all; done))⟩, by omega, St.Le.of ⟨rfl, rfl, rfl, rfl, rfl, rfl, trivial⟩ rfl (rfl)⟩
            | exact ⟨i + 1, [], out, k, ⟨by first | omega | (simp; omega), by cases Nat.lt_or_ge i (runes s).length with | inl hlt => (first | (exfalso; omega) | (left; refine ⟨by omega, ?_⟩; rw [← hf2, hdc hlt, resF_cons]; clear hf2 hf hdc hdn; simp_all; done)) | inr hge => (first | (exfalso; omega) | (right; refine ⟨by omega, ?_⟩; rw [← hf2, hdn (by omega), resF_nil]; clear hf2 hf hdc hdn; simp_all; done))⟩, by omega, St.Le.of ⟨rfl, rfl, rfl, rfl, rfl, rfl, trivial⟩ rfl (rfl)⟩
    · try simp only [decide_eq_true_eq, decide_eq_false_iff_not, Bool.not_eq_true', Bool.not_eq_false', beq_iff_eq, bne_iff_ne, ne_eq, beq_eq_false_iff_ne, bne_eq_false_iff_eq, Int.not_lt, Int.not_le, Nat.not_lt, Nat.not_le, Int.ofNat_lt, Int.ofNat_le, Bool.not_eq_eq_eq_not, Bool.not_true, Bool.not_false] at hb2
      obtain rfl : ss = [] := by cases ss with | nil => rfl | cons x y => (simp only [List.length_cons] at hb2; omega)
      have ss0 : List Nat := []
      refine SOps.skip rfl ?_
      refine SOps.skip rfl ?_
      refine SOps.skip rfl ?_
      refine SOps.skip rfl ?_
      refine SOps.skip rfl ?_
      refine SOps.pick rfl rfl ?_
      refine SOps.assign rfl ?_
      refine SOps.nil ?_
      refine SCode.seq ?_
      refine SCode.seqR ?_
      refine SOps.move rfl ?_
      refine SOps.nil ?_
      refine SCode.cond rfl (fun h => by cases h) (fun _ => ?_)
      refine SCode.skip ?_
      show SCode _ _ _ _
      refine SCode.seqR ?_
      refine SOps.move rfl ?_
      refine SOps.move rfl ?_
      refine SOps.lenM rfl sliceB_84_21_1 ?_
      refine SOps.bin rfl rfl rfl ?_
      refine SOps.move rfl ?_
      refine SOps.caseB 43 rfl (fun hb10 => ?_) (fun hb10 => ?_)
      · try simp only [decide_eq_true_eq, decide_eq_false_iff_not, Bool.not_eq_true', Bool.not_eq_false', beq_iff_eq, bne_iff_ne, ne_eq, beq_eq_false_iff_ne, bne_eq_false_iff_eq, Int.not_lt, Int.not_le, Nat.not_lt, Nat.not_le, Int.ofNat_lt, Int.ofNat_le, Bool.not_eq_eq_eq_not, Bool.not_true, Bool.not_false] at hb10
        refine SOps.move rfl ?_
        refine SOps.un rfl rfl ?_
        refine SOps.move rfl ?_
        refine SOps.skip rfl ?_
        refine SOps.skip rfl ?_
        refine SOps.skip rfl ?_
        refine SOps.pick rfl rfl ?_
        refine SOps.pick rfl rfl ?_
        refine SOps.nil ?_
        refine SCode.cond rfl (fun _ => ?_) (fun h => by cases h)
        refine SCode.region ?_
        refine SOps.move rfl ?_
        refine SOps.move rfl ?_
        refine SOps.move rfl ?_
        refine SOps.indexM (i) rfl rfl sliceB_84_21_1 (by first | omega | (simp only [lenB]; omega)) (by first | omega | (simp only [lenB]; omega)) ?_
        refine SOps.loadPin rfl flatB_21 ?_
        refine SOps.litF rfl sliceB_84_21_1 zeroIs_21 rfl ?_
        refine SOps.appendAcc [] [] sliceB_84_21_1 elemB_21_1_4 rfl rfl rfl SrcD.isl (by simp) (by simp [lenB]; omega) (by simp; omega) (fun kB => ?_)
        refine SOps.assign rfl ?_
        refine SOps.nil ?_
        show SCode _ _ _ _
        refine SCode.region ?_
        refine SOps.move rfl ?_
        refine SOps.addI rfl rfl (by first | omega | (simp only [lenB]; omega)) (by first | omega | (simp only [lenB]; omega)) ?_
        refine SOps.assign rfl ?_
        refine SOps.nil ?_
        first
          | (exfalso; simp only [List.getElem_cons_zero] at *; omega)
          | exact ⟨i + 1, ss0, out ++ runes r.«to» ++ [(runes s)[i]], ((fun _ : Nat => kB) kA), ⟨by first | omega | (simp; omega), by cases Nat.lt_or_ge i (runes s).length with | inl hlt => (first | (exfalso; omega) | (left; refine ⟨by omega, ?_⟩; rw [← hf2, hdc hlt, resF_cons]; clear hf2 hf hdc hdn; simp_all; done)) | inr hge => (first | (exfalso; omega) | (right; refine ⟨by omega, ?_⟩; rw [← hf2, hdn (by omega), resF_nil]; clear hf2 hf hdc hdn; simp_all; done))⟩, by omega, St.Le.of ⟨rfl, rfl, rfl, rfl, (by show some _ = some _; first | (simp only [List.map_append, List.append_assoc]; done) | (simp only [List.map_append, List.append_assoc]; rfl)), rfl, trivial⟩ rfl (by first | (simp only [List.map_append, List.append_assoc]; done) | (simp only [List.map_append, List.append_assoc]; rfl))⟩
          | exact ⟨i + 1, (s0 :: ss0), out ++ runes r.«to» ++ [(runes s)[i]], ((fun _ : Nat => kB) kA), ⟨by first | omega | (simp; omega), by cases Nat.lt_or_ge i (runes s).length with | inl hlt => (first | (exfalso; omega) | (left; refine ⟨by omega, ?_⟩; rw [← hf2, hdc hlt, resF_cons]; clear hf2 hf hdc hdn; simp_all; done)) | inr hge => (first | (exfalso; omega) | (right; refine ⟨by omega, ?_⟩; rw [← hf2, hdn (by omega), resF_nil]; clear hf2 hf hdc hdn; simp_all; done))⟩, by omega, St.Le.of ⟨rfl, rfl, rfl, rfl, (by show some _ = some _; first | (simp only [List.map_append, List.append_assoc]; done) | (simp only [List.map_append, List.append_assoc]; rfl)), rfl, trivial⟩ rfl (by first | (simp only [List.map_append, List.append_assoc]; done) | (simp only [List.map_append, List.append_assoc]; rfl))⟩
          | exact ⟨i + 1, [], out ++ runes r.«to» ++ [(runes s)[i]], ((fun _ : Nat => kB) kA), ⟨by first | omega | (simp; omega), by cases Nat.lt_or_ge i (runes s).length with | inl hlt => (first | (exfalso; omega) | (left; refine ⟨by omega, ?_⟩; rw [← hf2, hdc hlt, resF_cons]; clear hf2 hf hdc hdn; simp_all; done)) | inr hge => (first | (exfalso; omega) | (right; refine ⟨by omega, ?_⟩; rw [← hf2, hdn (by omega), resF_nil]; clear hf2 hf hdc hdn; simp_all; done))⟩, by omega, St.Le.of ⟨rfl, rfl, rfl, rfl, (by show some _ = some _; first | (simp only [List.map_append, List.append_assoc]; done) | (simp only [List.map_append, List.append_assoc]; rfl)), rfl, trivial⟩ rfl (by first | (simp only [List.map_append, List.append_assoc]; done) | (simp only [List.map_append, List.append_assoc]; rfl))⟩
          | exact ⟨i + 1, ss0, out ++ runes r.«to», kA, ⟨by first | omega | (simp; omega), by cases Nat.lt_or_ge i (runes s).length with | inl hlt => (first | (exfalso; omega) | (left; refine ⟨by omega, ?_⟩; rw [← hf2, hdc hlt, resF_cons]; clear hf2 hf hdc hdn; simp_all; done)) | inr hge => (first | (exfalso; omega) | (right; refine ⟨by omega, ?_⟩; rw [← hf2, hdn (by omega), resF_nil]; clear hf2 hf hdc hdn; simp_all; done))⟩, by omega, St.Le.of ⟨rfl, rfl, rfl, rfl, (by show some _ = some _; first | (simp only [List.map_append, List.append_assoc]; done) | (simp only [List.map_append, List.append_assoc]; rfl)), rfl, trivial⟩ rfl (by first | (simp only [List.map_append, List.append_assoc]; done) | (simp only [List.map_append, List.append_assoc]; rfl))⟩
          | exact ⟨i + 1, (s0 :: ss0), out ++ runes r.«to», kA, ⟨by first | omega | (simp; omega), by cases Nat.lt_or_ge i (runes s).length with | inl hlt => (first | (exfalso; omega) | (left; refine ⟨by omega, ?_⟩; rw [← hf2, hdc hlt, resF_cons]; clear hf2 hf hdc hdn; simp_all; done)) | inr hge => (first | (exfalso; omega) | (right; refine ⟨by omega, ?_⟩; rw [← hf2, hdn (by omega), resF_nil]; clear hf2 hf hdc hdn; simp_all; done))⟩, by omega, St.Le.of ⟨rfl, rfl, rfl, rfl, (by show some _ = some _; first | (simp only [List.map_append, List.append_assoc]; done) | (simp only [List.map_append, List.append_assoc]; rfl)), rfl, trivial⟩ rfl (by first | (simp only [List.map_append, List.append_assoc]; done) | (simp only [List.map_append, List.append_assoc]; rfl))⟩
          | exact ⟨i + 1, [], out ++ runes r.«to», kA, ⟨by first | omega | (simp; omega), by cases Nat.lt_or_ge i (runes s).length with | inl hlt => (first | (exfalso; omega) | (left; refine ⟨by omega, ?_⟩; rw [← hf2, hdc hlt, resF_cons]; clear hf2 hf hdc hdn; simp_all; done)) | inr hge => (first | (exfalso; omega) | (right; refine ⟨by omega, ?_⟩; rw [← hf2, hdn (by omega), resF_nil]; clear hf2 hf hdc hdn; simp_all; done))⟩, by omega, St.Le.of ⟨rfl, rfl, rfl, rfl, (by show some _ = some _; first | (simp only [List.map_append, List.append_assoc]; done) | (simp only [List.map_append, List.append_assoc]; rfl)), rfl, trivial⟩ rfl (by first | (simp only [List.map_append, List.append_assoc]; done) | (simp only [List.map_append, List.append_assoc]; rfl))⟩
          | exact ⟨i + 1, ss0, out ++ [(runes s)[i]], kB, ⟨by first | omega | (simp; omega), by cases Nat.lt_or_ge i (runes s).length with | inl hlt => (first | (exfalso; omega) | (left; refine ⟨by omega, ?_⟩; rw [← hf2, hdc hlt, resF_cons]; clear hf2 hf hdc hdn; simp_all; done)) | inr hge => (first | (exfalso; omega) | (right; refine ⟨by omega, ?_⟩; rw [← hf2, hdn (by omega), resF_nil]; clear hf2 hf hdc hdn; simp_all; done))⟩, by omega, St.Le.of ⟨rfl, rfl, rfl, rfl, (by show some _ = some _; first | (simp only [List.map_append, List.append_assoc]; done) | (simp only [List.map_append, List.append_assoc]; rfl)), rfl, trivial⟩ rfl (by first | (simp only [List.map_append, List.append_assoc]; done) | (simp only [List.map_append, List.append_assoc]; rfl))⟩
          | exact ⟨i + 1, (s0 :: ss0), out ++ [(runes s)[i]], kB, ⟨by first | omega | (simp; omega), by cases Nat.lt_or_ge i (runes s).length with | inl hlt => (first | (exfalso; omega) | (left; refine ⟨by omega, ?_⟩; rw [← hf2, hdc hlt, resF_cons]; clear hf2 hf hdc hdn; simp_all; done)) | inr hge => (first | (exfalso; omega) | (right; refine ⟨by omega, ?_⟩; rw [← hf2, hdn (by omega), resF_nil]; clear hf2 hf hdc hdn; simp_all; done))⟩, by omega, St.Le.of ⟨rfl, rfl, rfl, rfl, (by show some _ = some _; first | (simp only [List.map_append, List.append_assoc]; done) | (simp only [List.map_append, List.append_assoc]; rfl)), rfl, trivial⟩ rfl (by first | (simp only [List.map_append, List.append_assoc]; done) | (simp only [List.map_append, List.append_assoc]; rfl))⟩
          | exact ⟨i + 1, [], out ++ [(runes s)[i]], kB, ⟨by first | omega | (simp; omega), by cases Nat.lt_or_ge i (runes s).length with | inl hlt => (first | (exfalso; omega) | (left; refine ⟨by omega, ?_⟩; rw [← hf2, hdc hlt, resF_cons]; clear hf2 hf hdc hdn; simp_all; done)) | inr hge => (first | (exfalso; omega) | (right; refine ⟨by omega, ?_⟩; rw [← hf2, hdn (by omega), resF_nil]; clear hf2 hf hdc hdn; simp_all; done))⟩, by omega, St.Le.of ⟨rfl, rfl, rfl, rfl, (by show some _ = some _; first | (simp only [List.map_append, List.append_assoc]; done) | (simp only [List.map_append, List.append_assoc]; rfl)), rfl, trivial⟩ rfl (by first | (simp only [List.map_append, List.append_assoc]; done) | (simp only [List.map_append, List.append_assoc]; rfl))⟩
          | exact ⟨i + 1, ss0, out, k, ⟨by first | omega | (simp; omega), by cases Nat.lt_or_ge i (runes s).length with | inl hlt => (first | (exfalso; omega) | (left; refine ⟨by omega, ?_⟩; rw [← hf2, hdc hlt, resF_cons]; clear hf2 hf hdc hdn; simp_all; done)) | inr hge => (first | (exfalso; omega) | (right; refine ⟨by omega, ?_⟩; rw [← hf2, hdn (by omega), resF_nil]; clear hf2 hf hdc hdn; simp_all; done))⟩, by omega, St.Le.of ⟨rfl, rfl, rfl, rfl, rfl, rfl, trivial⟩ rfl (rfl)⟩
          | exact ⟨i + 1, (s0 :: ss0), out, k, ⟨by first | omega | (simp; omega), by cases Nat.lt_or_ge i (runes s).length with | inl hlt => (first | (exfalso; omega) | (left; refine ⟨by omega, ?_⟩; rw [← hf2, hdc hlt, resF_cons]; clear hf2 hf hdc hdn; simp_all; done)) | inr hge => (first | (exfalso; omega) | (right; refine ⟨by omega, ?_⟩; rw [← hf2, hdn (by omega), resF_nil]; clear hf2 hf hdc hdn; simp_all; done))⟩, by omega, St.Le.of ⟨rfl, rfl, rfl, rfl, rfl, rfl, trivial⟩ rfl (rfl)⟩
          | exact ⟨i + 1, [], out, k, ⟨by first | omega | (simp; omega), by cases Nat.lt_or_ge i (runes s).length with | inl hlt => (first | (exfalso; omega) | (left; refine ⟨by omega, ?_⟩; rw [← hf2, hdc hlt, resF_cons]; clear hf2 hf hdc hdn; simp_all; done)) | inr hge => (first | (exfalso; omega) | (right; refine ⟨by omega, ?_⟩; rw [← hf2, hdn (by omega), resF_nil]; clear hf2 hf hdc hdn; simp_all; done))⟩, by omega, St.Le.of ⟨rfl, rfl, rfl, rfl, rfl, rfl, trivial⟩ rfl (rfl)⟩
      · try simp only [decide_eq_true_eq, decide_eq_false_iff_not, Bool.not_eq_true', Bool.not_eq_false', beq_iff_eq, bne_iff_ne, ne_eq, beq_eq_false_iff_ne, bne_eq_false_iff_eq, Int.not_lt, Int.not_le, Nat.not_lt, Nat.not_le, Int.ofNat_lt, Int.ofNat_le, Bool.not_eq_eq_eq_not, Bool.not_true, Bool.not_false] at hb10
        refine SOps.skip rfl ?_
        refine SOps.skip rfl ?_
        refine SOps.skip rfl ?_
        refine SOps.skip rfl ?_
        refine SOps.skip rfl ?_
        refine SOps.skip rfl ?_
        refine SOps.skip rfl ?_
        refine SOps.pick rfl rfl ?_
        refine SOps.nil ?_
        refine SCode.cond rfl (fun h => by cases h) (fun _ => ?_)
        refine SCode.skip ?_
        show SCode _ _ _ _
        refine SCode.region ?_
        refine SOps.move rfl ?_
        refine SOps.addI rfl rfl (by first | omega | (simp only [lenB]; omega)) (by first | omega | (simp only [lenB]; omega)) ?_
        refine SOps.assign rfl ?_
        refine SOps.nil ?_
        first
          | (exfalso; simp only [List.getElem_cons_zero] at *; omega)
          | exact ⟨i + 1, ss0, out ++ runes r.«to» ++ [(runes s)[i]], ((fun _ : Nat => kB) kA), ⟨by first | omega | (simp; omega), by cases Nat.lt_or_ge i (runes s).length with | inl hlt => (first | (exfalso; omega) | (left; refine ⟨by omega, ?_⟩; rw [← hf2, hdc hlt, resF_cons]; clear hf2 hf hdc hdn; simp_all; done)) | inr hge => (first | (exfalso; omega) | (right; refine ⟨by omega, ?_⟩; rw [← hf2, hdn (by omega), resF_nil]; clear hf2 hf hdc hdn; simp_all; done))⟩, by omega, St.Le.of ⟨rfl, rfl, rfl, rfl, (by show some _ = some _; first | (simp only [List.map_append, List.append_assoc]; done) | (simp only [List.map_append, List.append_assoc]; rfl)), rfl, trivial⟩ rfl (by first | (simp only [List.map_append, List.append_assoc]; done) | (simp only [List.map_append, List.append_assoc]; rfl))⟩
          | exact ⟨i + 1, (s0 :: ss0), out ++ runes r.«to» ++ [(runes s)[i]], ((fun _ : Nat => kB) kA), ⟨by first | omega | (simp; omega), by cases Nat.lt_or_ge i (runes s).length with | inl hlt => (first | (exfalso; omega) | (left; refine ⟨by omega, ?_⟩; rw [← hf2, hdc hlt, resF_cons]; clear hf2 hf hdc hdn; simp_all; done)) | inr hge => (first | (exfalso; omega) | (right; refine ⟨by omega, ?_⟩; rw [← hf2, hdn (by omega), resF_nil]; clear hf2 hf hdc hdn; simp_all; done))⟩, by omega, St.Le.of ⟨rfl, rfl, rfl, rfl, (by show some _ = some _; first | (simp only [List.map_append, List.append_assoc]; done) | (simp only [List.map_append, List.append_assoc]; rfl)), rfl, trivial⟩ rfl (by first | (simp only [List.map_append, List.append_assoc]; done) | (simp only [List.map_append, List.append_assoc]; rfl))⟩
          | exact ⟨i + 1, [], out ++ runes r.«to» ++ [(runes s)[i]], ((fun _ : Nat => kB) kA), ⟨by first | omega | (simp; omega), by cases Nat.lt_or_ge i (runes s).length with | inl hlt => (first | (exfalso; omega) | (left; refine ⟨by omega, ?_⟩; rw [← hf2, hdc hlt, resF_cons]; clear hf2 hf hdc hdn; simp_all; done)) | inr hge => (first | (exfalso; omega) | (right; refine ⟨by omega, ?_⟩; rw [← hf2, hdn (by omega), resF_nil]; clear hf2 hf hdc hdn; simp_all; done))⟩, by omega, St.Le.of ⟨rfl, rfl, rfl, rfl, (by show some _ = some _; first | (simp only [List.map_append, List.append_assoc]; done) | (simp only [List.map_append, List.append_assoc]; rfl)), rfl, trivial⟩ rfl (by first | (simp only [List.map_append, List.append_assoc]; done) | (simp only [List.map_append, List.append_assoc]; rfl))⟩
          | exact ⟨i + 1, ss0, out ++ runes r.«to», kA, ⟨by first | omega | (simp; omega), by cases Nat.lt_or_ge i (runes s).length with | inl hlt => (first | (exfalso; omega) | (left; refine ⟨by omega, ?_⟩; rw [← hf2, hdc hlt, resF_cons]; clear hf2 hf hdc hdn; simp_all; done)) | inr hge => (first | (exfalso; omega) | (right; refine ⟨by omega, ?_⟩; rw [← hf2, hdn (by omega), resF_nil]; clear hf2 hf hdc hdn; simp_all; done))⟩, by omega, St.Le.of ⟨rfl, rfl, rfl, rfl, (by show some _ = some _; first | (simp only [List.map_append, List.append_assoc]; done) | (simp only [List.map_append, List.append_assoc]; rfl)), rfl, trivial⟩ rfl (by first | (simp only [List.map_append, List.append_assoc]; done) | (simp only [List.map_append, List.append_assoc]; rfl))⟩
          | exact ⟨i + 1, (s0 :: ss0), out ++ runes r.«to», kA, ⟨by first | omega | (simp; omega), by cases Nat.lt_or_ge i (runes s).length with | inl hlt => (first | (exfalso; omega) | (left; refine ⟨by omega, ?_⟩; rw [← hf2, hdc hlt, resF_cons]; clear hf2 hf hdc hdn; simp_all; done)) | inr hge => (first | (exfalso; omega) | (right; refine ⟨by omega, ?_⟩; rw [← hf2, hdn (by omega), resF_nil]; clear hf2 hf hdc hdn; simp_all; done))⟩, by omega, St.Le.of ⟨rfl, rfl, rfl, rfl, (by show some _ = some _; first | (simp only [List.map_append, List.append_assoc]; done) | (simp only [List.map_append, List.append_assoc]; rfl)), rfl, trivial⟩ rfl (by first | (simp only [List.map_append, List.append_assoc]; done) | (simp only [List.map_append, List.append_assoc]; rfl))⟩
          | exact ⟨i + 1, [], out ++ runes r.«to», kA, ⟨by first | omega | (simp; omega), by cases Nat.lt_or_ge i (runes s).length with | inl hlt => (first | (exfalso; omega) | (left; refine ⟨by omega, ?_⟩; rw [← hf2, hdc hlt, resF_cons]; clear hf2 hf hdc hdn; simp_all; done)) | inr hge => (first | (exfalso; omega) | (right; refine ⟨by omega, ?_⟩; rw [← hf2, hdn (by omega), resF_nil]; clear hf2 hf hdc hdn; simp_all; done))⟩, by omega, St.Le.of ⟨rfl, rfl, rfl, rfl, (by show some _ = some _; first | (simp only [List.map_append, List.append_assoc]; done) | (simp only [List.map_append, List.append_assoc]; rfl)), rfl, trivial⟩ rfl (by first | (simp only [List.map_append, List.append_assoc]; done) | (simp only [List.map_append, List.append_assoc]; rfl))⟩
          | exact ⟨i + 1, ss0, out ++ [(runes s)[i]], kB, ⟨by first | omega | (simp; omega), by cases Nat.lt_or_ge i (runes s).length with | inl hlt => (first | (exfalso; omega) | (left; refine ⟨by omega, ?_⟩; rw [← hf2, hdc hlt, resF_cons]; clear hf2 hf hdc hdn; simp_all; done)) | inr hge => (first | (exfalso; omega) | (right; refine ⟨by omega, ?_⟩; rw [← hf2, hdn (by omega), resF_nil]; clear hf2 hf hdc hdn; simp_all; done))⟩, by omega, St.Le.of ⟨rfl, rfl, rfl, rfl, (by show some _ = some _; first | (simp only [List.map_append, List.append_assoc]; done) | (simp only [List.map_append, List.append_assoc]; rfl)), rfl, trivial⟩ rfl (by first | (simp only [List.map_append, List.append_assoc]; done) | (simp only [List.map_append, List.append_assoc]; rfl))⟩
          | exact ⟨i + 1, (s0 :: ss0), out ++ [(runes s)[i]], kB, ⟨by first | omega | (simp; omega), by cases Nat.lt_or_ge i (runes s).length with | inl hlt => (first | (exfalso; omega) | (left; refine ⟨by omega, ?_⟩; rw [← hf2, hdc hlt, resF_cons]; clear hf2 hf hdc hdn; simp_all; done)) | inr hge => (first | (exfalso; omega) | (right; refine ⟨by omega, ?_⟩; rw [← hf2, hdn (by omega), resF_nil]; clear hf2 hf hdc hdn; simp_all; done))⟩, by omega, St.Le.of ⟨rfl, rfl, rfl, rfl, (by show some _ = some _; first | (simp only [List.map_append, List.append_assoc]; done) | (simp only [List.map_append, List.append_assoc]; rfl)), rfl, trivial⟩ rfl (by first | (simp only [List.map_append, List.append_assoc]; done) | (simp only [List.map_append, List.append_assoc]; rfl))⟩
          | exact ⟨i + 1, [], out ++ [(runes s)[i]], kB, ⟨by first | omega | (simp; omega), by cases Nat.lt_or_ge i (runes s).length with | inl hlt => (first | (exfalso; omega) | (left; refine ⟨by omega, ?_⟩; rw [← hf2, hdc hlt, resF_cons]; clear hf2 hf hdc hdn; simp_all; done)) | inr hge => (first | (exfalso; omega) | (right; refine ⟨by omega, ?_⟩; rw [← hf2, hdn (by omega), resF_nil]; clear hf2 hf hdc hdn; simp_all; done))⟩, by omega, St.Le.of ⟨rfl, rfl, rfl, rfl, (by show some _ = some _; first | (simp only [List.map_append, List.append_assoc]; done) | (simp only [List.map_append, List.append_assoc]; rfl)), rfl, trivial⟩ rfl (by first | (simp only [List.map_append, List.append_assoc]; done) | (simp only [List.map_append, List.append_assoc]; rfl))⟩
          | exact ⟨i + 1, ss0, out, k, ⟨by first | omega | (simp; omega), by cases Nat.lt_or_ge i (runes s).length with | inl hlt => (first | (exfalso; omega) | (left; refine ⟨by omega, ?_⟩; rw [← hf2, hdc hlt, resF_cons]; clear hf2 hf hdc hdn; simp_all; done)) | inr hge => (first | (exfalso; omega) | (right; refine ⟨by omega, ?_⟩; rw [← hf2, hdn (by omega), resF_nil]; clear hf2 hf hdc hdn; simp_all; done))⟩, by omega, St.Le.of ⟨rfl, rfl, rfl, rfl, rfl, rfl, trivial⟩ rfl (rfl)⟩
          | exact ⟨i + 1, (s0 :: ss0), out, k, ⟨by first | omega | (simp; omega), by cases Nat.lt_or_ge i (runes s).length with | inl hlt => (first | (exfalso; omega) | (left; refine ⟨by omega, ?_⟩; rw [← hf2, hdc hlt, resF_cons]; clear hf2 hf hdc hdn; simp_all; done)) | inr hge => (first | (exfalso; omega) | (right; refine ⟨by omega, ?_⟩; rw [← hf2, hdn (by omega), resF_nil]; clear hf2 hf hdc hdn; simp_all; done))⟩, by omega, St.Le.of ⟨rfl, rfl, rfl, rfl, rfl, rfl, trivial⟩ rfl (rfl)⟩
          | exact ⟨i + 1, [], out, k, ⟨by first | omega | (simp; omega), by cases Nat.lt_or_ge i (runes s).length with | inl hlt => (first | (exfalso; omega) | (left; refine ⟨by omega, ?_⟩; rw [← hf2, hdc hlt, resF_cons]; clear hf2 hf hdc hdn; simp_all; done)) | inr hge => (first | (exfalso; omega) | (right; refine ⟨by omega, ?_⟩; rw [← hf2, hdn (by omega), resF_nil]; clear hf2 hf hdc hdn; simp_all; done))⟩, by omega, St.Le.of ⟨rfl, rfl, rfl, rfl, rfl, rfl, trivial⟩ rfl (rfl)⟩
  · try simp only [decide_eq_true_eq, decide_eq_false_iff_not, Bool.not_eq_true', Bool.not_eq_false', beq_iff_eq, bne_iff_ne, ne_eq, beq_eq_false_iff_ne, bne_eq_false_iff_eq, Int.not_lt, Int.not_le, Nat.not_lt, Nat.not_le, Int.ofNat_lt, Int.ofNat_le, Bool.not_eq_eq_eq_not, Bool.not_true, Bool.not_false] at hc1
    refine SCode.exit ?_
    show SCode _ _ _ _
    refine SCode.seqR ?_
    obtain ⟨_, rfl⟩ := hf.resolve_left (by omega)
    refine SOps.freezeAcc (t := 9) [] [] rfl rfl rfl ?_
    refine SOps.move rfl ?_
    refine SOps.convRunesStr rfl sliceB_84_21_1 intB_21_i32 strB_9 (by simp [lenB] <;> (first | omega | (simp only [lenB]; omega))) ?_
    refine SOps.assign rfl ?_
    refine SOps.nil ?_
    refine SCode.ret ?_
    exact ⟨_, Res.one (.tmp rfl), rfl, rfl⟩
end Go.GH
namespace Go.Proofs
open Go.Shelf
def Tryd.laysValid_ren : Go.Shelf.Ren := ⟨fun | 196 => 79 | 259 => 90 | n => n, fun | 9 => 9 | 4 => 4 | 3 => 3 | 5 => 5 | 12 => 12 | 119 => 122 | 0 => 0 | 46 => 126 | 139 => 125 | 138 => 124 | 53 => 130 | n => n, fun | 3 => 1 | 4 => 2 | n => n⟩
theorem Tryd.laysValid : Go.Proofs.Lays.n196 Tryd.prog Tryd.laysValid_ren := {
  mixed := by kernel_rfl
  f196 := Tryd.func79.trans (congrArg some (by kernel_rfl))
  f259 := Tryd.func90.trans (congrArg some (by kernel_rfl))
  t0 := Tryd.underlying0
  a0 := Tryd.isAgg0
  z0 := Tryd.sizeOf0
  v0 := Tryd.zeroValue0
  t3 := Tryd.underlying3
  a3 := Tryd.isAgg3
  z3 := Tryd.sizeOf3
  v3 := Tryd.zeroValue3
  t4 := Tryd.underlying4
  a4 := Tryd.isAgg4
  z4 := Tryd.sizeOf4
  v4 := Tryd.zeroValue4
  t5 := Tryd.underlying5
  a5 := Tryd.isAgg5
  z5 := Tryd.sizeOf5
  v5 := Tryd.zeroValue5
  t9 := Tryd.underlying9
  a9 := Tryd.isAgg9
  z9 := Tryd.sizeOf9
  v9 := Tryd.zeroValue9
  t12 := Tryd.underlying12
  a12 := Tryd.isAgg12
  z12 := Tryd.sizeOf12
  v12 := Tryd.zeroValue12
  t46 := Tryd.underlying126
  a46 := Tryd.isAgg126
  z46 := Tryd.sizeOf126
  v46 := Tryd.zeroValue126
  t53 := Tryd.underlying130
  a53 := Tryd.isAgg130
  z53 := Tryd.sizeOf130
  v53 := Tryd.zeroValue130
  t119 := Tryd.underlying122
  a119 := Tryd.isAgg122
  z119 := Tryd.sizeOf122
  t138 := Tryd.underlying124
  a138 := Tryd.isAgg124
  z138 := Tryd.sizeOf124
  v138 := Tryd.zeroValue124
  t139 := Tryd.underlying125
  a139 := Tryd.isAgg125
  z139 := Tryd.sizeOf125
  v139 := Tryd.zeroValue125
  g3 := by kernel_rfl
  g4 := by kernel_rfl }
def Tryd.laysByte_ren : Go.Shelf.Ren := ⟨fun | 137 => 33 | 217 => 58 | 266 => 78 | n => n, fun | 9 => 9 | 5 => 5 | 3 => 3 | n => n, fun | n => n⟩
theorem Tryd.laysByte : Go.Proofs.Lays.n137 Tryd.prog Tryd.laysByte_ren := {
  mixed := by kernel_rfl
  f137 := Tryd.func33.trans (congrArg some (by kernel_rfl))
  f217 := Tryd.func58.trans (congrArg some (by kernel_rfl))
  f266 := Tryd.func78.trans (congrArg some (by kernel_rfl))
  t3 := Tryd.underlying3
  a3 := Tryd.isAgg3
  z3 := Tryd.sizeOf3
  v3 := Tryd.zeroValue3
  t5 := Tryd.underlying5
  a5 := Tryd.isAgg5
  z5 := Tryd.sizeOf5
  v5 := Tryd.zeroValue5
  t9 := Tryd.underlying9
  a9 := Tryd.isAgg9
  z9 := Tryd.sizeOf9
  v9 := Tryd.zeroValue9 }
end Go.Proofs
namespace Go.GH
open Go Go.RowKit

inductive DTy where
  | int (k : IntKind)
  | str
  | bool
  | sl (L : List DTy)
/-- The cells of a value of type t. -/
inductive TyIs (P : Program) : TypeId → List DTy → Prop
  | int {t : TypeId} {k : IntKind} (h : P.underlying t = some (.int k)) : TyIs P t [.int k]
  | str {t : TypeId} (h : P.underlying t = some .string) : TyIs P t [.str]
  | bool {t : TypeId} (h : P.underlying t = some .bool) : TyIs P t [.bool]
  | sl {t e : TypeId} {L : List DTy} (h : P.underlying t = some (.slice e)) (he : TyIs P e L) (hc : P.cellsOf e = L.length) (hne : L ≠ []) : TyIs P t [.sl L]
  | struct {t : TypeId} {fs : Array Field} (Ls : List (List DTy)) (h : P.underlying t = some (.struct fs)) (hc : P.cellsOf t = Ls.flatten.length) (hl : Ls.length = fs.size)
      (hf : ∀ (i : Nat) f Li, fs[i]? = some f → Ls[i]? = some Li → TyIs P f.type Li) (ho : ∀ (i : Nat) f Li, fs[i]? = some f → Ls[i]? = some Li → f.offset = (Ls.take i).flatten.length ∧ P.cellsOf f.type = Li.length) : TyIs P t Ls.flatten
inductive HasD : DTy → DV → Prop
  | int {k : IntKind} {n : Int} (h : k.has n) : HasD (.int k) (.v (.int k n))
  | str {s : ByteArray} (h : s.size ≤ lenB) : HasD .str (.v (.string s))
  | bool {b : Bool} : HasD .bool (.v (.bool b))
  | sl {L : List DTy} {es : List (List DV)} (hl : ∀ (i : Nat) e, es[i]? = some e → e.length = L.length) (hd : ∀ (i : Nat) e (j : Nat) d ty, es[i]? = some e → e[j]? = some d → L[j]? = some ty → HasD ty d) : HasD (.sl L) (.isl false L.length es)

def AllF (w : World) : Nat → Prop := fun b => b < w.heap.size
def Cells (w : World) (cs : List Value) (L : List DTy) (ds : List DV) : Prop :=
  cs.length = L.length ∧ ds.length = L.length ∧ ∀ (j : Nat) v d ty, cs[j]? = some v → ds[j]? = some d → L[j]? = some ty → Rep w (AllF w) v d ∧ HasD ty d ∧ v.oneCell' = true
theorem cell?_lt {w : World} {a : Addr} {v : Value} (h : w.cell? a = some v) : a.block < w.heap.size ∧ a.spot = none := by
  unfold World.cell? at h
  split at h
  · rename_i c _ _ hb
    refine ⟨(Array.getElem?_eq_some_iff.1 hb).1, ?_⟩
    split at h
    · cases h
    · rename_i hs; simpa using hs
  · cases h
theorem lit_int_wf {k : IntKind} {n : Int} (h : (Lit.int k n).wf = true) : k.has n := by
  simp [Lit.wf, IntKind.has] at h ⊢
  exact h

def PW (w : World) (cs : List Value) (L : List DTy) : Prop :=
  cs.length = L.length ∧ ∀ (j : Nat) v ty, cs[j]? = some v → L[j]? = some ty → ∃ d, Rep w (AllF w) v d ∧ HasD ty d ∧ v.oneCell' = true
theorem PW.cells {w : World} {cs : List Value} {L : List DTy} (h : PW w cs L) : ∃ ds, Cells w cs L ds := by
  have key : ∀ j, ∃ d, ∀ v ty, cs[j]? = some v → L[j]? = some ty → Rep w (AllF w) v d ∧ HasD ty d ∧ v.oneCell' = true := fun j => by
    by_cases hj : j < L.length
    · obtain ⟨d, hd⟩ := h.2 j _ _ (List.getElem?_eq_getElem (show j < cs.length by rw [h.1]; exact hj)) (List.getElem?_eq_getElem hj)
      refine ⟨d, fun v ty hv ht => ?_⟩
      rw [List.getElem?_eq_getElem (show j < cs.length by rw [h.1]; exact hj)] at hv
      rw [List.getElem?_eq_getElem hj] at ht
      obtain rfl := Option.some.inj hv
      obtain rfl := Option.some.inj ht
      exact hd
    · exact ⟨.any, fun v ty _ ht => absurd (List.getElem?_eq_some_iff.1 ht).1 hj⟩
  refine ⟨(List.range L.length).map (fun j => (key j).choose), h.1, by simp, fun j v d ty hv hd ht => ?_⟩
  rw [List.getElem?_map] at hd
  obtain ⟨q, hq, rfl⟩ := Option.map_eq_some_iff.1 hd
  have hlt : j < L.length := (List.getElem?_eq_some_iff.1 ht).1
  rw [List.getElem?_range hlt] at hq
  obtain rfl := Option.some.inj hq
  exact (key j).choose_spec v ty hv ht
theorem PW.one {w : World} {v : Value} {ty : DTy} {d : DV} (h1 : Rep w (AllF w) v d) (h2 : HasD ty d) (h3 : v.oneCell' = true) : PW w [v] [ty] :=
  ⟨rfl, fun j u t hv ht => by
    match j, hv, ht with
    | 0, hv, ht => simp at hv ht; subst hv; subst ht; exact ⟨d, h1, h2, h3⟩
    | j + 1, hv, ht => simp at hv⟩
theorem flatten_find {α : Type} : ∀ (Ls : List (List α)) (j : Nat) (x : α), Ls.flatten[j]? = some x → ∃ (i : Nat) (Li : List α) (q : Nat), Ls[i]? = some Li ∧ Li[q]? = some x ∧ j = (Ls.take i).flatten.length + q
  | [], j, x, h => by simp at h
  | L :: Ls, j, x, h => by
    rw [List.flatten_cons, List.getElem?_append] at h
    split at h
    · exact ⟨0, L, j, rfl, h, by simp⟩
    · rename_i hlt
      obtain ⟨i, Li, q, h1, h2, h3⟩ := flatten_find Ls _ x h
      exact ⟨i + 1, Li, q, by simpa using h1, h2, by rw [List.take_succ_cons, List.flatten_cons, List.length_append]; omega⟩

/-- What a law's contract leaves. -/
theorem CPost.told {E : Env} {w : World} {F : Nat → Prop} {x : Value} {e : Ending} {w' : World} (h : CPost E w F [] (fun d H => d = .v x ∧ H = []) e w') : e = .returned x ∧ Below w.heap.size w w' := by
  obtain ⟨u, d, H', F', rfl, ⟨rfl, rfl⟩, _, _, hr, _, _, hst⟩ := h
  exact ⟨by rw [hr.inv_v.1], (hst.mono (T' := fun _ => False) (fun i _ hi => by cases hi)).below⟩
/-- A law's contract, at a world where every block stands. -/
theorem GCall.told {P : Program} {E : Env} {f : FuncId} {ds : List DV} {x : Value} (h : GCall P E f ds [] (fun d H => d = .v x ∧ H = [])) {w : World} {vs : Array Value} (hE : E.holds w (AllF w)) (hl : vs.size = ds.length)
    (hr : ∀ (j : Nat) (v : Value) (d : DV), vs[j]? = some v → ds[j]? = some d → Rep w (AllF w) v d) : Calls P f vs w (fun e w' => e = .returned x ∧ Below w.heap.size w w') :=
  (h.2 w (AllF w) vs hE (fun b hb => hb) hl hr (fun p hp => by cases hp) List.nodup_nil).mono (fun e w' hp => hp.told)
end Go.GH
namespace Go.GH
open Go Go.Lib Go.Proofs Go.RowKit

theorem extract_eq (s : ByteArray) (p : Nat) : (s.extract p (p + 3)).data.toList = (s.data.toList.drop p).take 3 := by
  simp [ByteArray.data_extract, List.take_drop]
theorem dec_fffd {l : List UInt8} (h : l.take 3 = [239, 191, 189]) : decodeL l = (65533, 3) := by
  match l, h with
  | [], h => simp at h
  | [_], h => simp at h
  | [_, _], h => simp at h
  | a :: b :: c :: t, h =>
    simp only [List.take_succ_cons, List.take_zero, List.cons.injEq, and_true] at h
    obtain ⟨rfl, rfl, rfl⟩ := h
    rw [decodeL_N]
    generalize hb : ((239 :: 191 :: 189 :: t : List UInt8).getD 3 0).toNat = b3
    have e0 : ((239 :: 191 :: 189 :: t : List UInt8).getD 0 0).toNat = 239 := rfl
    have e1 : ((239 :: 191 :: 189 :: t : List UInt8).getD 1 0).toNat = 191 := rfl
    have e2 : ((239 :: 191 :: 189 :: t : List UInt8).getD 2 0).toNat = 189 := rfl
    have hn : 2 < (239 :: 191 :: 189 :: t : List UInt8).length := by simp
    rw [e0, e1, e2]
    generalize (239 :: 191 :: 189 :: t : List UInt8).length = n at hn
    unfold decodeN
    rw [if_neg (by omega), if_neg (by omega), if_pos (by omega), if_pos (by omega)]
theorem enc_fffd : encodeRune ((65533 : Nat) : Int) = [239, 191, 189] := by decide
theorem step_valid (s : ByteArray) (p : Nat) (hp : p < s.size) : stepOK s (p, ((Utf8.decode s p).1 : Int)) = !(decide ((Utf8.decode s p).1 = 65533 ∧ (Utf8.decode s p).2 = 1)) := by
  have hd := decodeL_drop s p
  have hlen : (s.data.toList.drop p).length = s.size - p := by simp
  have hne : s.data.toList.drop p ≠ [] := by
    intro h; rw [h] at hlen; simp at hlen; omega
  by_cases hr : (Utf8.decode s p).1 = 65533
  · have hr' : (((Utf8.decode s p).1 : Nat) : Int) = 65533 := by omega
    by_cases h1 : (Utf8.decode s p).2 = 1
    · rw [decide_eq_true ⟨hr, h1⟩]
      simp only [Bool.not_true]
      unfold stepOK
      rw [hr']
      simp only [beq_self_eq_true, Bool.not_true, Bool.false_or, Bool.and_eq_false_iff, decide_eq_false_iff_not]
      refine .inr (fun h => ?_)
      have h2 : (s.data.toList.drop p).take 3 = [239, 191, 189] := by rw [← extract_eq, h]; rfl
      rw [dec_fffd h2] at hd
      rw [← hd] at h1
      cases h1
    · rw [decide_eq_false (fun h => h1 h.2)]
      simp only [Bool.not_false]
      have h3 := encode_decode _ hne (by rw [hd]; exact fun h => h1 h.2)
      rw [hd, hr, enc_fffd] at h3
      have hw : (Utf8.decode s p).2 ≤ 3 ∨ 3 ≤ (Utf8.decode s p).2 := by omega
      have hl3 := congrArg List.length h3
      simp only [List.length_cons, List.length_nil, List.length_take, hlen] at hl3
      have h4 : (s.data.toList.drop p).take 3 = [239, 191, 189] := by
        rw [h3]
        apply List.ext_getElem?
        intro j
        simp only [List.getElem?_take]
        by_cases hj : j < 3
        · rw [if_pos hj, if_pos (by omega)]
        · rw [if_neg hj]
          split
          · rw [List.getElem?_eq_none (by omega)]
          · rfl
      have h5 : s.extract p (p + 3) = efbfbd := by
        apply ByteArray.ext
        apply Array.toList_inj.1
        rw [extract_eq, h4]; rfl
      have : p + 3 ≤ s.size := by
        have := congrArg List.length h4
        simp only [List.length_take, hlen, List.length_cons, List.length_nil] at this
        omega
      unfold stepOK
      rw [hr', h5]
      simp [this]
  · rw [decide_eq_false (fun h => hr h.1), stepOK_no (by omega)]; rfl
theorem valid_at (s : ByteArray) : ∀ (f p : Nat), s.size - p ≤ f → validD (s.data.toList.drop p) = (steps s p).all (stepOK s)
  | 0, p, h => by
    rw [steps_ge (by omega), List.drop_eq_nil_of_le (by simp; omega)]; rfl
  | f + 1, p, h => by
    by_cases hp : p < s.size
    · have hw := decode_w s p
      have hlen : (s.data.toList.drop p).length = s.size - p := by simp
      rw [validD_step _ (by intro h; rw [h] at hlen; simp at hlen; omega), steps_lt hp, List.all_cons, step_valid s p hp, decodeL_drop, List.drop_drop, valid_at s f _ (by omega)]
      by_cases hb : (Utf8.decode s p).1 = 65533 ∧ (Utf8.decode s p).2 = 1
      · rw [if_pos hb, decide_eq_true hb]; rfl
      · rw [if_neg hb, decide_eq_false hb]; rfl
    · rw [steps_ge (by omega), List.drop_eq_nil_of_le (by simp; omega)]; rfl
theorem utf8R_valid (s : ByteArray) : utf8R s = validD s.data.toList := by
  have := valid_at s _ 0 (Nat.le_refl _)
  rw [List.drop_zero] at this
  exact this.symm

/-- The library's two tables, in blocks that never turn. -/
def tabE (g3 g4 : Nat) : Env where
  holds := fun w F => Lib.Utf8Tabs g3 g4 w ∧ F g3 ∧ F g4
  mono := fun {w w' F F'} hw hF h => by
    obtain ⟨⟨h1, h2⟩, h3, h4⟩ := h
    refine ⟨⟨fun c hc => ?_, fun i hi => ⟨?_, ?_⟩⟩, hF _ h3, hF _ h4⟩
    · rw [cell?_same (hw _ h3)]; exact h1 c hc
    · rw [cell?_same (hw _ h4)]; exact (h2 i hi).1
    · rw [cell?_same (hw _ h4)]; exact (h2 i hi).2
abbrev E0 : Env := tabE (Tryd.laysValid_ren.g 3) (Tryd.laysValid_ren.g 4)
theorem tabE_all {g3 g4 : Nat} {w : World} (h : Lib.Utf8Tabs g3 g4 w) : (tabE g3 g4).holds w (AllF w) :=
  ⟨h, (cell?_lt (h.1 0 (by decide))).1, (cell?_lt (h.2 0 (by decide)).1).1⟩

/-- A library's contract that only reads, as a contract over abstract states. -/
theorem GCall.ofCalls {P : Program} {E : Env} {f : FuncId} {ds : List DV} {x : Value} (hb : hasBody P f = true) (hx : scal x)
    (h : ∀ w F (vs : Array Value), E.holds w F → vs.size = ds.length → (∀ (j : Nat) (v : Value) (d : DV), vs[j]? = some v → ds[j]? = some d → Rep w F v d) → Calls P f vs w (fun e w' => e = .returned x ∧ Below w.heap.size w w')) :
    GCall P E f ds [] (fun d H => d = .v x ∧ H = []) :=
  ⟨hb, fun w F vs hE hF hl hr _ _ => (h w F vs hE hl hr).mono (fun e w' ⟨he, bel⟩ =>
    ⟨x, .v x, [], F, he, ⟨rfl, rfl⟩, fun _ h => h, fun b h => ⟨Nat.lt_of_lt_of_le (hF b h) (Step.of_below bel).size, .inl h⟩, .v hx, (fun p hp => by cases hp), List.nodup_nil, (Step.of_below bel).mono (fun _ _ h => h.elim)⟩)⟩
theorem arg1 {w : World} {F : Nat → Prop} {vs : Array Value} {x : Value} (hl : vs.size = 1) (hr : ∀ (j : Nat) (v : Value) (d : DV), vs[j]? = some v → [DV.v x][j]? = some d → Rep w F v d) : vs = #[x] ∧ scal x := by
  have h0 := hr 0 vs[0] (.v x) (Array.getElem?_eq_getElem (by omega)) rfl
  refine ⟨?_, h0.inv_v.2⟩
  apply Array.ext
  · simpa using hl
  · intro i h1 h2
    have : i = 0 := by omega
    subst this
    exact h0.inv_v.1
theorem vs_ok (s : ByteArray) : GCall Tryd.prog E0 79 [.v (.string s)] [] (fun d H => d = .v (.bool (utf8R s)) ∧ H = []) :=
  GCall.ofCalls (by kernel_rfl) trivial (fun w F vs hE hl hr => by
    obtain ⟨rfl, hs⟩ := arg1 hl hr
    rw [utf8R_valid]
    exact Any.utf8_ValidString Tryd.laysValid s w hs hE.1)
end Go.GH
namespace Go.GH
open Go

def encBy (r : Int) : List UInt8 := (Utf8.encode r).data.toList
def cY (n : Nat) : List DV := [.v (.int .u8 (n : Int))]
theorem encY_ofNat {n : Nat} (h : n < 256) : encY (UInt8.ofNat n) = cY n := by
  simp [encY, cY]; omega
theorem u8wrap {n : Int} (h : 0 ≤ n) : IntKind.u8.wrap n = n % 256 := by
  simp [IntKind.wrap, IntKind.signed, IntKind.bits]
  
theorem u32wrap {n : Int} (h : 0 ≤ n) (h2 : n ≤ 4294967295) : IntKind.u32.wrap n = n := wrap_id (by
  simp [IntKind.has, IntKind.min, IntKind.max, IntKind.signed, IntKind.bits]; omega)
def orB (a x : Int) : Int := IntKind.u8.wrap (BitVec.ofInt 8 a ||| BitVec.ofInt 8 x).toNat
def andB (a x : Int) : Int := IntKind.u8.wrap (BitVec.ofInt 8 a &&& BitVec.ofInt 8 x).toNat
theorem or192 : ∀ q : Fin 32, orB 192 ((q.val : Nat) : Int) = 192 + q.val := by decide +kernel
theorem or224 : ∀ q : Fin 16, orB 224 ((q.val : Nat) : Int) = 224 + q.val := by decide +kernel
theorem or240 : ∀ q : Fin 8, orB 240 ((q.val : Nat) : Int) = 240 + q.val := by decide +kernel
theorem or128 : ∀ q : Fin 64, orB 128 ((q.val : Nat) : Int) = 128 + q.val := by decide +kernel
theorem and63 : ∀ q : Fin 256, andB ((q.val : Nat) : Int) 63 = ((q.val % 64 : Nat) : Int) := by decide +kernel
theorem or192' {q : Nat} (h : q < 32) : orB 192 (q : Int) = ((192 + q : Nat) : Int) := by have := or192 ⟨q, h⟩; simpa using this
theorem or224' {q : Nat} (h : q < 16) : orB 224 (q : Int) = ((224 + q : Nat) : Int) := by have := or224 ⟨q, h⟩; simpa using this
theorem or240' {q : Nat} (h : q < 8) : orB 240 (q : Int) = ((240 + q : Nat) : Int) := by have := or240 ⟨q, h⟩; simpa using this
theorem or128' {q : Nat} (h : q < 64) : orB 128 (q : Int) = ((128 + q : Nat) : Int) := by have := or128 ⟨q, h⟩; simpa using this
theorem and63' {q : Nat} (h : q < 256) : andB (q : Int) 63 = ((q % 64 : Nat) : Int) := by have := and63 ⟨q, h⟩; simpa using this
theorem u8nat (n : Nat) : IntKind.u8.wrap (n : Int) = ((n % 256 : Nat) : Int) := by
  rw [u8wrap (by omega)]; omega
/-- the low six bits of place k -/
theorem low6 (c d : Nat) (hd : d ≠ 0) : orB 128 (andB (IntKind.u8.wrap ((c / d : Nat) : Int)) 63) = ((128 + c / d % 64 : Nat) : Int) := by
  rw [u8nat, and63' (by omega), or128' (by omega)]
  congr 2
  omega
theorem low60 (c : Nat) : orB 128 (andB (IntKind.u8.wrap ((c : Nat) : Int)) 63) = ((128 + c % 64 : Nat) : Int) := by
  have := low6 c 1 (by decide)
  simpa using this
theorem fdiv_nat (c d : Nat) : Int.fdiv (c : Int) (d : Int) = ((c / d : Nat) : Int) := by
  rw [Int.fdiv_eq_ediv_of_nonneg _ (by omega)]; rfl
theorem valid_cases {r : Int} (h : Utf8.valid r = true) : ∃ c : Nat, r = (c : Int) ∧ (c < 55296 ∨ (57344 ≤ c ∧ c ≤ 1114111)) := by
  simp only [Utf8.valid, Bool.or_eq_true, Bool.and_eq_true, decide_eq_true_eq] at h
  exact ⟨r.toNat, by omega, by omega⟩
theorem enc_1 {c : Nat} (hv : Utf8.valid (c : Int) = true) (h : c < 128) : Utf8.encode (c : Int) = ⟨#[UInt8.ofNat c]⟩ := by
  unfold Utf8.encode
  rw [if_pos hv]
  exact if_pos h
theorem enc_2 {c : Nat} (hv : Utf8.valid (c : Int) = true) (h0 : 128 ≤ c) (h : c < 2048) : Utf8.encode (c : Int) = ⟨#[UInt8.ofNat (192 + c / 64), UInt8.ofNat (128 + c % 64)]⟩ := by
  unfold Utf8.encode
  rw [if_pos hv]
  exact (if_neg (show ¬ c < 128 by omega)).trans (if_pos h)
theorem enc_3 {c : Nat} (hv : Utf8.valid (c : Int) = true) (h0 : 2048 ≤ c) (h : c < 65536) : Utf8.encode (c : Int) = ⟨#[UInt8.ofNat (224 + c / 4096), UInt8.ofNat (128 + c / 64 % 64), UInt8.ofNat (128 + c % 64)]⟩ := by
  unfold Utf8.encode
  rw [if_pos hv]
  exact (if_neg (show ¬ c < 128 by omega)).trans ((if_neg (show ¬ c < 2048 by omega)).trans (if_pos h))
theorem enc_4 {c : Nat} (hv : Utf8.valid (c : Int) = true) (h0 : 65536 ≤ c) : Utf8.encode (c : Int) = ⟨#[UInt8.ofNat (240 + c / 262144), UInt8.ofNat (128 + c / 4096 % 64), UInt8.ofNat (128 + c / 64 % 64), UInt8.ofNat (128 + c % 64)]⟩ := by
  unfold Utf8.encode
  rw [if_pos hv]
  exact (if_neg (show ¬ c < 128 by omega)).trans ((if_neg (show ¬ c < 2048 by omega)).trans (if_neg (show ¬ c < 65536 by omega)))
theorem encBy_1 {c : Nat} (hv : Utf8.valid (c : Int) = true) (h : c < 128) : (encBy (c : Int)).map encY = [cY c] := by
  rw [encBy, enc_1 hv h]
  show [encY (UInt8.ofNat c)] = _
  rw [encY_ofNat (show c < 256 by omega)]
theorem encBy_2 {c : Nat} (hv : Utf8.valid (c : Int) = true) (h0 : 128 ≤ c) (h : c < 2048) : (encBy (c : Int)).map encY = [cY (192 + c / 64), cY (128 + c % 64)] := by
  rw [encBy, enc_2 hv h0 h]
  show [encY (UInt8.ofNat (192 + c / 64)), encY (UInt8.ofNat (128 + c % 64))] = _
  rw [encY_ofNat (show 192 + c / 64 < 256 by omega), encY_ofNat (show 128 + c % 64 < 256 by omega)]
theorem encBy_3 {c : Nat} (hv : Utf8.valid (c : Int) = true) (h0 : 2048 ≤ c) (h : c < 65536) : (encBy (c : Int)).map encY = [cY (224 + c / 4096), cY (128 + c / 64 % 64), cY (128 + c % 64)] := by
  rw [encBy, enc_3 hv h0 h]
  show [encY (UInt8.ofNat (224 + c / 4096)), encY (UInt8.ofNat (128 + c / 64 % 64)), encY (UInt8.ofNat (128 + c % 64))] = _
  rw [encY_ofNat (show 224 + c / 4096 < 256 by omega), encY_ofNat (show 128 + c / 64 % 64 < 256 by omega), encY_ofNat (show 128 + c % 64 < 256 by omega)]
theorem encBy_4 {c : Nat} (hv : Utf8.valid (c : Int) = true) (h0 : 65536 ≤ c) (h : c ≤ 1114111) : (encBy (c : Int)).map encY = [cY (240 + c / 262144), cY (128 + c / 4096 % 64), cY (128 + c / 64 % 64), cY (128 + c % 64)] := by
  rw [encBy, enc_4 hv h0]
  show [encY (UInt8.ofNat (240 + c / 262144)), encY (UInt8.ofNat (128 + c / 4096 % 64)), encY (UInt8.ofNat (128 + c / 64 % 64)), encY (UInt8.ofNat (128 + c % 64))] = _
  rw [encY_ofNat (show 240 + c / 262144 < 256 by omega), encY_ofNat (show 128 + c / 4096 % 64 < 256 by omega), encY_ofNat (show 128 + c / 64 % 64 < 256 by omega), encY_ofNat (show 128 + c % 64 < 256 by omega)]
theorem encBy_len (r : Int) : (encBy r).length ≤ 4 := encode_size r
end Go.GH
namespace Go.GH
open Go Go.Lib

/-! #### a word is the bytes of its runes -/
theorem encBy_lib (c : Nat) (hv : Utf8.valid (c : Int) = true) : encBy (c : Int) = encodeRune (c : Int) := by
  obtain ⟨c', h1, hc⟩ := valid_cases hv
  have hcc : c' = c := by omega
  subst hcc
  have u : ∀ n : Nat, n < 256 → UInt8.ofNat n = (n : Int).toNat.toUInt8 := fun n _ => rfl
  unfold encodeRune
  by_cases h1 : c' < 128
  · rw [encBy, enc_1 hv h1, encodeRuneZ_one (by omega) (by omega)]; rfl
  · by_cases h2 : c' < 2048
    · rw [encBy, enc_2 hv (by omega) h2, encodeRuneZ_two (by omega) (by omega)]
      show [UInt8.ofNat (192 + c' / 64), UInt8.ofNat (128 + c' % 64)] = [(192 + (c' : Int) / 64).toNat.toUInt8, (128 + (c' : Int) % 64).toNat.toUInt8]
      rw [show (192 + (c' : Int) / 64).toNat = 192 + c' / 64 from by omega, show (128 + (c' : Int) % 64).toNat = 128 + c' % 64 from by omega]
    · by_cases h3 : c' < 65536
      · rw [encBy, enc_3 hv (by omega) h3, encodeRuneZ_three (by omega)]
        show [UInt8.ofNat (224 + c' / 4096), UInt8.ofNat (128 + c' / 64 % 64), UInt8.ofNat (128 + c' % 64)] = [(224 + (c' : Int) / 4096).toNat.toUInt8, (128 + (c' : Int) / 64 % 64).toNat.toUInt8, (128 + (c' : Int) % 64).toNat.toUInt8]
        rw [show (224 + (c' : Int) / 4096).toNat = 224 + c' / 4096 from by omega, show (128 + (c' : Int) / 64 % 64).toNat = 128 + c' / 64 % 64 from by omega, show (128 + (c' : Int) % 64).toNat = 128 + c' % 64 from by omega]
      · rw [encBy, enc_4 hv (by omega), encodeRuneZ_four (by omega) (by omega)]
        show [UInt8.ofNat (240 + c' / 262144), UInt8.ofNat (128 + c' / 4096 % 64), UInt8.ofNat (128 + c' / 64 % 64), UInt8.ofNat (128 + c' % 64)] = [(240 + (c' : Int) / 262144).toNat.toUInt8, (128 + (c' : Int) / 4096 % 64).toNat.toUInt8, (128 + (c' : Int) / 64 % 64).toNat.toUInt8, (128 + (c' : Int) % 64).toNat.toUInt8]
        rw [show (240 + (c' : Int) / 262144).toNat = 240 + c' / 262144 from by omega, show (128 + (c' : Int) / 4096 % 64).toNat = 128 + c' / 4096 % 64 from by omega, show (128 + (c' : Int) / 64 % 64).toNat = 128 + c' / 64 % 64 from by omega, show (128 + (c' : Int) % 64).toNat = 128 + c' % 64 from by omega]
theorem data_app2 (x y : ByteArray) : (x ++ y).data.toList = x.data.toList ++ y.data.toList := by simp
theorem encs_cons_data (r : Int) (rs : List Int) : (encs (r :: rs)).data.toList = encBy r ++ (encs rs).data.toList := by
  rw [encs, data_app2, encBy]
theorem step_bytes (s : ByteArray) (p : Nat) (hp : p < s.size) (h : stepOK s (p, ((Utf8.decode s p).1 : Int)) = true) : encBy ((Utf8.decode s p).1 : Int) = (s.data.toList.drop p).take (Utf8.decode s p).2 := by
  have hd := decodeL_drop s p
  have hlen : (s.data.toList.drop p).length = s.size - p := by simp
  have hne : s.data.toList.drop p ≠ [] := by
    intro h; rw [h] at hlen; simp at hlen; omega
  rw [step_valid s p hp] at h
  have h' : ¬ ((Utf8.decode s p).1 = 65533 ∧ (Utf8.decode s p).2 = 1) := fun hb => by rw [decide_eq_true hb] at h; cases h
  have := encode_decode _ hne (by rw [hd]; exact h')
  rw [hd] at this
  rw [← this, encBy_lib _ (decode_valid s p)]
theorem encs_at (s : ByteArray) : ∀ (f p : Nat), s.size - p ≤ f → (steps s p).all (stepOK s) = true → (encs (runesAt s p)).data.toList = s.data.toList.drop p
  | 0, p, h, _ => by rw [runesAt_ge (by omega), List.drop_eq_nil_of_le (by simp; omega)]; rfl
  | f + 1, p, h, hv => by
    by_cases hp : p < s.size
    · have hw := decode_w s p
      rw [steps_lt hp, List.all_cons, Bool.and_eq_true] at hv
      have ih := encs_at s f (p + (Utf8.decode s p).2) (by omega) hv.2
      rw [runesAt_lt hp, encs_cons_data, ih, step_bytes s p hp hv.1, ← List.drop_drop, List.take_append_drop]
    · rw [runesAt_ge (by omega), List.drop_eq_nil_of_le (by simp; omega)]; rfl
theorem encs_runes {s : ByteArray} (h : utf8R s = true) : encs (runes s) = s := by
  have := encs_at s _ 0 (Nat.le_refl _) h
  rw [runesAt_zero, List.drop_zero] at this
  apply ByteArray.ext
  exact Array.toList_inj.1 this
theorem encs_append : ∀ x y : List Int, encs (x ++ y) = encs x ++ encs y
  | [], y => by
    apply ByteArray.ext
    simp [encs]
  | r :: x, y => by rw [List.cons_append, encs, encs, encs_append x y, ByteArray.append_assoc]
end Go.GH
namespace Go.GH
open Go

theorem okR_to {a : List Letter} {r : Rule} {s : ByteArray} (h : okR a r s = true) : (runes r.«to»).length ≤ 4 ∧ (runes s).length ≤ 40 ∧ utf8R r.«to» = true := by
  simp only [okR, validR, consS_eq, Bool.and_eq_true, decide_eq_true_eq] at h
  exact ⟨h.1.1.1.2.1.2, h.2.1.2, h.1.1.1.2.1.1⟩
def resX (a : List Letter) (r : Rule) (s : ByteArray) (l : List Nat) : ByteArray × Int :=
  if okR a r s then (if 40 < (runes (encs (resF r.fr (runes r.«to») (runes s) 0 l))).length then (⟨#[]⟩, 2) else (encs (resF r.fr (runes r.«to») (runes s) 0 l), 0)) else (⟨#[]⟩, 1)
def applyR (a : List Letter) (r : Rule) (s : ByteArray) : ByteArray × Int := resX a r s (sitesR a r s)
def tupA (x : ByteArray × Int) : DV := .tup [.v (.string x.1), .v (.int .i64 x.2)]
theorem resX_size (a : List Letter) (r : Rule) (s : ByteArray) (l : List Nat) : (resX a r s l).1.size ≤ 1048576 := by
  unfold resX
  split
  · rename_i h
    obtain ⟨h1, h2, _⟩ := okR_to h
    split
    · decide
    · have k1 := resF_len r.fr (runes r.«to») (runes s) 0 l
      have k2 := runesBytes_size_le (resF r.fr (runes r.«to») (runes s) 0 l)
      rw [encs_eq] at k2
      have k3 : ((runes s).length + 1) * ((runes r.«to»).length + 1) ≤ 41 * 5 := Nat.mul_le_mul (by omega) (by omega)
      show (encs _).size ≤ _
      omega
  · decide
theorem encs_cons (c : Int) (w : List Int) : encs (c :: w) = Utf8.encode c ++ encs w := rfl
end Go.GH
