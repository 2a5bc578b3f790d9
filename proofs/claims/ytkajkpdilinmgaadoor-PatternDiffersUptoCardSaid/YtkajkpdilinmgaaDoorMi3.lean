/-
  Part 3 of the texts behind the walks of this claim: an own layer over the kit's wp, plain laws, and walks. No conditions.
-/
import Derived.Test.YtkajkpdilinmgaaDoorMi2
import Derived.Test.YtkajkpdilinmgaaDoorProg
import Derived.DeepKeys3
set_option linter.unusedVariables false
set_option linter.unusedSimpArgs false
set_option linter.deprecated false
namespace Go.GH
open Go Go.Proofs
variable {E : Env}
theorem aggB_56_4 : aggB Tryd.prog 56 4 = true := by kernel_rfl
theorem aggB_69_2 : aggB Tryd.prog 69 2 = true := by kernel_rfl
theorem boolTy_4 : boolTy Tryd.prog 4 = true := by kernel_rfl
theorem elemB_25_1_24 : elemB Tryd.prog 25 1 24 = true := by kernel_rfl
theorem elemB_3_1_8 : elemB Tryd.prog 3 1 8 = true := by kernel_rfl
theorem elemB_4_1_1 : elemB Tryd.prog 4 1 1 = true := by kernel_rfl
theorem elemB_56_4_32 : elemB Tryd.prog 56 4 32 = true := by kernel_rfl
theorem fieldB_56_0_0 : fieldB Tryd.prog 56 0 0 = true := by kernel_rfl
theorem fieldB_56_1_1 : fieldB Tryd.prog 56 1 1 = true := by kernel_rfl
theorem fieldB_56_2_2 : fieldB Tryd.prog 56 2 2 = true := by kernel_rfl
theorem fieldB_56_3_3 : fieldB Tryd.prog 56 3 3 = true := by kernel_rfl
theorem fieldB_69_0_0 : fieldB Tryd.prog 69 0 0 = true := by kernel_rfl
theorem fieldB_69_1_1 : fieldB Tryd.prog 69 1 1 = true := by kernel_rfl
theorem flatB_21 : flatB Tryd.prog 21 = true := by kernel_rfl
theorem flatB_23 : flatB Tryd.prog 23 = true := by kernel_rfl
theorem flatB_25 : flatB Tryd.prog 25 = true := by kernel_rfl
theorem flatB_3 : flatB Tryd.prog 3 = true := by kernel_rfl
theorem flatB_4 : flatB Tryd.prog 4 = true := by kernel_rfl
theorem flatB_54 : flatB Tryd.prog 54 = true := by kernel_rfl
theorem flatB_66 : flatB Tryd.prog 66 = true := by kernel_rfl
theorem flatB_9 : flatB Tryd.prog 9 = true := by kernel_rfl
theorem mapB_71 : mapB Tryd.prog 71 21 3 (.int .i32) := ⟨by kernel_rfl, by kernel_rfl⟩
theorem mixed_ : Tryd.prog.follows .mixedOrders = true := by kernel_rfl
theorem oneB_25 : oneB Tryd.prog 25 = true := by kernel_rfl
theorem oneB_3 : oneB Tryd.prog 3 = true := by kernel_rfl
theorem oneB_4 : oneB Tryd.prog 4 = true := by kernel_rfl
theorem oneB_66 : oneB Tryd.prog 66 = true := by kernel_rfl
theorem sliceB_22_69_2 : sliceB Tryd.prog 22 69 2 = true := by kernel_rfl
theorem sliceB_23_56_4 : sliceB Tryd.prog 23 56 4 = true := by kernel_rfl
theorem sliceB_25_4_1 : sliceB Tryd.prog 25 4 1 = true := by kernel_rfl
theorem sliceB_39_3_1 : sliceB Tryd.prog 39 3 1 = true := by kernel_rfl
theorem sliceB_66_25_1 : sliceB Tryd.prog 66 25 1 = true := by kernel_rfl
theorem strB_9 : strB Tryd.prog 9 = true := by kernel_rfl
theorem zeroIs_25 : zeroIs Tryd.prog 25 (.slice none 0 0) := by unfold zeroIs; kernel_rfl
theorem zeroIs_3 : zeroIs Tryd.prog 3 (.int .i64 0) := by unfold zeroIs; kernel_rfl
theorem zeroIs_4 : zeroIs Tryd.prog 4 (.bool false) := by unfold zeroIs; kernel_rfl
theorem zeroIs_56 : zeroIs Tryd.prog 56 (.agg #[.int .u32 0, .string .empty, .bool false, .bool false]) := by unfold zeroIs; kernel_rfl
theorem zeroIs_66 : zeroIs Tryd.prog 66 (.slice none 0 0) := by unfold zeroIs; kernel_rfl
theorem zeroIs_69 : zeroIs Tryd.prog 69 (.agg #[.int .i32 0, .int .u32 0]) := by unfold zeroIs; kernel_rfl
def VS (E : Env) : Prop := ∀ s : ByteArray, GCall Tryd.prog E 61 [.v (.string s)] [] (fun d H => d = .v (.bool (utf8R s)) ∧ H = [])
theorem uValidRune (r : Int)  : GCall Tryd.prog E 60 [.v (.int .i32 r)] [] (fun d H => d = .v (.bool (runeOK r)) ∧ H = []) := by
  refine GCall.body (C := ⟨Tryd.prog, E, true⟩) Tryd.func60 rfl (fun _ => rfl) (by kernel_rfl) rfl ?_
  refine SCode.seqR ?_
  refine SOps.assign rfl ?_
  refine SOps.nil ?_
  refine SCode.seq ?_
  refine SCode.block ?_
  refine SCode.seqR ?_
  refine SOps.move rfl ?_
  refine SOps.bin rfl rfl rfl ?_
  refine SOps.move rfl ?_
  refine SOps.caseB 6 rfl (fun hb1 => ?_) (fun hb1 => ?_)
  · try simp only [decide_eq_true_eq, decide_eq_false_iff_not, Bool.not_eq_true', Bool.not_eq_false', beq_iff_eq, bne_iff_ne, ne_eq, beq_eq_false_iff_ne, bne_eq_false_iff_eq, Int.not_lt, Int.not_le, Nat.not_lt, Nat.not_le, Int.ofNat_lt, Int.ofNat_le, Bool.not_eq_eq_eq_not, Bool.not_true, Bool.not_false] at hb1
    refine SOps.move rfl ?_
    refine SOps.bin rfl rfl rfl ?_
    refine SOps.pick rfl rfl ?_
    refine SOps.assign rfl ?_
    refine SOps.nil ?_
    refine SCode.cond rfl (fun hc2 => ?_) (fun hc2 => ?_)
    · try simp only [decide_eq_true_eq, decide_eq_false_iff_not, Bool.not_eq_true', Bool.not_eq_false', beq_iff_eq, bne_iff_ne, ne_eq, beq_eq_false_iff_ne, bne_eq_false_iff_eq, Int.not_lt, Int.not_le, Nat.not_lt, Nat.not_le, Int.ofNat_lt, Int.ofNat_le, Bool.not_eq_eq_eq_not, Bool.not_true, Bool.not_false] at hc2
      refine SCode.seqR ?_
      refine SOps.assign rfl ?_
      refine SOps.nil ?_
      refine SCode.ret ?_
      exact ⟨_, Res.one (.tmp rfl), congrArg (fun b => DV.v (.bool b)) (by rw [Bool.eq_iff_iff]; simp only [runeOK, decide_eq_true_eq, Bool.false_eq_true, Bool.true_eq_false, beq_iff_eq]; first | omega | (simp; omega)), rfl⟩
    · try simp only [decide_eq_true_eq, decide_eq_false_iff_not, Bool.not_eq_true', Bool.not_eq_false', beq_iff_eq, bne_iff_ne, ne_eq, beq_eq_false_iff_ne, bne_eq_false_iff_eq, Int.not_lt, Int.not_le, Nat.not_lt, Nat.not_le, Int.ofNat_lt, Int.ofNat_le, Bool.not_eq_eq_eq_not, Bool.not_true, Bool.not_false] at hc2
      refine SCode.seqR ?_
      refine SOps.move rfl ?_
      refine SOps.bin rfl rfl rfl ?_
      refine SOps.move rfl ?_
      refine SOps.caseB 13 rfl (fun hb3 => ?_) (fun hb3 => ?_)
      · try simp only [decide_eq_true_eq, decide_eq_false_iff_not, Bool.not_eq_true', Bool.not_eq_false', beq_iff_eq, bne_iff_ne, ne_eq, beq_eq_false_iff_ne, bne_eq_false_iff_eq, Int.not_lt, Int.not_le, Nat.not_lt, Nat.not_le, Int.ofNat_lt, Int.ofNat_le, Bool.not_eq_eq_eq_not, Bool.not_true, Bool.not_false] at hb3
        refine SOps.move rfl ?_
        refine SOps.bin rfl rfl rfl ?_
        refine SOps.pick rfl rfl ?_
        refine SOps.assign rfl ?_
        refine SOps.nil ?_
        refine SCode.cond rfl (fun hc4 => ?_) (fun hc4 => ?_)
        · try simp only [decide_eq_true_eq, decide_eq_false_iff_not, Bool.not_eq_true', Bool.not_eq_false', beq_iff_eq, bne_iff_ne, ne_eq, beq_eq_false_iff_ne, bne_eq_false_iff_eq, Int.not_lt, Int.not_le, Nat.not_lt, Nat.not_le, Int.ofNat_lt, Int.ofNat_le, Bool.not_eq_eq_eq_not, Bool.not_true, Bool.not_false] at hc4
          refine SCode.seqR ?_
          refine SOps.assign rfl ?_
          refine SOps.nil ?_
          refine SCode.ret ?_
          exact ⟨_, Res.one (.tmp rfl), congrArg (fun b => DV.v (.bool b)) (by rw [Bool.eq_iff_iff]; simp only [runeOK, decide_eq_true_eq, Bool.false_eq_true, Bool.true_eq_false, beq_iff_eq]; first | omega | (simp; omega)), rfl⟩
        · try simp only [decide_eq_true_eq, decide_eq_false_iff_not, Bool.not_eq_true', Bool.not_eq_false', beq_iff_eq, bne_iff_ne, ne_eq, beq_eq_false_iff_ne, bne_eq_false_iff_eq, Int.not_lt, Int.not_le, Nat.not_lt, Nat.not_le, Int.ofNat_lt, Int.ofNat_le, Bool.not_eq_eq_eq_not, Bool.not_true, Bool.not_false] at hc4
          refine SCode.skip ?_
          show SCode _ _ _ _
          refine SCode.seqR ?_
          refine SOps.assign rfl ?_
          refine SOps.nil ?_
          refine SCode.ret ?_
          exact ⟨_, Res.one (.tmp rfl), congrArg (fun b => DV.v (.bool b)) (by rw [Bool.eq_iff_iff]; simp only [runeOK, decide_eq_true_eq, Bool.false_eq_true, Bool.true_eq_false, beq_iff_eq]; first | omega | (simp; omega)), rfl⟩
      · try simp only [decide_eq_true_eq, decide_eq_false_iff_not, Bool.not_eq_true', Bool.not_eq_false', beq_iff_eq, bne_iff_ne, ne_eq, beq_eq_false_iff_ne, bne_eq_false_iff_eq, Int.not_lt, Int.not_le, Nat.not_lt, Nat.not_le, Int.ofNat_lt, Int.ofNat_le, Bool.not_eq_eq_eq_not, Bool.not_true, Bool.not_false] at hb3
        refine SOps.skip rfl ?_
        refine SOps.skip rfl ?_
        refine SOps.pick rfl rfl ?_
        refine SOps.assign rfl ?_
        refine SOps.nil ?_
        refine SCode.cond rfl (fun h => by cases h) (fun _ => ?_)
        refine SCode.skip ?_
        show SCode _ _ _ _
        refine SCode.seqR ?_
        refine SOps.assign rfl ?_
        refine SOps.nil ?_
        refine SCode.ret ?_
        exact ⟨_, Res.one (.tmp rfl), congrArg (fun b => DV.v (.bool b)) (by rw [Bool.eq_iff_iff]; simp only [runeOK, decide_eq_true_eq, Bool.false_eq_true, Bool.true_eq_false, beq_iff_eq]; first | omega | (simp; omega)), rfl⟩
  · try simp only [decide_eq_true_eq, decide_eq_false_iff_not, Bool.not_eq_true', Bool.not_eq_false', beq_iff_eq, bne_iff_ne, ne_eq, beq_eq_false_iff_ne, bne_eq_false_iff_eq, Int.not_lt, Int.not_le, Nat.not_lt, Nat.not_le, Int.ofNat_lt, Int.ofNat_le, Bool.not_eq_eq_eq_not, Bool.not_true, Bool.not_false] at hb1
    refine SOps.skip rfl ?_
    refine SOps.skip rfl ?_
    refine SOps.pick rfl rfl ?_
    refine SOps.assign rfl ?_
    refine SOps.nil ?_
    refine SCode.cond rfl (fun h => by cases h) (fun _ => ?_)
    refine SCode.seqR ?_
    refine SOps.move rfl ?_
    refine SOps.bin rfl rfl rfl ?_
    refine SOps.move rfl ?_
    refine SOps.caseB 13 rfl (fun hb5 => ?_) (fun hb5 => ?_)
    · try simp only [decide_eq_true_eq, decide_eq_false_iff_not, Bool.not_eq_true', Bool.not_eq_false', beq_iff_eq, bne_iff_ne, ne_eq, beq_eq_false_iff_ne, bne_eq_false_iff_eq, Int.not_lt, Int.not_le, Nat.not_lt, Nat.not_le, Int.ofNat_lt, Int.ofNat_le, Bool.not_eq_eq_eq_not, Bool.not_true, Bool.not_false] at hb5
      refine SOps.move rfl ?_
      refine SOps.bin rfl rfl rfl ?_
      refine SOps.pick rfl rfl ?_
      refine SOps.assign rfl ?_
      refine SOps.nil ?_
      refine SCode.cond rfl (fun hc6 => ?_) (fun hc6 => ?_)
      · try simp only [decide_eq_true_eq, decide_eq_false_iff_not, Bool.not_eq_true', Bool.not_eq_false', beq_iff_eq, bne_iff_ne, ne_eq, beq_eq_false_iff_ne, bne_eq_false_iff_eq, Int.not_lt, Int.not_le, Nat.not_lt, Nat.not_le, Int.ofNat_lt, Int.ofNat_le, Bool.not_eq_eq_eq_not, Bool.not_true, Bool.not_false] at hc6
        refine SCode.seqR ?_
        refine SOps.assign rfl ?_
        refine SOps.nil ?_
        refine SCode.ret ?_
        exact ⟨_, Res.one (.tmp rfl), congrArg (fun b => DV.v (.bool b)) (by rw [Bool.eq_iff_iff]; simp only [runeOK, decide_eq_true_eq, Bool.false_eq_true, Bool.true_eq_false, beq_iff_eq]; first | omega | (simp; omega)), rfl⟩
      · try simp only [decide_eq_true_eq, decide_eq_false_iff_not, Bool.not_eq_true', Bool.not_eq_false', beq_iff_eq, bne_iff_ne, ne_eq, beq_eq_false_iff_ne, bne_eq_false_iff_eq, Int.not_lt, Int.not_le, Nat.not_lt, Nat.not_le, Int.ofNat_lt, Int.ofNat_le, Bool.not_eq_eq_eq_not, Bool.not_true, Bool.not_false] at hc6
        refine SCode.skip ?_
        show SCode _ _ _ _
        refine SCode.seqR ?_
        refine SOps.assign rfl ?_
        refine SOps.nil ?_
        refine SCode.ret ?_
        exact ⟨_, Res.one (.tmp rfl), congrArg (fun b => DV.v (.bool b)) (by rw [Bool.eq_iff_iff]; simp only [runeOK, decide_eq_true_eq, Bool.false_eq_true, Bool.true_eq_false, beq_iff_eq]; first | omega | (simp; omega)), rfl⟩
    · try simp only [decide_eq_true_eq, decide_eq_false_iff_not, Bool.not_eq_true', Bool.not_eq_false', beq_iff_eq, bne_iff_ne, ne_eq, beq_eq_false_iff_ne, bne_eq_false_iff_eq, Int.not_lt, Int.not_le, Nat.not_lt, Nat.not_le, Int.ofNat_lt, Int.ofNat_le, Bool.not_eq_eq_eq_not, Bool.not_true, Bool.not_false] at hb5
      refine SOps.skip rfl ?_
      refine SOps.skip rfl ?_
      refine SOps.pick rfl rfl ?_
      refine SOps.assign rfl ?_
      refine SOps.nil ?_
      refine SCode.cond rfl (fun h => by cases h) (fun _ => ?_)
      refine SCode.skip ?_
      show SCode _ _ _ _
      refine SCode.seqR ?_
      refine SOps.assign rfl ?_
      refine SOps.nil ?_
      refine SCode.ret ?_
      exact ⟨_, Res.one (.tmp rfl), congrArg (fun b => DV.v (.bool b)) (by rw [Bool.eq_iff_iff]; simp only [runeOK, decide_eq_true_eq, Bool.false_eq_true, Bool.true_eq_false, beq_iff_eq]; first | omega | (simp; omega)), rfl⟩
theorem pProper (a : List Letter)  : GCall Tryd.prog E 40 [DLs a] [] (fun d H => d = (if properB a then .tup [.imap ((mapOf a).map encE), .v (.bool (decide ((a.length : Int) ≤ 65)))] else .tup [.v (.map none), .v (.bool false)]) ∧ H = []) := by
  refine GCall.body (C := ⟨Tryd.prog, E, true⟩) Tryd.func40 rfl (fun _ => rfl) (by kernel_rfl) rfl ?_
  refine SCode.seqR ?_
  refine SOps.assign rfl ?_
  refine SOps.assign rfl ?_
  refine SOps.nil ?_
  refine SCode.seqR ?_
  refine SOps.move rfl ?_
  refine SOps.lenM rfl sliceB_22_69_2 ?_
  refine SOps.makeMapN mapB_71 rfl (fun b0 hb_0 => ?_)
  refine SOps.assign rfl ?_
  refine SOps.nil ?_
  refine SCode.seq ?_
  refine SCode.seqR ?_
  refine SOps.move rfl ?_
  refine SOps.lenM rfl sliceB_22_69_2 ?_
  refine SOps.move rfl ?_
  refine SOps.nil ?_
  refine SCode.block ?_
  refine SCode.loop2 (fun (i : Nat) (b : Nat) => (⟨47, [(0, DLs a), (4, .mp b), (12, DLs a), (13, .v (.int .i64 (a.length : Int))), (14, .v (.int .i64 (i : Int)))], [(b, .map ((mapOf (a.take i)).map encE))]⟩ : St)) (fun (i : Nat) (b : Nat) => i ≤ a.length ∧ (∀ l ∈ a.take i, goodR l.rune = true) ∧ ((a.take i).map (·.rune)).Nodup) (fun (i : Nat) (b : Nat) => a.length - i) (0) (b0) (by simp) (St.Le.of ⟨(by first | rfl | (show some _ = some _; simp)), (by first | rfl | (show some _ = some _; simp)), (by first | rfl | (show some _ = some _; simp)), (by first | rfl | (show some _ = some _; simp)), (by first | rfl | (show some _ = some _; simp)), trivial⟩ rfl (by first | rfl | (simp))) ?_
  rintro i b ⟨hi, hf⟩
  refine SCode.fact (isl_len (t := 0) rfl) (fun hB => ?_)
  simp only [List.length_map, lenB] at hB
  refine SCode.seqR ?_
  refine SOps.bin rfl rfl rfl ?_
  refine SOps.nil ?_
  refine SCode.seq ?_
  refine SCode.cond rfl (fun hc1 => ?_) (fun hc1 => ?_)
  · try simp only [decide_eq_true_eq, decide_eq_false_iff_not, Bool.not_eq_true', Bool.not_eq_false', beq_iff_eq, bne_iff_ne, ne_eq, beq_eq_false_iff_ne, bne_eq_false_iff_eq, Int.not_lt, Int.not_le, Nat.not_lt, Nat.not_le, Int.ofNat_lt, Int.ofNat_le, Bool.not_eq_eq_eq_not, Bool.not_true, Bool.not_false] at hc1
    refine SCode.skip ?_
    show SCode _ _ _ _
    refine SCode.seq ?_
    refine SCode.block ?_
    refine SCode.seqR ?_
    refine SOps.move rfl ?_
    refine SOps.indexM (i) rfl rfl sliceB_22_69_2 (by omega) (by omega) ?_
    refine SOps.loadPinA rfl aggB_69_2 (Nat.le_of_ble_eq_true rfl) ?_
    refine SOps.alloc (sz := 2) zeroIs_69 (fun b1 hb_1 => ?_)
    refine SOps.assign rfl ?_
    refine SOps.storeAM 0 rfl rfl aggB_69_2 rfl ?_
    refine SOps.freezeRef (t := 6) 0 0 rfl rfl rfl rfl rfl ?_
    refine SOps.nil ?_
    refine SCode.seq ?_
    refine SCode.seqR ?_
    refine SOps.move rfl ?_
    refine SOps.fieldPin rfl fieldB_69_0_0 ?_
    refine SOps.loadPin rfl flatB_21 ?_
    refine SOps.lookupOM 0 (idx (a.take i) (a[i]).rune) (fun i => DV.v (.int .i64 ((i : Nat) : Int))) rfl rfl rfl mapB_71 (keys_enc _) zeroIs_3 (lookup_mapOf _ _) (fun y2 hy2 => ?_) (fun hy2 => ?_)
    · refine SOps.move rfl ?_
      refine SOps.extract rfl rfl ?_
      refine SOps.extract rfl rfl ?_
      refine SOps.assign rfl ?_
      refine SOps.assign rfl ?_
      refine SOps.nil ?_
      refine SCode.seqR ?_
      refine SOps.move rfl ?_
      refine SOps.move rfl ?_
      refine SOps.skip rfl ?_
      refine SOps.skip rfl ?_
      refine SOps.skip rfl ?_
      refine SOps.pick rfl rfl ?_
      refine SOps.move rfl ?_
      refine SOps.skip rfl ?_
      refine SOps.skip rfl ?_
      refine SOps.skip rfl ?_
      refine SOps.skip rfl ?_
      refine SOps.pick rfl rfl ?_
      refine SOps.nil ?_
      refine SCode.cond rfl (fun _ => ?_) (fun h => by cases h)
      refine SCode.seqR ?_
      refine SOps.assign rfl ?_
      refine SOps.assign rfl ?_
      refine SOps.nil ?_
      refine SCode.drop ?_
      refine SCode.ret ?_
      exact ⟨_, Res.two (.tmp rfl) (.tmp rfl), by rw [if_neg (fun h => by have := ((nodup_snoc (show i < a.length by omega)).1 (properB_take h (i + 1)).2).2; rw [this] at hy2; cases hy2)], rfl⟩
    · refine SOps.move rfl ?_
      refine SOps.extract rfl rfl ?_
      refine SOps.extract rfl rfl ?_
      refine SOps.assign rfl ?_
      refine SOps.assign rfl ?_
      refine SOps.nil ?_
      refine SCode.seqR ?_
      refine SOps.move rfl ?_
      refine SOps.move rfl ?_
      refine SOps.fieldPin rfl fieldB_69_0_0 ?_
      refine SOps.loadPin rfl flatB_21 ?_
      refine SOps.bin rfl rfl rfl ?_
      refine SOps.pick rfl rfl ?_
      refine SOps.move rfl ?_
      refine SOps.caseB 32 rfl (fun hb3 => ?_) (fun hb3 => ?_)
      · try simp only [decide_eq_true_eq, decide_eq_false_iff_not, Bool.not_eq_true', Bool.not_eq_false', beq_iff_eq, bne_iff_ne, ne_eq, beq_eq_false_iff_ne, bne_eq_false_iff_eq, Int.not_lt, Int.not_le, Nat.not_lt, Nat.not_le, Int.ofNat_lt, Int.ofNat_le, Bool.not_eq_eq_eq_not, Bool.not_true, Bool.not_false] at hb3
        refine SOps.skip rfl ?_
        refine SOps.skip rfl ?_
        refine SOps.skip rfl ?_
        refine SOps.skip rfl ?_
        refine SOps.pick rfl rfl ?_
        refine SOps.nil ?_
        refine SCode.cond rfl (fun _ => ?_) (fun h => by cases h)
        refine SCode.seqR ?_
        refine SOps.assign rfl ?_
        refine SOps.assign rfl ?_
        refine SOps.nil ?_
        refine SCode.drop ?_
        refine SCode.ret ?_
        exact ⟨_, Res.two (.tmp rfl) (.tmp rfl), by rw [if_neg (fun h => by have := goodR_split.1 ((properB_iff.1 h).1 _ (List.getElem_mem (show i < a.length by omega))); omega)], rfl⟩
      · try simp only [decide_eq_true_eq, decide_eq_false_iff_not, Bool.not_eq_true', Bool.not_eq_false', beq_iff_eq, bne_iff_ne, ne_eq, beq_eq_false_iff_ne, bne_eq_false_iff_eq, Int.not_lt, Int.not_le, Nat.not_lt, Nat.not_le, Int.ofNat_lt, Int.ofNat_le, Bool.not_eq_eq_eq_not, Bool.not_true, Bool.not_false] at hb3
        refine SOps.fieldPin rfl fieldB_69_0_0 ?_
        refine SOps.loadPin rfl flatB_21 ?_
        refine SOps.callP (uValidRune _) rfl ?_
        rintro _ rfl
        refine SOps.un rfl rfl ?_
        refine SOps.pick rfl rfl ?_
        refine SOps.nil ?_
        refine SCode.cond rfl (fun hc4 => ?_) (fun hc4 => ?_)
        · try simp only [decide_eq_true_eq, decide_eq_false_iff_not, Bool.not_eq_true', Bool.not_eq_false', beq_iff_eq, bne_iff_ne, ne_eq, beq_eq_false_iff_ne, bne_eq_false_iff_eq, Int.not_lt, Int.not_le, Nat.not_lt, Nat.not_le, Int.ofNat_lt, Int.ofNat_le, Bool.not_eq_eq_eq_not, Bool.not_true, Bool.not_false] at hc4
          refine SCode.seqR ?_
          refine SOps.assign rfl ?_
          refine SOps.assign rfl ?_
          refine SOps.nil ?_
          refine SCode.drop ?_
          refine SCode.ret ?_
          exact ⟨_, Res.two (.tmp rfl) (.tmp rfl), by rw [if_neg (fun h => by have := goodR_split.1 ((properB_iff.1 h).1 _ (List.getElem_mem (show i < a.length by omega))); rw [this.2] at hc4; cases hc4)], rfl⟩
        · try simp only [decide_eq_true_eq, decide_eq_false_iff_not, Bool.not_eq_true', Bool.not_eq_false', beq_iff_eq, bne_iff_ne, ne_eq, beq_eq_false_iff_ne, bne_eq_false_iff_eq, Int.not_lt, Int.not_le, Nat.not_lt, Nat.not_le, Int.ofNat_lt, Int.ofNat_le, Bool.not_eq_eq_eq_not, Bool.not_true, Bool.not_false] at hc4
          refine SCode.skip ?_
          show SCode _ _ _ _
          refine SCode.region ?_
          refine SOps.move rfl ?_
          refine SOps.fieldPin rfl fieldB_69_0_0 ?_
          refine SOps.loadPin rfl flatB_21 ?_
          refine SOps.move rfl ?_
          refine SOps.mapUpdate 0 rfl rfl rfl rfl mapB_71 rfl (keys_enc _) ?_
          refine SOps.nil ?_
          show SCode _ _ _ _
          refine SCode.region ?_
          refine SOps.addI rfl rfl (by omega) (by omega) ?_
          refine SOps.move rfl ?_
          refine SOps.nil ?_
          exact ⟨i + 1, b, ⟨by omega, take_more hf.1 (by omega) (goodR_split.2 ⟨by omega, hc4⟩), (nodup_snoc (by omega)).2 ⟨hf.2, hy2⟩⟩, by omega, St.Le.of ⟨rfl, rfl, rfl, rfl, rfl, trivial⟩ rfl (congrArg (fun x => [(b, DO.map x)]) (by rw [mapOf_snoc (by omega)]; exact (upd_enc _ _ _ (by rw [findE_mapOf]; exact hy2)).symm))⟩
  · try simp only [decide_eq_true_eq, decide_eq_false_iff_not, Bool.not_eq_true', Bool.not_eq_false', beq_iff_eq, bne_iff_ne, ne_eq, beq_eq_false_iff_ne, bne_eq_false_iff_eq, Int.not_lt, Int.not_le, Nat.not_lt, Nat.not_le, Int.ofNat_lt, Int.ofNat_le, Bool.not_eq_eq_eq_not, Bool.not_true, Bool.not_false] at hc1
    refine SCode.exit ?_
    show SCode _ _ _ _
    refine SCode.seqR ?_
    refine SOps.freezeMap (t := 4) 0 rfl rfl rfl ?_
    refine SOps.move rfl ?_
    refine SOps.move rfl ?_
    refine SOps.lenM rfl sliceB_22_69_2 ?_
    refine SOps.bin rfl rfl rfl ?_
    refine SOps.assign rfl ?_
    refine SOps.assign rfl ?_
    refine SOps.nil ?_
    refine SCode.drop ?_
    refine SCode.ret ?_
    rw [List.take_of_length_le (by omega)] at hf ⊢
    exact ⟨_, Res.two (.tmp rfl) (.tmp rfl), by rw [if_pos (properB_iff.2 hf)], rfl⟩
theorem pOver (hV : VS E) (a : List Letter) (s : ByteArray) (hs : s.size ≤ 1048576) : GCall Tryd.prog E 41 [DMap a, .v (.string s)] [] (fun d H => d = (if overA a s then .tup [DNats (idxs a s), .v (.bool true)] else .tup [.v (.slice none 0 0), .v (.bool false)]) ∧ H = []) := by
  refine GCall.body (C := ⟨Tryd.prog, E, true⟩) Tryd.func41 rfl (fun _ => rfl) (by kernel_rfl) rfl ?_
  refine SCode.seqR ?_
  refine SOps.assign rfl ?_
  refine SOps.assign rfl ?_
  refine SOps.nil ?_
  refine SCode.seq ?_
  refine SCode.seqR ?_
  refine SOps.move rfl ?_
  refine SOps.callP (hV _) rfl ?_
  rintro _ rfl
  refine SOps.un rfl rfl ?_
  refine SOps.nil ?_
  refine SCode.cond rfl (fun hc1 => ?_) (fun hc1 => ?_)
  · try simp only [decide_eq_true_eq, decide_eq_false_iff_not, Bool.not_eq_true', Bool.not_eq_false', beq_iff_eq, bne_iff_ne, ne_eq, beq_eq_false_iff_ne, bne_eq_false_iff_eq, Int.not_lt, Int.not_le, Nat.not_lt, Nat.not_le, Int.ofNat_lt, Int.ofNat_le, Bool.not_eq_eq_eq_not, Bool.not_true, Bool.not_false] at hc1
    refine SCode.seqR ?_
    refine SOps.assign rfl ?_
    refine SOps.assign rfl ?_
    refine SOps.nil ?_
    refine SCode.ret ?_
    have hov : overA a s = false := Bool.eq_false_iff.2 (fun h => by simp only [overA, Bool.and_eq_true] at h; rw [h.1] at hc1; cases hc1)
    exact ⟨_, Res.two (.tmp rfl) (.tmp rfl), by rw [hov]; rfl, rfl⟩
  · try simp only [decide_eq_true_eq, decide_eq_false_iff_not, Bool.not_eq_true', Bool.not_eq_false', beq_iff_eq, bne_iff_ne, ne_eq, beq_eq_false_iff_ne, bne_eq_false_iff_eq, Int.not_lt, Int.not_le, Nat.not_lt, Nat.not_le, Int.ofNat_lt, Int.ofNat_le, Bool.not_eq_eq_eq_not, Bool.not_true, Bool.not_false] at hc1
    refine SCode.skip ?_
    show SCode _ _ _ _
    refine SCode.seqR ?_
    refine SOps.assign rfl ?_
    refine SOps.nil ?_
    refine SCode.seq ?_
    refine SCode.seqR ?_
    refine SOps.move rfl ?_
    refine SOps.rangeStr rfl strB_9 (fun b0 hb_0 => ?_)
    refine SOps.nil ?_
    refine SCode.block ?_
    refine SCode.loop4 (fun (p : Nat) (b : Nat) (l : List Nat) (c : Nat) => (⟨32, [(0, DMap a), (6, accD 1 c (l.map encN)), (15, .it b)], [(b, .iter s p)] ++ (accH 3 1 c (l.map encN) ++ [])⟩ : St)) (fun (p : Nat) (b : Nat) (l : List Nat) (c : Nat) => l.length ≤ p ∧ (runesAt s p).all (fun r => (idx a r).isSome) = (runes s).all (fun r => (idx a r).isSome) ∧ l ++ (runesAt s p).map (fun r => (idx a r).getD 0) = idxs a s) (fun (p : Nat) (b : Nat) (l : List Nat) (c : Nat) => s.size - p) (0) (b0) ([]) (0) (by exact ⟨Nat.le_refl _, rfl, rfl⟩) (St.Le.of ⟨(by first | rfl | (show some _ = some _; simp)), (by first | rfl | (show some _ = some _; simp)), (by first | rfl | (show some _ = some _; simp)), trivial⟩ rfl (by first | rfl | (simp))) ?_
    rintro p b l c ⟨hln, ho, hl⟩
    refine SCode.seqR ?_
    refine SOps.next 0 rfl rfl (fun hn2 => ?_) (fun hn2 => ?_) (by first | omega | (simp only [lenB]; omega))
    · refine SOps.extract rfl rfl ?_
      refine SOps.nil ?_
      refine SCode.seq ?_
      refine SCode.cond rfl (fun _ => ?_) (fun h => by cases h)
      refine SCode.skip ?_
      show SCode _ _ _ _
      refine SCode.block ?_
      refine SCode.seqR ?_
      refine SOps.extract rfl rfl ?_
      refine SOps.assign rfl ?_
      refine SOps.nil ?_
      refine SCode.seqR ?_
      refine SOps.move rfl ?_
      refine SOps.move rfl ?_
      refine SOps.lookupIM (idx a ((Utf8.decode s p).1 : Int)) (fun i => DV.v (.int .i64 ((i : Nat) : Int))) rfl rfl mapB_71 (keys_enc _) zeroIs_3 (lookup_mapOf _ _) (fun y3 hy3 => ?_) (fun hy3 => ?_)
      · refine SOps.move rfl ?_
        refine SOps.extract rfl rfl ?_
        refine SOps.extract rfl rfl ?_
        refine SOps.assign rfl ?_
        refine SOps.assign rfl ?_
        refine SOps.nil ?_
        refine SCode.seq ?_
        refine SCode.seqR ?_
        refine SOps.move rfl ?_
        refine SOps.un rfl rfl ?_
        refine SOps.nil ?_
        refine SCode.cond rfl (fun h => by cases h) (fun _ => ?_)
        refine SCode.skip ?_
        show SCode _ _ _ _
        refine SCode.region ?_
        refine SOps.move rfl ?_
        refine SOps.move rfl ?_
        refine SOps.litF rfl sliceB_39_3_1 zeroIs_3 rfl ?_
        refine SOps.appendAcc [_] [] sliceB_39_3_1 elemB_3_1_8 rfl rfl rfl SrcD.isl (by simp) (by first | (simp [lenB] <;> (first | omega | (simp only [lenB]; omega))) | (simp only [lenB]; (first | omega | (simp only [lenB]; omega)))) (by first | (simp <;> (first | omega | (simp only [lenB]; omega))) | (first | omega | (simp only [lenB]; omega))) (fun b1 => ?_)
        refine SOps.assign rfl ?_
        refine SOps.nil ?_
        exact ⟨p + (Utf8.decode s p).2, b, l ++ [y3], b1, ⟨by have := decode_w s p; simp; omega, by rw [← ho, runes_step hn2, hy3]; rfl, by rw [← hl, runesAt_lt hn2]; simp [hy3]⟩, by have := decode_w s p; omega, St.Le.of ⟨rfl, (by show some _ = some _; rw [List.map_append]; rfl), rfl, trivial⟩ rfl (by rw [List.map_append]; rfl)⟩
      · refine SOps.move rfl ?_
        refine SOps.extract rfl rfl ?_
        refine SOps.extract rfl rfl ?_
        refine SOps.assign rfl ?_
        refine SOps.assign rfl ?_
        refine SOps.nil ?_
        refine SCode.seq ?_
        refine SCode.seqR ?_
        refine SOps.move rfl ?_
        refine SOps.un rfl rfl ?_
        refine SOps.nil ?_
        refine SCode.cond rfl (fun _ => ?_) (fun h => by cases h)
        refine SCode.seqR ?_
        refine SOps.assign rfl ?_
        refine SOps.assign rfl ?_
        refine SOps.nil ?_
        refine SCode.drop ?_
        refine SCode.ret ?_
        have hov : overA a s = false := Bool.eq_false_iff.2 (fun h => by simp only [overA, Bool.and_eq_true] at h; rw [← ho, runes_step hn2, hy3] at h; simp at h)
        exact ⟨_, Res.two (.tmp rfl) (.tmp rfl), by rw [hov]; rfl, rfl⟩
    · refine SOps.extract rfl rfl ?_
      refine SOps.nil ?_
      refine SCode.seq ?_
      refine SCode.cond rfl (fun h => by cases h) (fun _ => ?_)
      refine SCode.exit ?_
      show SCode _ _ _ _
      refine SCode.seqR ?_
      refine SOps.freezeAcc (t := 6) [_] [] rfl rfl rfl ?_
      refine SOps.move rfl ?_
      refine SOps.assign rfl ?_
      refine SOps.assign rfl ?_
      refine SOps.nil ?_
      refine SCode.drop ?_
      refine SCode.ret ?_
      have hov : overA a s = true := by rw [overA, hc1, ← ho, runesAt_ge hn2]; rfl
      obtain rfl : l = idxs a s := by rw [← hl, runesAt_ge hn2]; simp
      exact ⟨_, Res.two (.tmp rfl) (.tmp rfl), by rw [hov]; rfl, rfl⟩
theorem pValid (hV : VS E) (a : List Letter) (p : List Item) (hp : ∀ x ∈ p, x.lets.size ≤ 1048576) : GCall Tryd.prog E 18 [DLs a, DIts p] [] (fun d H => d = .v (.bool (validPat a p)) ∧ H = []) := by
  refine GCall.body (C := ⟨Tryd.prog, E, true⟩) Tryd.func18 rfl (fun _ => rfl) (by kernel_rfl) rfl ?_
  refine SCode.seqR ?_
  refine SOps.assign rfl ?_
  refine SOps.nil ?_
  refine SCode.seqR ?_
  refine SOps.move rfl ?_
  by_cases hpr : properB a = true
  · refine SOps.callP (pProper _) rfl ?_
    rintro _ rfl
    rw [if_pos hpr]
    refine SOps.move rfl ?_
    refine SOps.extract rfl rfl ?_
    refine SOps.extract rfl rfl ?_
    refine SOps.assign rfl ?_
    refine SOps.assign rfl ?_
    refine SOps.nil ?_
    refine SCode.seq ?_
    refine SCode.seqR ?_
    refine SOps.fact (isl_len (t := 1) rfl) (fun hB => ?_)
    simp only [List.length_map, lenB] at hB
    refine SOps.move rfl ?_
    refine SOps.un rfl rfl ?_
    refine SOps.move rfl ?_
    refine SOps.caseB 18 rfl (fun hb1 => ?_) (fun hb1 => ?_)
    · try simp only [decide_eq_true_eq, decide_eq_false_iff_not, Bool.not_eq_true', Bool.not_eq_false', beq_iff_eq, bne_iff_ne, ne_eq, beq_eq_false_iff_ne, bne_eq_false_iff_eq, Int.not_lt, Int.not_le, Nat.not_lt, Nat.not_le, Int.ofNat_lt, Int.ofNat_le, Bool.not_eq_eq_eq_not, Bool.not_true, Bool.not_false] at hb1
      refine SOps.skip rfl ?_
      refine SOps.skip rfl ?_
      refine SOps.skip rfl ?_
      refine SOps.pick rfl rfl ?_
      refine SOps.nil ?_
      refine SCode.cond rfl (fun _ => ?_) (fun h => by cases h)
      refine SCode.seqR ?_
      refine SOps.assign rfl ?_
      refine SOps.nil ?_
      refine SCode.ret ?_
      exact ⟨_, Res.one (.tmp rfl), congrArg (fun b => DV.v (.bool b)) (Eq.symm (Bool.eq_false_iff.2 (fun h => by simp only [validPat, Bool.and_eq_true, decide_eq_true_eq] at h; omega))), rfl⟩
    · try simp only [decide_eq_true_eq, decide_eq_false_iff_not, Bool.not_eq_true', Bool.not_eq_false', beq_iff_eq, bne_iff_ne, ne_eq, beq_eq_false_iff_ne, bne_eq_false_iff_eq, Int.not_lt, Int.not_le, Nat.not_lt, Nat.not_le, Int.ofNat_lt, Int.ofNat_le, Bool.not_eq_eq_eq_not, Bool.not_true, Bool.not_false] at hb1
      refine SOps.move rfl ?_
      refine SOps.lenM rfl sliceB_23_56_4 ?_
      refine SOps.bin rfl rfl rfl ?_
      refine SOps.pick rfl rfl ?_
      refine SOps.nil ?_
      refine SCode.cond rfl (fun hc2 => ?_) (fun hc2 => ?_)
      · try simp only [decide_eq_true_eq, decide_eq_false_iff_not, Bool.not_eq_true', Bool.not_eq_false', beq_iff_eq, bne_iff_ne, ne_eq, beq_eq_false_iff_ne, bne_eq_false_iff_eq, Int.not_lt, Int.not_le, Nat.not_lt, Nat.not_le, Int.ofNat_lt, Int.ofNat_le, Bool.not_eq_eq_eq_not, Bool.not_true, Bool.not_false] at hc2
        refine SCode.seqR ?_
        refine SOps.assign rfl ?_
        refine SOps.nil ?_
        refine SCode.ret ?_
        exact ⟨_, Res.one (.tmp rfl), congrArg (fun b => DV.v (.bool b)) (Eq.symm (Bool.eq_false_iff.2 (fun h => by simp only [validPat, Bool.and_eq_true, decide_eq_true_eq] at h; omega))), rfl⟩
      · try simp only [decide_eq_true_eq, decide_eq_false_iff_not, Bool.not_eq_true', Bool.not_eq_false', beq_iff_eq, bne_iff_ne, ne_eq, beq_eq_false_iff_ne, bne_eq_false_iff_eq, Int.not_lt, Int.not_le, Nat.not_lt, Nat.not_le, Int.ofNat_lt, Int.ofNat_le, Bool.not_eq_eq_eq_not, Bool.not_true, Bool.not_false] at hc2
        refine SCode.skip ?_
        show SCode _ _ _ _
        refine SCode.seq ?_
        refine SCode.seqR ?_
        refine SOps.move rfl ?_
        refine SOps.lenM rfl sliceB_23_56_4 ?_
        refine SOps.move rfl ?_
        refine SOps.nil ?_
        refine SCode.block ?_
        refine SCode.loop1 (fun (i : Nat) => (⟨39, [(5, DMap a), (23, DIts p), (24, .v (.int .i64 (p.length : Int))), (25, .v (.int .i64 (i : Int)))], []⟩ : St)) (fun (i : Nat) => i ≤ p.length ∧ ∀ x ∈ p.take i, overA a x.lets = true) (fun (i : Nat) => p.length - i) (0) (by simp) (St.Le.of ⟨(by first | rfl | (show some _ = some _; simp)), (by first | rfl | (show some _ = some _; simp)), (by first | rfl | (show some _ = some _; simp)), (by first | rfl | (show some _ = some _; simp)), trivial⟩ rfl (by first | rfl | (simp))) ?_
        rintro i ⟨hi, hf⟩
        refine SCode.seqR ?_
        refine SOps.bin rfl rfl rfl ?_
        refine SOps.nil ?_
        refine SCode.seq ?_
        refine SCode.cond rfl (fun hc3 => ?_) (fun hc3 => ?_)
        · try simp only [decide_eq_true_eq, decide_eq_false_iff_not, Bool.not_eq_true', Bool.not_eq_false', beq_iff_eq, bne_iff_ne, ne_eq, beq_eq_false_iff_ne, bne_eq_false_iff_eq, Int.not_lt, Int.not_le, Nat.not_lt, Nat.not_le, Int.ofNat_lt, Int.ofNat_le, Bool.not_eq_eq_eq_not, Bool.not_true, Bool.not_false] at hc3
          refine SCode.skip ?_
          show SCode _ _ _ _
          refine SCode.seq ?_
          refine SCode.block ?_
          refine SCode.seqR ?_
          refine SOps.indexM (i) rfl rfl sliceB_23_56_4 (by first | omega | (simp only [lenB]; omega)) (by first | omega | (simp only [lenB]; omega)) ?_
          refine SOps.loadPinA rfl aggB_56_4 (Nat.le_of_ble_eq_true rfl) ?_
          refine SOps.alloc (sz := 4) zeroIs_56 (fun b0 hb_0 => ?_)
          refine SOps.storeAM 0 rfl rfl aggB_56_4 rfl ?_
          refine SOps.freezeRef (t := 8) 0 0 rfl rfl rfl rfl rfl ?_
          refine SOps.nil ?_
          refine SCode.seqR ?_
          refine SOps.move rfl ?_
          refine SOps.fieldPin rfl fieldB_56_1_1 ?_
          refine SOps.loadPin rfl flatB_9 ?_
          have hz := hp _ (List.getElem_mem (show i < p.length by omega))
          rcases hov : overA a (p[i]).lets with _ | _
          · refine SOps.callP (pOver hV a _ hz) rfl ?_
            rintro _ rfl
            rw [hov]
            show SOps _ _ _ ⟨_, (33, .tup [.v (.slice none 0 0), .v (.bool false)]) :: _, _⟩ _
            refine SOps.move rfl ?_
            refine SOps.extract rfl rfl ?_
            refine SOps.extract rfl rfl ?_
            refine SOps.assign rfl ?_
            refine SOps.assign rfl ?_
            refine SOps.nil ?_
            refine SCode.seqR ?_
            refine SOps.move rfl ?_
            refine SOps.un rfl rfl ?_
            refine SOps.nil ?_
            refine SCode.cond rfl (fun _ => ?_) (fun h => by cases h)
            refine SCode.seqR ?_
            refine SOps.assign rfl ?_
            refine SOps.nil ?_
            refine SCode.ret ?_
            exact ⟨_, Res.one (.tmp rfl), congrArg (fun b => DV.v (.bool b)) (Eq.symm (Bool.eq_false_iff.2 (fun h => by simp only [validPat, Bool.and_eq_true, List.all_eq_true] at h; rw [h.2 _ (List.getElem_mem (show i < p.length by omega))] at hov; cases hov))), rfl⟩
          · refine SOps.callP (pOver hV a _ hz) rfl ?_
            rintro _ rfl
            rw [hov]
            show SOps _ _ _ ⟨_, (33, .tup [DNats _, .v (.bool true)]) :: _, _⟩ _
            refine SOps.move rfl ?_
            refine SOps.extract rfl rfl ?_
            refine SOps.extract rfl rfl ?_
            refine SOps.assign rfl ?_
            refine SOps.assign rfl ?_
            refine SOps.nil ?_
            refine SCode.seqR ?_
            refine SOps.move rfl ?_
            refine SOps.un rfl rfl ?_
            refine SOps.nil ?_
            refine SCode.cond rfl (fun h => by cases h) (fun _ => ?_)
            refine SCode.skip ?_
            show SCode _ _ _ _
            refine SCode.region ?_
            refine SOps.addI rfl rfl (by first | omega | (simp only [lenB]; omega)) (by first | omega | (simp only [lenB]; omega)) ?_
            refine SOps.move rfl ?_
            refine SOps.nil ?_
            exact ⟨i + 1, by exact ⟨by omega, take_more hf (by omega) hov⟩, by omega, (St.Le.of ⟨(by first | rfl | (show some _ = some _; simp)), (by first | rfl | (show some _ = some _; simp)), (by first | rfl | (show some _ = some _; simp)), (by first | rfl | (show some _ = some _; simp)), trivial⟩ rfl (by first | rfl | (simp)))⟩
        · try simp only [decide_eq_true_eq, decide_eq_false_iff_not, Bool.not_eq_true', Bool.not_eq_false', beq_iff_eq, bne_iff_ne, ne_eq, beq_eq_false_iff_ne, bne_eq_false_iff_eq, Int.not_lt, Int.not_le, Nat.not_lt, Nat.not_le, Int.ofNat_lt, Int.ofNat_le, Bool.not_eq_eq_eq_not, Bool.not_true, Bool.not_false] at hc3
          refine SCode.exit ?_
          show SCode _ _ _ _
          refine SCode.seqR ?_
          refine SOps.assign rfl ?_
          refine SOps.nil ?_
          refine SCode.ret ?_
          exact ⟨_, Res.one (.tmp rfl), congrArg (fun b => DV.v (.bool b)) (Eq.symm (by simp only [validPat, hpr, Bool.true_and, Bool.and_eq_true, decide_eq_true_eq, List.all_eq_true]; exact ⟨⟨by omega, by omega⟩, all_of (by omega) hf⟩)), rfl⟩
  · refine SOps.callP (pProper _) rfl ?_
    rintro _ rfl
    rw [if_neg hpr]
    refine SOps.move rfl ?_
    refine SOps.extract rfl rfl ?_
    refine SOps.extract rfl rfl ?_
    refine SOps.assign rfl ?_
    refine SOps.assign rfl ?_
    refine SOps.nil ?_
    refine SCode.seq ?_
    refine SCode.seqR ?_
    refine SOps.fact (isl_len (t := 1) rfl) (fun hB => ?_)
    simp only [List.length_map, lenB] at hB
    refine SOps.move rfl ?_
    refine SOps.un rfl rfl ?_
    refine SOps.move rfl ?_
    refine SOps.skip rfl ?_
    refine SOps.skip rfl ?_
    refine SOps.skip rfl ?_
    refine SOps.pick rfl rfl ?_
    refine SOps.nil ?_
    refine SCode.cond rfl (fun _ => ?_) (fun h => by cases h)
    refine SCode.seqR ?_
    refine SOps.assign rfl ?_
    refine SOps.nil ?_
    refine SCode.ret ?_
    exact ⟨_, Res.one (.tmp rfl), congrArg (fun b => DV.v (.bool b)) (Eq.symm (Bool.eq_false_iff.2 (fun h => by simp only [validPat, Bool.and_eq_true] at h; exact hpr h.1.1.1))), rfl⟩
theorem pRead (hV : VS E) (a : List Letter) (p : List Item) (s : ByteArray) (hp : ∀ x ∈ p, x.lets.size ≤ 1048576) (hs : s.size ≤ 1048576) : GCall Tryd.prog E 44 [DLs a, DIts p, .v (.string s)] [] (fun d H => d = (if (validPat a p && overA a s) then .tup [DNats (idxs a s), .v (.bool true)] else .tup [.v (.slice none 0 0), .v (.bool false)]) ∧ H = []) := by
  refine GCall.body (C := ⟨Tryd.prog, E, true⟩) Tryd.func44 rfl (fun _ => rfl) (by kernel_rfl) rfl ?_
  refine SCode.seqR ?_
  refine SOps.assign rfl ?_
  refine SOps.assign rfl ?_
  refine SOps.nil ?_
  refine SCode.seq ?_
  refine SCode.seqR ?_
  refine SOps.move rfl ?_
  refine SOps.move rfl ?_
  refine SOps.callP (pValid hV _ _ (by assumption)) rfl ?_
  rintro _ rfl
  refine SOps.un rfl rfl ?_
  refine SOps.nil ?_
  refine SCode.cond rfl (fun hc1 => ?_) (fun hc1 => ?_)
  · try simp only [decide_eq_true_eq, decide_eq_false_iff_not, Bool.not_eq_true', Bool.not_eq_false', beq_iff_eq, bne_iff_ne, ne_eq, beq_eq_false_iff_ne, bne_eq_false_iff_eq, Int.not_lt, Int.not_le, Nat.not_lt, Nat.not_le, Int.ofNat_lt, Int.ofNat_le, Bool.not_eq_eq_eq_not, Bool.not_true, Bool.not_false] at hc1
    have hvp : validPat a p = false := hc1
    refine SCode.seqR ?_
    refine SOps.assign rfl ?_
    refine SOps.assign rfl ?_
    refine SOps.nil ?_
    refine SCode.ret ?_
    exact ⟨_, Res.two (.tmp rfl) (.tmp rfl), by rw [hvp]; rfl, rfl⟩
  · try simp only [decide_eq_true_eq, decide_eq_false_iff_not, Bool.not_eq_true', Bool.not_eq_false', beq_iff_eq, bne_iff_ne, ne_eq, beq_eq_false_iff_ne, bne_eq_false_iff_eq, Int.not_lt, Int.not_le, Nat.not_lt, Nat.not_le, Int.ofNat_lt, Int.ofNat_le, Bool.not_eq_eq_eq_not, Bool.not_true, Bool.not_false] at hc1
    have hvp : validPat a p = true := hc1
    have hpr : properB a = true := by simp only [validPat, Bool.and_eq_true] at hvp; exact hvp.1.1.1
    refine SCode.skip ?_
    show SCode _ _ _ _
    refine SCode.seqR ?_
    refine SOps.move rfl ?_
    refine SOps.callP (pProper _) rfl ?_
    rintro _ rfl; rw [if_pos hpr]
    refine SOps.move rfl ?_
    refine SOps.extract rfl rfl ?_
    refine SOps.extract rfl rfl ?_
    refine SOps.assign rfl ?_
    refine SOps.assign rfl ?_
    refine SOps.nil ?_
    refine SCode.seqR ?_
    refine SOps.move rfl ?_
    refine SOps.move rfl ?_
    refine SOps.callP (pOver hV a _ hs) rfl ?_
    rintro _ rfl
    rcases hov : overA a s with _ | _
    · show SOps _ _ _ ⟨_, (21, .tup [.v (.slice none 0 0), .v (.bool false)]) :: _, _⟩ _
      refine SOps.extract rfl rfl ?_
      refine SOps.extract rfl rfl ?_
      refine SOps.assign rfl ?_
      refine SOps.assign rfl ?_
      refine SOps.nil ?_
      refine SCode.ret ?_
      exact ⟨_, Res.two (.tmp rfl) (.tmp rfl), by rw [hvp]; rfl, rfl⟩
    · show SOps _ _ _ ⟨_, (21, .tup [DNats _, .v (.bool true)]) :: _, _⟩ _
      refine SOps.extract rfl rfl ?_
      refine SOps.extract rfl rfl ?_
      refine SOps.assign rfl ?_
      refine SOps.assign rfl ?_
      refine SOps.nil ?_
      refine SCode.ret ?_
      exact ⟨_, Res.two (.tmp rfl) (.tmp rfl), by rw [hvp]; rfl, rfl⟩
theorem pAdmits (x : Item) (l : Letter)  : GCall Tryd.prog E 56 [.agg (encIt x), .agg (encL l)] [] (fun d H => d = .v (.bool (admB x l)) ∧ H = []) := by
  refine GCall.body (C := ⟨Tryd.prog, E, true⟩) Tryd.func56 rfl (fun _ => rfl) (by kernel_rfl) rfl ?_
  refine SCode.seqR ?_
  refine SOps.boxAM rfl rfl ?_
  refine SOps.boxAM rfl rfl ?_
  refine SOps.assign rfl ?_
  refine SOps.nil ?_
  refine SCode.seqR ?_
  refine SOps.fieldPin rfl fieldB_69_1_1 ?_
  refine SOps.loadPin rfl flatB_54 ?_
  refine SOps.fieldPin rfl fieldB_56_0_0 ?_
  refine SOps.loadPin rfl flatB_54 ?_
  refine SOps.bits rfl rfl rfl ?_
  refine SOps.fieldPin rfl fieldB_56_0_0 ?_
  refine SOps.loadPin rfl flatB_54 ?_
  refine SOps.bin rfl rfl rfl ?_
  refine SOps.assign rfl ?_
  refine SOps.nil ?_
  refine SCode.seq ?_
  refine SCode.seqR ?_
  refine SOps.move rfl ?_
  refine SOps.move rfl ?_
  refine SOps.caseB 17 rfl (fun hb1 => ?_) (fun hb1 => ?_)
  · try simp only [decide_eq_true_eq, decide_eq_false_iff_not, Bool.not_eq_true', Bool.not_eq_false', beq_iff_eq, bne_iff_ne, ne_eq, beq_eq_false_iff_ne, bne_eq_false_iff_eq, Int.not_lt, Int.not_le, Nat.not_lt, Nat.not_le, Int.ofNat_lt, Int.ofNat_le, Bool.not_eq_eq_eq_not, Bool.not_true, Bool.not_false] at hb1
    refine SOps.fieldPin rfl fieldB_56_1_1 ?_
    refine SOps.loadPin rfl flatB_9 ?_
    refine SOps.bin rfl rfl rfl ?_
    refine SOps.pick rfl rfl ?_
    refine SOps.nil ?_
    refine SCode.cond rfl (fun hc2 => ?_) (fun hc2 => ?_)
    · try simp only [decide_eq_true_eq, decide_eq_false_iff_not, Bool.not_eq_true', Bool.not_eq_false', beq_iff_eq, bne_iff_ne, ne_eq, beq_eq_false_iff_ne, bne_eq_false_iff_eq, Int.not_lt, Int.not_le, Nat.not_lt, Nat.not_le, Int.ofNat_lt, Int.ofNat_le, Bool.not_eq_eq_eq_not, Bool.not_true, Bool.not_false] at hc2
      refine SCode.seqR ?_
      refine SOps.assign rfl ?_
      refine SOps.nil ?_
      refine SCode.seqR ?_
      refine SOps.fieldPin rfl fieldB_56_1_1 ?_
      refine SOps.loadPin rfl flatB_9 ?_
      refine SOps.rangeStr rfl strB_9 (fun b0 hb_0 => ?_)
      refine SOps.nil ?_
      refine SCode.block ?_
      refine SCode.fact (v_scal (t := 23) rfl) (fun hS => ?_)
      simp only [scal, lenB] at hS
      refine SCode.loop3 (fun (p : Nat) (f : Bool) (b : Nat) => (⟨39, [(2, .ipin (encIt x)), (3, .ipin (encL l)), (5, .v (.bool f)), (24, .it b)], [(b, .iter x.lets p)]⟩ : St)) (fun (p : Nat) (f : Bool) (b : Nat) => (f || (runesAt x.lets p).any (fun c => c == l.rune)) = listed x.lets l.rune) (fun (p : Nat) (f : Bool) (b : Nat) => x.lets.size - p) (0) (false) (b0) (by rfl) (St.Le.of ⟨(by first | rfl | (show some _ = some _; simp)), (by first | rfl | (show some _ = some _; simp)), (by first | rfl | (show some _ = some _; simp)), (by first | rfl | (show some _ = some _; simp)), trivial⟩ rfl (by first | rfl | (simp))) ?_
      rintro p f b hf
      refine SCode.seqR ?_
      refine SOps.next 0 rfl rfl (fun hn3 => ?_) (fun hn3 => ?_) (by first | omega | (simp only [lenB]; omega))
      · refine SOps.extract rfl rfl ?_
        refine SOps.nil ?_
        refine SCode.seq ?_
        refine SCode.cond rfl (fun _ => ?_) (fun h => by cases h)
        refine SCode.skip ?_
        show SCode _ _ _ _
        refine SCode.block ?_
        refine SCode.seqR ?_
        refine SOps.extract rfl rfl ?_
        refine SOps.assign rfl ?_
        refine SOps.nil ?_
        refine SCode.region ?_
        refine SOps.move rfl ?_
        refine SOps.move rfl ?_
        refine SOps.caseB 29 rfl (fun hb4 => ?_) (fun hb4 => ?_)
        · try simp only [decide_eq_true_eq, decide_eq_false_iff_not, Bool.not_eq_true', Bool.not_eq_false', beq_iff_eq, bne_iff_ne, ne_eq, beq_eq_false_iff_ne, bne_eq_false_iff_eq, Int.not_lt, Int.not_le, Nat.not_lt, Nat.not_le, Int.ofNat_lt, Int.ofNat_le, Bool.not_eq_eq_eq_not, Bool.not_true, Bool.not_false] at hb4
          refine SOps.skip rfl ?_
          refine SOps.skip rfl ?_
          refine SOps.skip rfl ?_
          refine SOps.skip rfl ?_
          refine SOps.pick rfl rfl ?_
          refine SOps.assign rfl ?_
          refine SOps.nil ?_
          first
            | exact ⟨p + (Utf8.decode x.lets p).2, true, b, by rw [← hf, hb4]; rfl, by have := decode_w x.lets p; omega, St.Le.of ⟨rfl, rfl, (by rw [hb4]; rfl), rfl, trivial⟩⟩
            | exact ⟨p + (Utf8.decode x.lets p).2, _, b, by rw [← hf, hb4, runesAt_lt hn3]; simp only [List.any_cons, Bool.false_or] <;> rfl, by have := decode_w x.lets p; omega, St.Le.of ⟨rfl, rfl, rfl, rfl, trivial⟩⟩
        · try simp only [decide_eq_true_eq, decide_eq_false_iff_not, Bool.not_eq_true', Bool.not_eq_false', beq_iff_eq, bne_iff_ne, ne_eq, beq_eq_false_iff_ne, bne_eq_false_iff_eq, Int.not_lt, Int.not_le, Nat.not_lt, Nat.not_le, Int.ofNat_lt, Int.ofNat_le, Bool.not_eq_eq_eq_not, Bool.not_true, Bool.not_false] at hb4
          refine SOps.move rfl ?_
          refine SOps.fieldPin rfl fieldB_69_0_0 ?_
          refine SOps.loadPin rfl flatB_21 ?_
          refine SOps.bin rfl rfl rfl ?_
          refine SOps.pick rfl rfl ?_
          refine SOps.assign rfl ?_
          refine SOps.nil ?_
          first
            | exact ⟨p + (Utf8.decode x.lets p).2, true, b, by rw [← hf, hb4]; rfl, by have := decode_w x.lets p; omega, St.Le.of ⟨rfl, rfl, (by rw [hb4]; rfl), rfl, trivial⟩⟩
            | exact ⟨p + (Utf8.decode x.lets p).2, _, b, by rw [← hf, hb4, runesAt_lt hn3]; simp only [List.any_cons, Bool.false_or] <;> rfl, by have := decode_w x.lets p; omega, St.Le.of ⟨rfl, rfl, rfl, rfl, trivial⟩⟩
      · refine SOps.extract rfl rfl ?_
        refine SOps.nil ?_
        refine SCode.seq ?_
        refine SCode.cond rfl (fun h => by cases h) (fun _ => ?_)
        refine SCode.exit ?_
        show SCode _ _ _ _
        refine SCode.seqR ?_
        refine SOps.move rfl ?_
        refine SOps.fieldPin rfl fieldB_56_2_2 ?_
        refine SOps.loadPin rfl flatB_4 ?_
        refine SOps.boolNe rfl rfl boolTy_4 ?_
        refine SOps.assign rfl ?_
        refine SOps.nil ?_
        refine SCode.drop ?_
        refine SCode.ret ?_
        exact ⟨_, Res.one (.tmp rfl), congrArg (fun b => DV.v (.bool b)) (by rw [runesAt_ge hn3] at hf; simp only [List.any_nil, Bool.or_false] at hf; rw [hf, admB, show hasC l.cls x.mask = true from beq_iff_eq.2 hb1, decide_eq_false hc2] <;> rfl), rfl⟩
    · try simp only [decide_eq_true_eq, decide_eq_false_iff_not, Bool.not_eq_true', Bool.not_eq_false', beq_iff_eq, bne_iff_ne, ne_eq, beq_eq_false_iff_ne, bne_eq_false_iff_eq, Int.not_lt, Int.not_le, Nat.not_lt, Nat.not_le, Int.ofNat_lt, Int.ofNat_le, Bool.not_eq_eq_eq_not, Bool.not_true, Bool.not_false] at hc2
      refine SCode.skip ?_
      show SCode _ _ _ _
      refine SCode.seqR ?_
      refine SOps.move rfl ?_
      refine SOps.fieldPin rfl fieldB_56_2_2 ?_
      refine SOps.loadPin rfl flatB_4 ?_
      refine SOps.boolNe rfl rfl boolTy_4 ?_
      refine SOps.assign rfl ?_
      refine SOps.nil ?_
      refine SCode.ret ?_
      exact ⟨_, Res.one (.tmp rfl), congrArg (fun b => DV.v (.bool b)) (by rw [admB, show hasC l.cls x.mask = true from beq_iff_eq.2 hb1]; simp_all), rfl⟩
  · try simp only [decide_eq_true_eq, decide_eq_false_iff_not, Bool.not_eq_true', Bool.not_eq_false', beq_iff_eq, bne_iff_ne, ne_eq, beq_eq_false_iff_ne, bne_eq_false_iff_eq, Int.not_lt, Int.not_le, Nat.not_lt, Nat.not_le, Int.ofNat_lt, Int.ofNat_le, Bool.not_eq_eq_eq_not, Bool.not_true, Bool.not_false] at hb1
    refine SOps.skip rfl ?_
    refine SOps.skip rfl ?_
    refine SOps.skip rfl ?_
    refine SOps.pick rfl rfl ?_
    refine SOps.nil ?_
    refine SCode.cond rfl (fun h => by cases h) (fun _ => ?_)
    refine SCode.skip ?_
    show SCode _ _ _ _
    refine SCode.seqR ?_
    refine SOps.move rfl ?_
    refine SOps.fieldPin rfl fieldB_56_2_2 ?_
    refine SOps.loadPin rfl flatB_4 ?_
    refine SOps.boolNe rfl rfl boolTy_4 ?_
    refine SOps.assign rfl ?_
    refine SOps.nil ?_
    refine SCode.ret ?_
    exact ⟨_, Res.one (.tmp rfl), congrArg (fun b => DV.v (.bool b)) (by rw [admB, show hasC l.cls x.mask = false from beq_eq_false_iff_ne.2 hb1, beq_eq_false_iff_ne.2 hb1] <;> rfl), rfl⟩
theorem pClosed (p : List Item) (s : Nat) (hp : p.length < 8) (hs : s < 256) : GCall Tryd.prog E 36 [DIts p, .v (.int .u8 ((s : Nat) : Int))] [] (fun d H => d = .v (.int .u8 ((closedN p s : Nat) : Int)) ∧ H = []) := by
  refine GCall.body (C := ⟨Tryd.prog, E, true⟩) Tryd.func36 rfl (fun _ => rfl) (by kernel_rfl) rfl ?_
  refine SCode.seqR ?_
  refine SOps.assign rfl ?_
  refine SOps.nil ?_
  refine SCode.seq ?_
  refine SCode.seqR ?_
  refine SOps.move rfl ?_
  refine SOps.lenM rfl sliceB_23_56_4 ?_
  refine SOps.move rfl ?_
  refine SOps.nil ?_
  refine SCode.block ?_
  refine SCode.loop2 (fun (i : Nat) (c : Nat) => (⟨30, [(1, .v (.int .u8 ((c : Nat) : Int))), (7, DIts p), (8, .v (.int .i64 (p.length : Int))), (9, .v (.int .i64 (i : Int)))], []⟩ : St)) (fun (i : Nat) (c : Nat) => i ≤ p.length ∧ c < 256 ∧ closedF (p.drop i) i c = closedN p s) (fun (i : Nat) (c : Nat) => p.length - i) (0) (s) (by exact ⟨Nat.zero_le _, hs, rfl⟩) (St.Le.of ⟨(by first | rfl | (show some _ = some _; simp)), (by first | rfl | (show some _ = some _; simp)), (by first | rfl | (show some _ = some _; simp)), (by first | rfl | (show some _ = some _; simp)), trivial⟩ rfl (by first | rfl | (simp))) ?_
  rintro i c ⟨hi, hcs, hf⟩
  refine SCode.seqR ?_
  refine SOps.bin rfl rfl rfl ?_
  refine SOps.nil ?_
  refine SCode.seq ?_
  refine SCode.cond rfl (fun hc1 => ?_) (fun hc1 => ?_)
  · try simp only [decide_eq_true_eq, decide_eq_false_iff_not, Bool.not_eq_true', Bool.not_eq_false', beq_iff_eq, bne_iff_ne, ne_eq, beq_eq_false_iff_ne, bne_eq_false_iff_eq, Int.not_lt, Int.not_le, Nat.not_lt, Nat.not_le, Int.ofNat_lt, Int.ofNat_le, Bool.not_eq_eq_eq_not, Bool.not_true, Bool.not_false] at hc1
    refine SCode.skip ?_
    show SCode _ _ _ _
    refine SCode.seq ?_
    refine SCode.block ?_
    refine SCode.seqR ?_
    refine SOps.move rfl ?_
    refine SOps.indexM (i) rfl rfl sliceB_23_56_4 (by omega) (by omega) ?_
    refine SOps.loadPinA rfl aggB_56_4 (Nat.le_of_ble_eq_true rfl) ?_
    refine SOps.alloc (sz := 4) zeroIs_56 (fun b0 hb_0 => ?_)
    refine SOps.assign rfl ?_
    refine SOps.storeAM 0 rfl rfl aggB_56_4 rfl ?_
    refine SOps.freezeRef (t := 6) 0 0 rfl rfl rfl rfl rfl ?_
    refine SOps.nil ?_
    refine SCode.seqR ?_
    have hdr := drop_cons (show i < p.length by omega)
    refine SOps.fieldPin rfl fieldB_56_3_3 ?_
    refine SOps.loadPin rfl flatB_4 ?_
    refine SOps.move rfl ?_
    refine SOps.caseB 16 rfl (fun hb2 => ?_) (fun hb2 => ?_)
    · try simp only [decide_eq_true_eq, decide_eq_false_iff_not, Bool.not_eq_true', Bool.not_eq_false', beq_iff_eq, bne_iff_ne, ne_eq, beq_eq_false_iff_ne, bne_eq_false_iff_eq, Int.not_lt, Int.not_le, Nat.not_lt, Nat.not_le, Int.ofNat_lt, Int.ofNat_le, Bool.not_eq_eq_eq_not, Bool.not_true, Bool.not_false] at hb2
      refine SOps.move rfl ?_
      refine SOps.move rfl ?_
      refine SOps.shrN (k := i) rfl rfl (by omega) (by omega) (by omega) ?_
      refine SOps.andN (y := 1) rfl rfl (by first | omega | (exact Nat.lt_of_le_of_lt (by rw [Nat.shiftRight_eq_div_pow]; exact Nat.div_le_self ..) (by omega)) | exact two_lt (by omega)) (by first | omega | (exact Nat.lt_of_le_of_lt (by rw [Nat.shiftRight_eq_div_pow]; exact Nat.div_le_self ..) (by omega)) | exact two_lt (by omega)) ?_
      refine SOps.bin rfl rfl rfl ?_
      refine SOps.pick rfl rfl ?_
      refine SOps.nil ?_
      refine SCode.cond rfl (fun hc3 => ?_) (fun hc3 => ?_)
      · try simp only [decide_eq_true_eq, decide_eq_false_iff_not, Bool.not_eq_true', Bool.not_eq_false', beq_iff_eq, bne_iff_ne, ne_eq, beq_eq_false_iff_ne, bne_eq_false_iff_eq, Int.not_lt, Int.not_le, Nat.not_lt, Nat.not_le, Int.ofNat_lt, Int.ofNat_le, Bool.not_eq_eq_eq_not, Bool.not_true, Bool.not_false] at hc3
        refine SCode.region ?_
        refine SOps.move rfl ?_
        refine SOps.move rfl ?_
        refine SOps.addI rfl rfl (by omega) (by omega) ?_
        refine SOps.shlN (k := (i + 1)) rfl rfl (by omega) (by omega) ?_
        refine SOps.orN rfl rfl (by first | omega | (exact Nat.lt_of_le_of_lt (by rw [Nat.shiftRight_eq_div_pow]; exact Nat.div_le_self ..) (by omega)) | exact two_lt (by omega)) (by first | omega | (exact Nat.lt_of_le_of_lt (by rw [Nat.shiftRight_eq_div_pow]; exact Nat.div_le_self ..) (by omega)) | exact two_lt (by omega)) ?_
        refine SOps.assign rfl ?_
        refine SOps.nil ?_
        show SCode _ _ _ _
        refine SCode.region ?_
        refine SOps.addI rfl rfl (by omega) (by omega) ?_
        refine SOps.move rfl ?_
        refine SOps.nil ?_
        first
          | exact ⟨i + 1, c ||| 2 ^ (i + 1), ⟨by omega, or_lt hcs (by omega), by rw [← hf, hdr]; simp only [closedF]; rw [if_pos (by rw [hb2, bit1i.1 hc3]; rfl)]⟩, by omega, St.Le.of ⟨rfl, rfl, rfl, rfl, trivial⟩⟩
          | exact ⟨i + 1, c, ⟨by omega, hcs, by rw [← hf, hdr]; simp only [closedF]; rw [if_neg (by rw [hb2]; simp; exact Bool.eq_false_iff.2 (fun h => hc3 (bit1i.2 h)))]⟩, by omega, St.Le.of ⟨rfl, rfl, rfl, rfl, trivial⟩⟩
          | exact ⟨i + 1, c, ⟨by omega, hcs, by rw [← hf, hdr]; simp only [closedF]; rw [if_neg (by rw [hb2]; simp)]⟩, by omega, St.Le.of ⟨rfl, rfl, rfl, rfl, trivial⟩⟩
      · try simp only [decide_eq_true_eq, decide_eq_false_iff_not, Bool.not_eq_true', Bool.not_eq_false', beq_iff_eq, bne_iff_ne, ne_eq, beq_eq_false_iff_ne, bne_eq_false_iff_eq, Int.not_lt, Int.not_le, Nat.not_lt, Nat.not_le, Int.ofNat_lt, Int.ofNat_le, Bool.not_eq_eq_eq_not, Bool.not_true, Bool.not_false] at hc3
        refine SCode.skip ?_
        show SCode _ _ _ _
        refine SCode.region ?_
        refine SOps.addI rfl rfl (by omega) (by omega) ?_
        refine SOps.move rfl ?_
        refine SOps.nil ?_
        first
          | exact ⟨i + 1, c ||| 2 ^ (i + 1), ⟨by omega, or_lt hcs (by omega), by rw [← hf, hdr]; simp only [closedF]; rw [if_pos (by rw [hb2, bit1i.1 hc3]; rfl)]⟩, by omega, St.Le.of ⟨rfl, rfl, rfl, rfl, trivial⟩⟩
          | exact ⟨i + 1, c, ⟨by omega, hcs, by rw [← hf, hdr]; simp only [closedF]; rw [if_neg (by rw [hb2]; simp; exact Bool.eq_false_iff.2 (fun h => hc3 (bit1i.2 h)))]⟩, by omega, St.Le.of ⟨rfl, rfl, rfl, rfl, trivial⟩⟩
          | exact ⟨i + 1, c, ⟨by omega, hcs, by rw [← hf, hdr]; simp only [closedF]; rw [if_neg (by rw [hb2]; simp)]⟩, by omega, St.Le.of ⟨rfl, rfl, rfl, rfl, trivial⟩⟩
    · try simp only [decide_eq_true_eq, decide_eq_false_iff_not, Bool.not_eq_true', Bool.not_eq_false', beq_iff_eq, bne_iff_ne, ne_eq, beq_eq_false_iff_ne, bne_eq_false_iff_eq, Int.not_lt, Int.not_le, Nat.not_lt, Nat.not_le, Int.ofNat_lt, Int.ofNat_le, Bool.not_eq_eq_eq_not, Bool.not_true, Bool.not_false] at hb2
      refine SOps.skip rfl ?_
      refine SOps.skip rfl ?_
      refine SOps.skip rfl ?_
      refine SOps.skip rfl ?_
      refine SOps.skip rfl ?_
      refine SOps.pick rfl rfl ?_
      refine SOps.nil ?_
      refine SCode.cond rfl (fun h => by cases h) (fun _ => ?_)
      refine SCode.skip ?_
      show SCode _ _ _ _
      refine SCode.region ?_
      refine SOps.addI rfl rfl (by omega) (by omega) ?_
      refine SOps.move rfl ?_
      refine SOps.nil ?_
      first
        | exact ⟨i + 1, c ||| 2 ^ (i + 1), ⟨by omega, or_lt hcs (by omega), by rw [← hf, hdr]; simp only [closedF]; rw [if_pos (by rw [hb2, bit1i.1 hc3]; rfl)]⟩, by omega, St.Le.of ⟨rfl, rfl, rfl, rfl, trivial⟩⟩
        | exact ⟨i + 1, c, ⟨by omega, hcs, by rw [← hf, hdr]; simp only [closedF]; rw [if_neg (by rw [hb2]; simp; exact Bool.eq_false_iff.2 (fun h => hc3 (bit1i.2 h)))]⟩, by omega, St.Le.of ⟨rfl, rfl, rfl, rfl, trivial⟩⟩
        | exact ⟨i + 1, c, ⟨by omega, hcs, by rw [← hf, hdr]; simp only [closedF]; rw [if_neg (by rw [hb2]; simp)]⟩, by omega, St.Le.of ⟨rfl, rfl, rfl, rfl, trivial⟩⟩
  · try simp only [decide_eq_true_eq, decide_eq_false_iff_not, Bool.not_eq_true', Bool.not_eq_false', beq_iff_eq, bne_iff_ne, ne_eq, beq_eq_false_iff_ne, bne_eq_false_iff_eq, Int.not_lt, Int.not_le, Nat.not_lt, Nat.not_le, Int.ofNat_lt, Int.ofNat_le, Bool.not_eq_eq_eq_not, Bool.not_true, Bool.not_false] at hc1
    refine SCode.exit ?_
    show SCode _ _ _ _
    refine SCode.seqR ?_
    refine SOps.move rfl ?_
    refine SOps.assign rfl ?_
    refine SOps.nil ?_
    refine SCode.ret ?_
    exact ⟨_, Res.one (.tmp rfl), congrArg (fun n : Nat => DV.v (.int .u8 (n : Int))) (by rw [← hf, List.drop_eq_nil_of_le (by omega)]; rfl), rfl⟩
def atL (a : List Letter) (c : Nat) : Letter := a.getD c ⟨0, 0⟩
theorem atL_lt {a : List Letter} {c : Nat} (h : c < a.length) : atL a c = a[c] := by simp [atL, h]
def admF (a : List Letter) (x : Item) (c : Nat) : Bool := admB x (atL a c)
def tbl (a : List Letter) (p : List Item) : List (List Bool) := p.map (fun x => a.map (admB x))
def encRow (l : List Bool) : List DV := [DBools l]
abbrev DTbl (t : List (List Bool)) : DV := .isl false 1 (t.map encRow)
theorem tbl_len (a : List Letter) (p : List Item) : (tbl a p).length = p.length := by simp [tbl]
theorem tbl_row {a : List Letter} {p : List Item} {i : Nat} (h : i < (tbl a p).length) : ((tbl a p)[i]).length = a.length := by simp [tbl]
theorem tbl_at {a : List Letter} {p : List Item} {i c : Nat} (h : i < (tbl a p).length) (h2 : c < ((tbl a p)[i]).length) (hi : i < p.length) (hc : c < a.length) : ((tbl a p)[i])[c] = admF a (p[i]) c := by
  simp [tbl, admF, atL_lt hc]
theorem pNext (a : List Letter) (p : List Item) (s c : Nat) (hp : p.length < 8) (hs : s < 256) (hc : c < a.length) : GCall Tryd.prog E 57 [.v (.int .u8 ((s : Nat) : Int)), .v (.int .i64 (c : Int)), .ipin [DIts p], .ipin [DTbl (tbl a p)]] [] (fun d H => d = .v (.int .u8 ((stepN p (fun x => admF a x c) s : Nat) : Int)) ∧ H = []) := by
  refine GCall.body (C := ⟨Tryd.prog, E, true⟩) Tryd.func57 rfl (fun _ => rfl) (by kernel_rfl) rfl ?_
  refine SCode.seqR ?_
  refine SOps.assign rfl ?_
  refine SOps.nil ?_
  refine SCode.seqR ?_
  refine SOps.assign rfl ?_
  refine SOps.nil ?_
  refine SCode.seq ?_
  refine SCode.seqR ?_
  refine SOps.loadPin rfl flatB_23 ?_
  refine SOps.lenM rfl sliceB_23_56_4 ?_
  refine SOps.move rfl ?_
  refine SOps.nil ?_
  refine SCode.block ?_
  refine SCode.loop2 (fun (i : Nat) (n : Nat) => (⟨47, [(0, .v (.int .u8 ((s : Nat) : Int))), (1, .v (.int .i64 (c : Int))), (2, .ipin [DIts p]), (3, .ipin [DTbl (tbl a p)]), (7, .v (.int .u8 ((n : Nat) : Int))), (10, DIts p), (11, .v (.int .i64 (p.length : Int))), (12, .v (.int .i64 (i : Int)))], []⟩ : St)) (fun (i : Nat) (n : Nat) => i ≤ p.length ∧ n < 256 ∧ nextF (fun x => admF a x c) s (p.drop i) i n = nextF (fun x => admF a x c) s p 0 0) (fun (i : Nat) (n : Nat) => p.length - i) (0) (0) (by exact ⟨Nat.zero_le _, by decide, rfl⟩) (St.Le.of ⟨(by first | rfl | (show some _ = some _; simp)), (by first | rfl | (show some _ = some _; simp)), (by first | rfl | (show some _ = some _; simp)), (by first | rfl | (show some _ = some _; simp)), (by first | rfl | (show some _ = some _; simp)), (by first | rfl | (show some _ = some _; simp)), (by first | rfl | (show some _ = some _; simp)), (by first | rfl | (show some _ = some _; simp)), trivial⟩ rfl (by first | rfl | (simp))) ?_
  rintro i n ⟨hi, hn, hf⟩
  refine SCode.seqR ?_
  refine SOps.bin rfl rfl rfl ?_
  refine SOps.nil ?_
  refine SCode.seq ?_
  refine SCode.cond rfl (fun hc1 => ?_) (fun hc1 => ?_)
  · try simp only [decide_eq_true_eq, decide_eq_false_iff_not, Bool.not_eq_true', Bool.not_eq_false', beq_iff_eq, bne_iff_ne, ne_eq, beq_eq_false_iff_ne, bne_eq_false_iff_eq, Int.not_lt, Int.not_le, Nat.not_lt, Nat.not_le, Int.ofNat_lt, Int.ofNat_le, Bool.not_eq_eq_eq_not, Bool.not_true, Bool.not_false] at hc1
    refine SCode.skip ?_
    show SCode _ _ _ _
    refine SCode.seq ?_
    refine SCode.block ?_
    refine SCode.seqR ?_
    have hdr := drop_cons (show i < p.length by omega)
    refine SOps.move rfl ?_
    refine SOps.indexM (i) rfl rfl sliceB_23_56_4 (by first | omega | (rw [tbl_len]; omega) | (rw [tbl_row]; omega)) (by first | omega | (rw [tbl_len]; omega) | (rw [tbl_row]; omega)) ?_
    refine SOps.loadPinA rfl aggB_56_4 (Nat.le_of_ble_eq_true rfl) ?_
    refine SOps.alloc (sz := 4) zeroIs_56 (fun b0 hb_0 => ?_)
    refine SOps.assign rfl ?_
    refine SOps.storeAM 0 rfl rfl aggB_56_4 rfl ?_
    refine SOps.freezeRef (t := 9) 0 0 rfl rfl rfl rfl rfl ?_
    refine SOps.nil ?_
    refine SCode.seq ?_
    refine SCode.seqR ?_
    refine SOps.move rfl ?_
    refine SOps.move rfl ?_
    refine SOps.shrN (k := i) rfl rfl (by first | omega | (rw [tbl_len]; omega) | (rw [tbl_row]; omega)) (by first | omega | (rw [tbl_len]; omega) | (rw [tbl_row]; omega)) (by first | omega | (rw [tbl_len]; omega) | (rw [tbl_row]; omega)) ?_
    refine SOps.andN (y := 1) rfl rfl (by first | omega | (exact Nat.lt_of_le_of_lt (by rw [Nat.shiftRight_eq_div_pow]; exact Nat.div_le_self ..) (by omega)) | exact two_lt (by omega)) (by first | omega | (exact Nat.lt_of_le_of_lt (by rw [Nat.shiftRight_eq_div_pow]; exact Nat.div_le_self ..) (by omega)) | exact two_lt (by omega)) ?_
    refine SOps.bin rfl rfl rfl ?_
    refine SOps.move rfl ?_
    refine SOps.caseB 22 rfl (fun hb2 => ?_) (fun hb2 => ?_)
    · try simp only [decide_eq_true_eq, decide_eq_false_iff_not, Bool.not_eq_true', Bool.not_eq_false', beq_iff_eq, bne_iff_ne, ne_eq, beq_eq_false_iff_ne, bne_eq_false_iff_eq, Int.not_lt, Int.not_le, Nat.not_lt, Nat.not_le, Int.ofNat_lt, Int.ofNat_le, Bool.not_eq_eq_eq_not, Bool.not_true, Bool.not_false] at hb2
      refine SOps.skip rfl ?_
      refine SOps.skip rfl ?_
      refine SOps.skip rfl ?_
      refine SOps.skip rfl ?_
      refine SOps.skip rfl ?_
      refine SOps.skip rfl ?_
      refine SOps.skip rfl ?_
      refine SOps.skip rfl ?_
      refine SOps.pick rfl rfl ?_
      refine SOps.nil ?_
      refine SCode.cond rfl (fun _ => ?_) (fun h => by cases h)
      refine SCode.exit ?_
      show SCode _ _ _ _
      refine SCode.region ?_
      refine SOps.addI rfl rfl (by first | omega | (rw [tbl_len]; omega) | (rw [tbl_row]; omega)) (by first | omega | (rw [tbl_len]; omega) | (rw [tbl_row]; omega)) ?_
      refine SOps.move rfl ?_
      refine SOps.nil ?_
      first
        | exact ⟨i + 1, n, ⟨by omega, hn, by rw [← hf, hdr]; simp only [nextF]; rw [if_neg (by rw [bit0i.1 hb2]; simp)]⟩, by omega, St.Le.of ⟨rfl, rfl, rfl, rfl, rfl, rfl, rfl, rfl, trivial⟩⟩
        | exact ⟨i + 1, n, ⟨by omega, hn, by rw [← hf, hdr]; simp only [nextF]; rw [if_neg (by rw [tbl_at _ _ (by omega) hc] at hc3; rw [hc3]; simp)]⟩, by omega, St.Le.of ⟨rfl, rfl, rfl, rfl, rfl, rfl, rfl, rfl, trivial⟩⟩
        | exact ⟨i + 1, n ||| 2 ^ i, ⟨by omega, or_lt hn (by omega), by rw [← hf, hdr]; simp only [nextF]; rw [if_pos (by rw [tbl_at _ _ (by omega) hc] at hc3; simp only [Bool.and_eq_true]; exact ⟨by cases h : s.testBit i with | true => rfl | false => exact absurd (bit0i.2 h) hb2, hc3⟩), if_pos hc4]⟩, by omega, St.Le.of ⟨rfl, rfl, rfl, rfl, rfl, rfl, rfl, rfl, trivial⟩⟩
        | exact ⟨i + 1, n ||| 2 ^ (i + 1), ⟨by omega, or_lt hn (by omega), by rw [← hf, hdr]; simp only [nextF]; rw [if_pos (by rw [tbl_at _ _ (by omega) hc] at hc3; simp only [Bool.and_eq_true]; exact ⟨by cases h : s.testBit i with | true => rfl | false => exact absurd (bit0i.2 h) hb2, hc3⟩), if_neg (by rw [hc4]; simp)]⟩, by omega, St.Le.of ⟨rfl, rfl, rfl, rfl, rfl, rfl, rfl, rfl, trivial⟩⟩
    · try simp only [decide_eq_true_eq, decide_eq_false_iff_not, Bool.not_eq_true', Bool.not_eq_false', beq_iff_eq, bne_iff_ne, ne_eq, beq_eq_false_iff_ne, bne_eq_false_iff_eq, Int.not_lt, Int.not_le, Nat.not_lt, Nat.not_le, Int.ofNat_lt, Int.ofNat_le, Bool.not_eq_eq_eq_not, Bool.not_true, Bool.not_false] at hb2
      refine SOps.loadPin rfl flatB_66 ?_
      refine SOps.move rfl ?_
      refine SOps.indexM (i) rfl rfl sliceB_66_25_1 (by first | omega | (rw [tbl_len]; omega) | (rw [tbl_row]; omega)) (by first | omega | (rw [tbl_len]; omega) | (rw [tbl_row]; omega)) ?_
      refine SOps.loadPin rfl flatB_25 ?_
      refine SOps.move rfl ?_
      refine SOps.indexM (c) rfl rfl sliceB_25_4_1 (by first | omega | (rw [tbl_len]; omega) | (rw [tbl_row]; omega)) (by first | omega | (rw [tbl_len]; omega) | (rw [tbl_row]; omega)) ?_
      refine SOps.loadPin rfl flatB_4 ?_
      refine SOps.un rfl rfl ?_
      refine SOps.pick rfl rfl ?_
      refine SOps.nil ?_
      refine SCode.cond rfl (fun hc3 => ?_) (fun hc3 => ?_)
      · try simp only [decide_eq_true_eq, decide_eq_false_iff_not, Bool.not_eq_true', Bool.not_eq_false', beq_iff_eq, bne_iff_ne, ne_eq, beq_eq_false_iff_ne, bne_eq_false_iff_eq, Int.not_lt, Int.not_le, Nat.not_lt, Nat.not_le, Int.ofNat_lt, Int.ofNat_le, Bool.not_eq_eq_eq_not, Bool.not_true, Bool.not_false] at hc3
        refine SCode.exit ?_
        show SCode _ _ _ _
        refine SCode.region ?_
        refine SOps.addI rfl rfl (by first | omega | (rw [tbl_len]; omega) | (rw [tbl_row]; omega)) (by first | omega | (rw [tbl_len]; omega) | (rw [tbl_row]; omega)) ?_
        refine SOps.move rfl ?_
        refine SOps.nil ?_
        first
          | exact ⟨i + 1, n, ⟨by omega, hn, by rw [← hf, hdr]; simp only [nextF]; rw [if_neg (by rw [bit0i.1 hb2]; simp)]⟩, by omega, St.Le.of ⟨rfl, rfl, rfl, rfl, rfl, rfl, rfl, rfl, trivial⟩⟩
          | exact ⟨i + 1, n, ⟨by omega, hn, by rw [← hf, hdr]; simp only [nextF]; rw [if_neg (by rw [tbl_at _ _ (by omega) hc] at hc3; rw [hc3]; simp)]⟩, by omega, St.Le.of ⟨rfl, rfl, rfl, rfl, rfl, rfl, rfl, rfl, trivial⟩⟩
          | exact ⟨i + 1, n ||| 2 ^ i, ⟨by omega, or_lt hn (by omega), by rw [← hf, hdr]; simp only [nextF]; rw [if_pos (by rw [tbl_at _ _ (by omega) hc] at hc3; simp only [Bool.and_eq_true]; exact ⟨by cases h : s.testBit i with | true => rfl | false => exact absurd (bit0i.2 h) hb2, hc3⟩), if_pos hc4]⟩, by omega, St.Le.of ⟨rfl, rfl, rfl, rfl, rfl, rfl, rfl, rfl, trivial⟩⟩
          | exact ⟨i + 1, n ||| 2 ^ (i + 1), ⟨by omega, or_lt hn (by omega), by rw [← hf, hdr]; simp only [nextF]; rw [if_pos (by rw [tbl_at _ _ (by omega) hc] at hc3; simp only [Bool.and_eq_true]; exact ⟨by cases h : s.testBit i with | true => rfl | false => exact absurd (bit0i.2 h) hb2, hc3⟩), if_neg (by rw [hc4]; simp)]⟩, by omega, St.Le.of ⟨rfl, rfl, rfl, rfl, rfl, rfl, rfl, rfl, trivial⟩⟩
      · try simp only [decide_eq_true_eq, decide_eq_false_iff_not, Bool.not_eq_true', Bool.not_eq_false', beq_iff_eq, bne_iff_ne, ne_eq, beq_eq_false_iff_ne, bne_eq_false_iff_eq, Int.not_lt, Int.not_le, Nat.not_lt, Nat.not_le, Int.ofNat_lt, Int.ofNat_le, Bool.not_eq_eq_eq_not, Bool.not_true, Bool.not_false] at hc3
        refine SCode.skip ?_
        show SCode _ _ _ _
        refine SCode.seqR ?_
        refine SOps.fieldPin rfl fieldB_56_3_3 ?_
        refine SOps.loadPin rfl flatB_4 ?_
        refine SOps.nil ?_
        refine SCode.cond rfl (fun hc4 => ?_) (fun hc4 => ?_)
        · try simp only [decide_eq_true_eq, decide_eq_false_iff_not, Bool.not_eq_true', Bool.not_eq_false', beq_iff_eq, bne_iff_ne, ne_eq, beq_eq_false_iff_ne, bne_eq_false_iff_eq, Int.not_lt, Int.not_le, Nat.not_lt, Nat.not_le, Int.ofNat_lt, Int.ofNat_le, Bool.not_eq_eq_eq_not, Bool.not_true, Bool.not_false] at hc4
          refine SCode.region ?_
          refine SOps.move rfl ?_
          refine SOps.move rfl ?_
          refine SOps.shlN (k := i) rfl rfl (by first | omega | (rw [tbl_len]; omega) | (rw [tbl_row]; omega)) (by first | omega | (rw [tbl_len]; omega) | (rw [tbl_row]; omega)) ?_
          refine SOps.orN rfl rfl (by first | omega | (exact Nat.lt_of_le_of_lt (by rw [Nat.shiftRight_eq_div_pow]; exact Nat.div_le_self ..) (by omega)) | exact two_lt (by omega)) (by first | omega | (exact Nat.lt_of_le_of_lt (by rw [Nat.shiftRight_eq_div_pow]; exact Nat.div_le_self ..) (by omega)) | exact two_lt (by omega)) ?_
          refine SOps.assign rfl ?_
          refine SOps.nil ?_
          show SCode _ _ _ _
          refine SCode.region ?_
          refine SOps.addI rfl rfl (by first | omega | (rw [tbl_len]; omega) | (rw [tbl_row]; omega)) (by first | omega | (rw [tbl_len]; omega) | (rw [tbl_row]; omega)) ?_
          refine SOps.move rfl ?_
          refine SOps.nil ?_
          first
            | exact ⟨i + 1, n, ⟨by omega, hn, by rw [← hf, hdr]; simp only [nextF]; rw [if_neg (by rw [bit0i.1 hb2]; simp)]⟩, by omega, St.Le.of ⟨rfl, rfl, rfl, rfl, rfl, rfl, rfl, rfl, trivial⟩⟩
            | exact ⟨i + 1, n, ⟨by omega, hn, by rw [← hf, hdr]; simp only [nextF]; rw [if_neg (by rw [tbl_at _ _ (by omega) hc] at hc3; rw [hc3]; simp)]⟩, by omega, St.Le.of ⟨rfl, rfl, rfl, rfl, rfl, rfl, rfl, rfl, trivial⟩⟩
            | exact ⟨i + 1, n ||| 2 ^ i, ⟨by omega, or_lt hn (by omega), by rw [← hf, hdr]; simp only [nextF]; rw [if_pos (by rw [tbl_at _ _ (by omega) hc] at hc3; simp only [Bool.and_eq_true]; exact ⟨by cases h : s.testBit i with | true => rfl | false => exact absurd (bit0i.2 h) hb2, hc3⟩), if_pos hc4]⟩, by omega, St.Le.of ⟨rfl, rfl, rfl, rfl, rfl, rfl, rfl, rfl, trivial⟩⟩
            | exact ⟨i + 1, n ||| 2 ^ (i + 1), ⟨by omega, or_lt hn (by omega), by rw [← hf, hdr]; simp only [nextF]; rw [if_pos (by rw [tbl_at _ _ (by omega) hc] at hc3; simp only [Bool.and_eq_true]; exact ⟨by cases h : s.testBit i with | true => rfl | false => exact absurd (bit0i.2 h) hb2, hc3⟩), if_neg (by rw [hc4]; simp)]⟩, by omega, St.Le.of ⟨rfl, rfl, rfl, rfl, rfl, rfl, rfl, rfl, trivial⟩⟩
        · try simp only [decide_eq_true_eq, decide_eq_false_iff_not, Bool.not_eq_true', Bool.not_eq_false', beq_iff_eq, bne_iff_ne, ne_eq, beq_eq_false_iff_ne, bne_eq_false_iff_eq, Int.not_lt, Int.not_le, Nat.not_lt, Nat.not_le, Int.ofNat_lt, Int.ofNat_le, Bool.not_eq_eq_eq_not, Bool.not_true, Bool.not_false] at hc4
          refine SCode.region ?_
          refine SOps.move rfl ?_
          refine SOps.move rfl ?_
          refine SOps.addI rfl rfl (by first | omega | (rw [tbl_len]; omega) | (rw [tbl_row]; omega)) (by first | omega | (rw [tbl_len]; omega) | (rw [tbl_row]; omega)) ?_
          refine SOps.shlN (k := (i + 1)) rfl rfl (by first | omega | (rw [tbl_len]; omega) | (rw [tbl_row]; omega)) (by first | omega | (rw [tbl_len]; omega) | (rw [tbl_row]; omega)) ?_
          refine SOps.orN rfl rfl (by first | omega | (exact Nat.lt_of_le_of_lt (by rw [Nat.shiftRight_eq_div_pow]; exact Nat.div_le_self ..) (by omega)) | exact two_lt (by omega)) (by first | omega | (exact Nat.lt_of_le_of_lt (by rw [Nat.shiftRight_eq_div_pow]; exact Nat.div_le_self ..) (by omega)) | exact two_lt (by omega)) ?_
          refine SOps.assign rfl ?_
          refine SOps.nil ?_
          show SCode _ _ _ _
          refine SCode.region ?_
          refine SOps.addI rfl rfl (by first | omega | (rw [tbl_len]; omega) | (rw [tbl_row]; omega)) (by first | omega | (rw [tbl_len]; omega) | (rw [tbl_row]; omega)) ?_
          refine SOps.move rfl ?_
          refine SOps.nil ?_
          first
            | exact ⟨i + 1, n, ⟨by omega, hn, by rw [← hf, hdr]; simp only [nextF]; rw [if_neg (by rw [bit0i.1 hb2]; simp)]⟩, by omega, St.Le.of ⟨rfl, rfl, rfl, rfl, rfl, rfl, rfl, rfl, trivial⟩⟩
            | exact ⟨i + 1, n, ⟨by omega, hn, by rw [← hf, hdr]; simp only [nextF]; rw [if_neg (by rw [tbl_at _ _ (by omega) hc] at hc3; rw [hc3]; simp)]⟩, by omega, St.Le.of ⟨rfl, rfl, rfl, rfl, rfl, rfl, rfl, rfl, trivial⟩⟩
            | exact ⟨i + 1, n ||| 2 ^ i, ⟨by omega, or_lt hn (by omega), by rw [← hf, hdr]; simp only [nextF]; rw [if_pos (by rw [tbl_at _ _ (by omega) hc] at hc3; simp only [Bool.and_eq_true]; exact ⟨by cases h : s.testBit i with | true => rfl | false => exact absurd (bit0i.2 h) hb2, hc3⟩), if_pos hc4]⟩, by omega, St.Le.of ⟨rfl, rfl, rfl, rfl, rfl, rfl, rfl, rfl, trivial⟩⟩
            | exact ⟨i + 1, n ||| 2 ^ (i + 1), ⟨by omega, or_lt hn (by omega), by rw [← hf, hdr]; simp only [nextF]; rw [if_pos (by rw [tbl_at _ _ (by omega) hc] at hc3; simp only [Bool.and_eq_true]; exact ⟨by cases h : s.testBit i with | true => rfl | false => exact absurd (bit0i.2 h) hb2, hc3⟩), if_neg (by rw [hc4]; simp)]⟩, by omega, St.Le.of ⟨rfl, rfl, rfl, rfl, rfl, rfl, rfl, rfl, trivial⟩⟩
  · try simp only [decide_eq_true_eq, decide_eq_false_iff_not, Bool.not_eq_true', Bool.not_eq_false', beq_iff_eq, bne_iff_ne, ne_eq, beq_eq_false_iff_ne, bne_eq_false_iff_eq, Int.not_lt, Int.not_le, Nat.not_lt, Nat.not_le, Int.ofNat_lt, Int.ofNat_le, Bool.not_eq_eq_eq_not, Bool.not_true, Bool.not_false] at hc1
    refine SCode.exit ?_
    show SCode _ _ _ _
    refine SCode.seqR ?_
    refine SOps.loadPin rfl flatB_23 ?_
    refine SOps.move rfl ?_
    refine SOps.callP (pClosed _ _ (by omega) (by omega)) rfl ?_
    rintro _ rfl
    refine SOps.assign rfl ?_
    refine SOps.nil ?_
    refine SCode.ret ?_
    exact ⟨_, Res.one (.tmp rfl), congrArg (fun n : Nat => DV.v (.int .u8 (n : Int))) (by rw [stepN, ← hf, List.drop_eq_nil_of_le (by omega)]; rfl), rfl⟩
def dv1 (d : DV) : List DV := [d]
def rowsI (T : List (List Bool)) (i : Nat) : List DV := (T.take i).map (fun r => DBools r) ++ List.replicate (T.length - i) (.v (.slice none 0 0))
theorem rowsI_zero (T : List (List Bool)) : rowsI T 0 = List.replicate T.length (.v (.slice none 0 0)) := by simp [rowsI]
theorem rowsI_len {T : List (List Bool)} {i : Nat} (h : i ≤ T.length) : (rowsI T i).length = T.length := by simp [rowsI]; omega
theorem rowsI_set {T : List (List Bool)} {i : Nat} (h : i < T.length) : (rowsI T i).set i (DBools (T[i])) = rowsI T (i + 1) := by
  unfold rowsI
  have e : T.length - i = (T.length - (i + 1)) + 1 := by omega
  rw [List.set_append_right _ _ (by simp; omega), e, List.replicate_succ]
  have e2 : i - ((T.take i).map (fun r => DBools r)).length = 0 := by simp; omega
  rw [e2, List.set_cons_zero, List.take_add_one, List.getElem?_eq_getElem h, List.map_append, List.append_assoc]
  rfl
theorem rowsI_full (T : List (List Bool)) : (rowsI T T.length).map dv1 = T.map encRow := by
  simp [rowsI, dv1, encRow, Function.comp_def]
def rowJ (l : List Bool) (j : Nat) : List Bool := l.take j ++ List.replicate (l.length - j) false
theorem rowJ_zero (l : List Bool) : rowJ l 0 = List.replicate l.length false := by simp [rowJ]
theorem rowJ_len {l : List Bool} {j : Nat} (h : j ≤ l.length) : (rowJ l j).length = l.length := by simp [rowJ]; omega
theorem rowJ_set {l : List Bool} {j : Nat} (h : j < l.length) : (rowJ l j).set j (l[j]) = rowJ l (j + 1) := by
  unfold rowJ
  have e : l.length - j = (l.length - (j + 1)) + 1 := by omega
  rw [List.set_append_right _ _ (by simp; omega), e, List.replicate_succ]
  have e2 : j - (l.take j).length = 0 := by simp; omega
  rw [e2, List.set_cons_zero, List.take_add_one, List.getElem?_eq_getElem h, List.append_assoc]
  rfl
theorem rowJ_full (l : List Bool) : rowJ l l.length = l := by simp [rowJ]
theorem pMachine (a : List Letter) (p : List Item) (hp : p.length < 8) (ha : a.length ≤ 1048576) : GCall Tryd.prog E 35 [DLs a, DIts p] [] (fun d H => d = .fn 57 [.ipin [DIts p], .ipin [DTbl (tbl a p)]] ∧ H = []) := by
  refine GCall.body (C := ⟨Tryd.prog, E, true⟩) Tryd.func35 rfl (fun _ => rfl) (by kernel_rfl) rfl ?_
  refine SCode.seqR ?_
  refine SOps.boxF rfl rfl rfl ?_
  refine SOps.assign rfl ?_
  refine SOps.nil ?_
  refine SCode.seqR ?_
  refine SOps.loadPin rfl flatB_23 ?_
  refine SOps.lenM rfl sliceB_23_56_4 ?_
  refine SOps.makeK (f := dv1) (p.length) (.v (.slice none 0 0)) sliceB_66_25_1 elemB_25_1_24 zeroIs_25 rfl rfl (by first | omega | (rw [rowsI_len (by rw [tbl_len]; omega), tbl_len]; omega) | (rw [List.length_set, rowsI_len (by rw [tbl_len]; omega), tbl_len]; omega) | (rw [rowJ_len (by simp; omega)]; simp; omega) | (simp; omega)) (by first | omega | (rw [rowsI_len (by rw [tbl_len]; omega), tbl_len]; omega) | (rw [List.length_set, rowsI_len (by rw [tbl_len]; omega), tbl_len]; omega) | (rw [rowJ_len (by simp; omega)]; simp; omega) | (simp; omega)) rfl (by first | omega | (rw [rowsI_len (by rw [tbl_len]; omega), tbl_len]; omega) | (rw [List.length_set, rowsI_len (by rw [tbl_len]; omega), tbl_len]; omega) | (rw [rowJ_len (by simp; omega)]; simp; omega) | (simp; omega)) (by simp only [lenB]; omega) (fun b0 hb_0 => ?_)
  refine SOps.alloc (sz := 1) zeroIs_66 (fun b1 hb_1 => ?_)
  refine SOps.storeM 0 rfl rfl oneB_66 rfl ?_
  refine SOps.nil ?_
  refine SCode.seq ?_
  refine SCode.seqR ?_
  refine SOps.loadPin rfl flatB_23 ?_
  refine SOps.lenM rfl sliceB_23_56_4 ?_
  refine SOps.move rfl ?_
  refine SOps.nil ?_
  refine SCode.block ?_
  refine SCode.loop1 (fun (i : Nat) => (⟨45, [(0, DLs a), (3, .ipin [DIts p]), (5, .ref b1 0), (13, DIts p), (14, .v (.int .i64 (p.length : Int))), (15, .v (.int .i64 (i : Int)))], [(b1, .row 66 1 [[.sl b0 1 0 p.length]]), (b0, .row 25 1 ((rowsI (tbl a p) i).map dv1))]⟩ : St)) (fun (i : Nat) => i ≤ p.length) (fun (i : Nat) => p.length - i) (0) (by exact Nat.zero_le _) (St.Le.of ⟨rfl, rfl, rfl, rfl, rfl, rfl, trivial⟩ rfl (by rw [rowsI_zero, tbl_len]; rfl)) ?_
  rintro i hi
  refine SCode.seqR ?_
  refine SOps.bin rfl rfl rfl ?_
  refine SOps.nil ?_
  refine SCode.seq ?_
  refine SCode.cond rfl (fun hc1 => ?_) (fun hc1 => ?_)
  · try simp only [decide_eq_true_eq, decide_eq_false_iff_not, Bool.not_eq_true', Bool.not_eq_false', beq_iff_eq, bne_iff_ne, ne_eq, beq_eq_false_iff_ne, bne_eq_false_iff_eq, Int.not_lt, Int.not_le, Nat.not_lt, Nat.not_le, Int.ofNat_lt, Int.ofNat_le, Bool.not_eq_eq_eq_not, Bool.not_true, Bool.not_false] at hc1
    refine SCode.skip ?_
    show SCode _ _ _ _
    refine SCode.seq ?_
    refine SCode.block ?_
    refine SCode.seqR ?_
    refine SOps.move rfl ?_
    refine SOps.indexM (i) rfl rfl sliceB_23_56_4 (by first | omega | (rw [rowsI_len (by rw [tbl_len]; omega), tbl_len]; omega) | (rw [List.length_set, rowsI_len (by rw [tbl_len]; omega), tbl_len]; omega) | (rw [rowJ_len (by simp; omega)]; simp; omega) | (simp; omega)) (by first | omega | (rw [rowsI_len (by rw [tbl_len]; omega), tbl_len]; omega) | (rw [List.length_set, rowsI_len (by rw [tbl_len]; omega), tbl_len]; omega) | (rw [rowJ_len (by simp; omega)]; simp; omega) | (simp; omega)) ?_
    refine SOps.loadPinA rfl aggB_56_4 (Nat.le_of_ble_eq_true rfl) ?_
    refine SOps.alloc (sz := 4) zeroIs_56 (fun b2 hb_2 => ?_)
    refine SOps.assign rfl ?_
    refine SOps.storeAM 0 rfl rfl aggB_56_4 rfl ?_
    refine SOps.freezeRef (t := 7) 0 0 rfl rfl rfl rfl rfl ?_
    refine SOps.nil ?_
    refine SCode.seq ?_
    have hi3 : i < p.length := by omega
    refine SCode.weaken (st' := (⟨45, [(0, DLs a), (3, .ipin [DIts p]), (5, .ref b1 0), (6, .v (.int .i64 (i : Int))), (7, .ipin (encIt (p[i]))), (13, DIts p), (14, .v (.int .i64 (p.length : Int))), (15, .v (.int .i64 (i : Int)))], [(b1, .row 66 1 [[.sl b0 1 0 p.length]]), (b0, .row 25 1 ((rowsI (tbl a p) i).map dv1))]⟩ : St)) (St.Le.of ⟨rfl, rfl, rfl, rfl, rfl, rfl, rfl, rfl, trivial⟩) ?_
    refine SCode.drawMix 8 [4, 5, 6] mixed_ [fun b => some (20, .sl b0 1 0 p.length), fun b => some (21, .v (.int .i64 (i : Int))), fun b => some (22, DLs a), fun b => some (23, .v (.int .i64 (a.length : Int))), fun b => some (24, .sl b 1 0 a.length), fun b => some (25, .ref b0 ((0 + i) * 1)), fun b => none] [some 20, some 21, some 22, some 23, some 24, some 25, none] [[.inr 5], [.inr 6], [.inr 0], [.inl 2], [.inl 3], [.inl 0, .inl 1], [.inl 5, .inl 4]] [fun b => [(5, .ref b1 0)], fun b => [(6, .v (.int .i64 (i : Int)))], fun b => [(0, DLs a)], fun b => [(22, DLs a)], fun b => [(23, .v (.int .i64 (a.length : Int)))], fun b => [(20, .sl b0 1 0 p.length), (21, .v (.int .i64 (i : Int)))], fun b => [(25, .ref b0 ((0 + i) * 1)), (24, .sl b 1 0 a.length)]] (fun b c => match c with | 0 => [(b1, .row 66 1 [[.sl b0 1 0 p.length]]), (b0, .row 25 1 ((rowsI (tbl a p) i).map dv1))] | 1 => [(b, .row 4 1 ((List.replicate a.length false).map encB)), (b1, .row 66 1 [[.sl b0 1 0 p.length]]), (b0, .row 25 1 ((rowsI (tbl a p) i).map dv1))] | 2 => [(b, .row 4 1 ((List.replicate a.length false).map encB)), (b1, .row 66 1 [[.sl b0 1 0 p.length]]), (b0, .row 25 1 ((rowsI (tbl a p) i).map dv1))] | _ => [(b, .row 4 1 ((List.replicate a.length false).map encB)), (b1, .row 66 1 [[.sl b0 1 0 p.length]]), (b0, .row 25 1 (((rowsI (tbl a p) i).set i (.sl b 1 0 a.length)).map dv1))]) [(false, false, [0, 1]), (false, false, [0, 1]), (false, false, [0]), (false, false, [0]), (true, true, [0]), (true, false, [1]), (true, false, [2])] (by kernel_rfl) (fun _ => rfl) rfl (fun _ => rfl) (fun _ => rfl) (cohOne 4 rfl (fun j r hj => by match j, hj with | 0, hj => exact .inl (by simp at hj; subst hj; intros; rfl) | 1, hj => exact .inl (by simp at hj; subst hj; intros; rfl) | 2, hj => exact .inl (by simp at hj; subst hj; intros; rfl) | 3, hj => exact .inl (by simp at hj; subst hj; intros; rfl) | 4, hj => exact .inr (.inl rfl) | 5, hj => exact .inl (by simp at hj; subst hj; intros; rfl) | 6, hj => exact .inl (by simp at hj; subst hj; intros; rfl) | q + 7, hj => simp at hj)) ?_ ?_
    · refine MixOk.cons ?_ ?_
      · refine StgOk.cons (fun b rest => ?_) ?_
        · refine SOps.loadRef 0 0 0 rfl flatB_66 rfl rfl rfl rfl ?_
          exact SOps.nil ⟨b, fun _ => rfl, by first | rfl | simp_all⟩
        refine StgOk.cons (fun b rest => ?_) ?_
        · refine SOps.loadRef 1 0 0 rfl flatB_66 rfl rfl rfl rfl ?_
          exact SOps.nil ⟨b, fun _ => rfl, by first | rfl | simp_all⟩
        exact StgOk.nil
      refine MixOk.cons ?_ ?_
      · refine StgOk.cons (fun b rest => ?_) ?_
        · refine SOps.move rfl ?_
          exact SOps.nil ⟨b, fun _ => rfl, by first | rfl | simp_all⟩
        refine StgOk.cons (fun b rest => ?_) ?_
        · refine SOps.move rfl ?_
          exact SOps.nil ⟨b, fun _ => rfl, by first | rfl | simp_all⟩
        exact StgOk.nil
      refine MixOk.cons ?_ ?_
      · refine StgOk.cons (fun b rest => ?_) ?_
        · refine SOps.move rfl ?_
          exact SOps.nil ⟨b, fun _ => rfl, by first | rfl | simp_all⟩
        exact StgOk.nil
      refine MixOk.cons ?_ ?_
      · refine StgOk.cons (fun b rest => ?_) ?_
        · refine SOps.lenM rfl sliceB_22_69_2 ?_
          exact SOps.nil ⟨b, fun _ => rfl, by first | rfl | simp_all⟩
        exact StgOk.nil
      refine MixOk.cons ?_ ?_
      · refine StgOk.cons (fun b rest => ?_) ?_
        · refine SOps.makeK (f := encB) (a.length) (false) sliceB_25_4_1 elemB_4_1_1 zeroIs_4 rfl rfl (by first | omega | (rw [rowsI_len (by rw [tbl_len]; omega), tbl_len]; omega) | (rw [List.length_set, rowsI_len (by rw [tbl_len]; omega), tbl_len]; omega) | (rw [rowJ_len (by simp; omega)]; simp; omega) | (simp; omega)) (by first | omega | (rw [rowsI_len (by rw [tbl_len]; omega), tbl_len]; omega) | (rw [List.length_set, rowsI_len (by rw [tbl_len]; omega), tbl_len]; omega) | (rw [rowJ_len (by simp; omega)]; simp; omega) | (simp; omega)) rfl (by first | omega | (rw [rowsI_len (by rw [tbl_len]; omega), tbl_len]; omega) | (rw [List.length_set, rowsI_len (by rw [tbl_len]; omega), tbl_len]; omega) | (rw [rowJ_len (by simp; omega)]; simp; omega) | (simp; omega)) (by simp only [lenB]; omega) (fun b3 hb_3 => ?_)
          exact SOps.nil ⟨b3, (fun h => by cases h), rfl⟩
        exact StgOk.nil
      refine MixOk.cons ?_ ?_
      · refine StgOk.cons (fun b rest => ?_) ?_
        · refine SOps.indexS (i) rfl rfl sliceB_66_25_1 (by first | omega | (rw [rowsI_len (by rw [tbl_len]; omega), tbl_len]; omega) | (rw [List.length_set, rowsI_len (by rw [tbl_len]; omega), tbl_len]; omega) | (rw [rowJ_len (by simp; omega)]; simp; omega) | (simp; omega)) (by first | omega | (rw [rowsI_len (by rw [tbl_len]; omega), tbl_len]; omega) | (rw [List.length_set, rowsI_len (by rw [tbl_len]; omega), tbl_len]; omega) | (rw [rowJ_len (by simp; omega)]; simp; omega) | (simp; omega)) ?_
          exact SOps.nil ⟨b, fun _ => rfl, by first | rfl | simp_all⟩
        exact StgOk.nil
      refine MixOk.cons ?_ ?_
      · refine StgOk.cons (fun b rest => ?_) ?_
        · refine SOps.storeK 2 (i) rfl rfl oneB_25 rfl (by first | omega | (rw [rowsI_len (by rw [tbl_len]; omega), tbl_len]; omega) | (rw [List.length_set, rowsI_len (by rw [tbl_len]; omega), tbl_len]; omega) | (rw [rowJ_len (by simp; omega)]; simp; omega) | (simp; omega)) (by first | omega | (rw [rowsI_len (by rw [tbl_len]; omega), tbl_len]; omega) | (rw [List.length_set, rowsI_len (by rw [tbl_len]; omega), tbl_len]; omega) | (rw [rowJ_len (by simp; omega)]; simp; omega) | (simp; omega)) rfl (fun _ => rfl) ?_
          exact SOps.nil ⟨b, fun _ => rfl, by first | rfl | simp_all⟩
        exact StgOk.nil
      exact MixOk.nil
    · intro bM
      show SCode _ _ _ _
      refine SCode.seqR ?_
      refine SOps.move rfl ?_
      refine SOps.lenM rfl sliceB_22_69_2 ?_
      refine SOps.move rfl ?_
      refine SOps.nil ?_
      refine SCode.block ?_
      refine SCode.loop1 (fun (j : Nat) => (⟨45, [(0, DLs a), (3, .ipin [DIts p]), (5, .ref b1 0), (6, .v (.int .i64 (i : Int))), (7, .ipin (encIt (p[i]))), (13, DIts p), (14, .v (.int .i64 (p.length : Int))), (15, .v (.int .i64 (i : Int))), (26, DLs a), (27, .v (.int .i64 (a.length : Int))), (28, .v (.int .i64 (j : Int)))], [(bM, .row 4 1 ((rowJ (a.map (admB (p[i]))) j).map encB)), (b1, .row 66 1 [[.sl b0 1 0 p.length]]), (b0, .row 25 1 (((rowsI (tbl a p) i).set i (.sl bM 1 0 a.length)).map dv1))]⟩ : St)) (fun (j : Nat) => j ≤ a.length) (fun (j : Nat) => a.length - j) (0) (by exact Nat.zero_le _) (St.Le.of ⟨rfl, rfl, rfl, rfl, rfl, rfl, rfl, rfl, rfl, rfl, rfl, trivial⟩ rfl (by rw [rowJ_zero, List.length_map]; rfl)) ?_
      rintro j hj
      refine SCode.seqR ?_
      refine SOps.bin rfl rfl rfl ?_
      refine SOps.nil ?_
      refine SCode.seq ?_
      refine SCode.cond rfl (fun hc2 => ?_) (fun hc2 => ?_)
      · try simp only [decide_eq_true_eq, decide_eq_false_iff_not, Bool.not_eq_true', Bool.not_eq_false', beq_iff_eq, bne_iff_ne, ne_eq, beq_eq_false_iff_ne, bne_eq_false_iff_eq, Int.not_lt, Int.not_le, Nat.not_lt, Nat.not_le, Int.ofNat_lt, Int.ofNat_le, Bool.not_eq_eq_eq_not, Bool.not_true, Bool.not_false] at hc2
        refine SCode.skip ?_
        show SCode _ _ _ _
        refine SCode.seq ?_
        refine SCode.block ?_
        refine SCode.seqR ?_
        refine SOps.move rfl ?_
        refine SOps.indexM (j) rfl rfl sliceB_22_69_2 (by first | omega | (rw [rowsI_len (by rw [tbl_len]; omega), tbl_len]; omega) | (rw [List.length_set, rowsI_len (by rw [tbl_len]; omega), tbl_len]; omega) | (rw [rowJ_len (by simp; omega)]; simp; omega) | (simp; omega)) (by first | omega | (rw [rowsI_len (by rw [tbl_len]; omega), tbl_len]; omega) | (rw [List.length_set, rowsI_len (by rw [tbl_len]; omega), tbl_len]; omega) | (rw [rowJ_len (by simp; omega)]; simp; omega) | (simp; omega)) ?_
        refine SOps.loadPinA rfl aggB_69_2 (Nat.le_of_ble_eq_true rfl) ?_
        refine SOps.alloc (sz := 2) zeroIs_69 (fun b4 hb_4 => ?_)
        refine SOps.assign rfl ?_
        refine SOps.storeAM 0 rfl rfl aggB_69_2 rfl ?_
        refine SOps.freezeRef (t := 9) 0 0 rfl rfl rfl rfl rfl ?_
        refine SOps.nil ?_
        have hj3 : j < a.length := by omega
        refine SCode.weaken (st' := (⟨45, [(0, DLs a), (3, .ipin [DIts p]), (5, .ref b1 0), (6, .v (.int .i64 (i : Int))), (7, .ipin (encIt (p[i]))), (8, .v (.int .i64 (j : Int))), (9, .ipin (encL (a[j]))), (13, DIts p), (14, .v (.int .i64 (p.length : Int))), (15, .v (.int .i64 (i : Int))), (26, DLs a), (27, .v (.int .i64 (a.length : Int))), (28, .v (.int .i64 (j : Int)))], [(bM, .row 4 1 ((rowJ (a.map (admB (p[i]))) j).map encB)), (b1, .row 66 1 [[.sl b0 1 0 p.length]]), (b0, .row 25 1 (((rowsI (tbl a p) i).set i (.sl bM 1 0 a.length)).map dv1))]⟩ : St)) (St.Le.of ⟨rfl, rfl, rfl, rfl, rfl, rfl, rfl, rfl, rfl, rfl, rfl, rfl, rfl, trivial⟩) ?_
        refine SCode.drawMix 11 [8, 9] mixed_ [fun b => some (33, .sl b0 1 0 p.length), fun b => some (34, .v (.int .i64 (i : Int))), fun b => some (35, .ref b0 ((0 + i) * 1)), fun b => some (36, .sl bM 1 0 a.length), fun b => some (37, .v (.int .i64 (j : Int))), fun b => some (38, .agg (encIt (p[i]))), fun b => some (39, .agg (encL (a[j]))), fun b => some (40, .v (.bool (admB (p[i]) (a[j])))), fun b => some (41, .ref bM ((0 + j) * 1)), fun b => none] [some 33, some 34, some 35, some 36, some 37, some 38, some 39, some 40, some 41, none] [[.inr 5], [.inr 6], [.inl 0, .inl 1], [.inl 2], [.inr 8], [.inr 7], [.inr 9], [.inl 5, .inl 6], [.inl 3, .inl 4], [.inl 8, .inl 7]] [fun b => [(5, .ref b1 0)], fun b => [(6, .v (.int .i64 (i : Int)))], fun b => [(33, .sl b0 1 0 p.length), (34, .v (.int .i64 (i : Int)))], fun b => [(35, .ref b0 ((0 + i) * 1))], fun b => [(8, .v (.int .i64 (j : Int)))], fun b => [(7, .ipin (encIt (p[i])))], fun b => [(9, .ipin (encL (a[j])))], fun b => [(38, .agg (encIt (p[i]))), (39, .agg (encL (a[j])))], fun b => [(36, .sl bM 1 0 a.length), (37, .v (.int .i64 (j : Int)))], fun b => [(41, .ref bM ((0 + j) * 1)), (40, .v (.bool (admB (p[i]) (a[j]))))]] (fun b c => match c with | 0 => [(bM, .row 4 1 ((rowJ (a.map (admB (p[i]))) j).map encB)), (b1, .row 66 1 [[.sl b0 1 0 p.length]]), (b0, .row 25 1 (((rowsI (tbl a p) i).set i (.sl bM 1 0 a.length)).map dv1))] | 1 => [(bM, .row 4 1 ((rowJ (a.map (admB (p[i]))) j).map encB)), (b1, .row 66 1 [[.sl b0 1 0 p.length]]), (b0, .row 25 1 (((rowsI (tbl a p) i).set i (.sl bM 1 0 a.length)).map dv1))] | _ => [(bM, .row 4 1 (((rowJ (a.map (admB (p[i]))) j).set j (admB (p[i]) (a[j]))).map encB)), (b1, .row 66 1 [[.sl b0 1 0 p.length]]), (b0, .row 25 1 (((rowsI (tbl a p) i).set i (.sl bM 1 0 a.length)).map dv1))]) [(false, false, [0]), (false, false, [0]), (false, false, [0]), (false, false, [0]), (false, false, [0]), (false, false, [0]), (false, false, [0]), (false, false, [0]), (true, false, [0]), (true, false, [1])] (by kernel_rfl) (fun _ => rfl) rfl (fun _ => rfl) (fun _ => rfl) (cohNone rfl) ?_ ?_
        · refine MixOk.cons ?_ ?_
          · refine StgOk.cons (fun b rest => ?_) ?_
            · refine SOps.loadRef 1 0 0 rfl flatB_66 rfl rfl rfl rfl ?_
              exact SOps.nil ⟨b, fun _ => rfl, by first | rfl | simp_all⟩
            exact StgOk.nil
          refine MixOk.cons ?_ ?_
          · refine StgOk.cons (fun b rest => ?_) ?_
            · refine SOps.move rfl ?_
              exact SOps.nil ⟨b, fun _ => rfl, by first | rfl | simp_all⟩
            exact StgOk.nil
          refine MixOk.cons ?_ ?_
          · refine StgOk.cons (fun b rest => ?_) ?_
            · refine SOps.indexS (i) rfl rfl sliceB_66_25_1 (by first | omega | (rw [rowsI_len (by rw [tbl_len]; omega), tbl_len]; omega) | (rw [List.length_set, rowsI_len (by rw [tbl_len]; omega), tbl_len]; omega) | (rw [rowJ_len (by simp; omega)]; simp; omega) | (simp; omega)) (by first | omega | (rw [rowsI_len (by rw [tbl_len]; omega), tbl_len]; omega) | (rw [List.length_set, rowsI_len (by rw [tbl_len]; omega), tbl_len]; omega) | (rw [rowJ_len (by simp; omega)]; simp; omega) | (simp; omega)) ?_
              exact SOps.nil ⟨b, fun _ => rfl, by first | rfl | simp_all⟩
            exact StgOk.nil
          refine MixOk.cons ?_ ?_
          · refine StgOk.cons (fun b rest => ?_) ?_
            · refine SOps.loadK (d := .sl bM 1 0 a.length) 2 (i) rfl flatB_25 rfl (by omega) (by first | omega | (rw [rowsI_len (by rw [tbl_len]; omega), tbl_len]; omega) | (rw [List.length_set, rowsI_len (by rw [tbl_len]; omega), tbl_len]; omega) | (rw [rowJ_len (by simp; omega)]; simp; omega) | (simp; omega)) (by simp [dv1]) ?_
              exact SOps.nil ⟨b, fun _ => rfl, by first | rfl | simp_all⟩
            exact StgOk.nil
          refine MixOk.cons ?_ ?_
          · refine StgOk.cons (fun b rest => ?_) ?_
            · refine SOps.move rfl ?_
              exact SOps.nil ⟨b, fun _ => rfl, by first | rfl | simp_all⟩
            exact StgOk.nil
          refine MixOk.cons ?_ ?_
          · refine StgOk.cons (fun b rest => ?_) ?_
            · refine SOps.loadPinA rfl aggB_56_4 (Nat.le_of_ble_eq_true rfl) ?_
              exact SOps.nil ⟨b, fun _ => rfl, by first | rfl | simp_all⟩
            exact StgOk.nil
          refine MixOk.cons ?_ ?_
          · refine StgOk.cons (fun b rest => ?_) ?_
            · refine SOps.loadPinA rfl aggB_69_2 (Nat.le_of_ble_eq_true rfl) ?_
              exact SOps.nil ⟨b, fun _ => rfl, by first | rfl | simp_all⟩
            exact StgOk.nil
          refine MixOk.cons ?_ ?_
          · refine StgOk.cons (fun b rest => ?_) ?_
            · refine SOps.callP (pAdmits _ _) rfl ?_
              rintro _ rfl
              exact SOps.nil ⟨b, fun _ => rfl, by first | rfl | simp_all⟩
            exact StgOk.nil
          refine MixOk.cons ?_ ?_
          · refine StgOk.cons (fun b rest => ?_) ?_
            · refine SOps.indexS (j) rfl rfl sliceB_25_4_1 (by first | omega | (rw [rowsI_len (by rw [tbl_len]; omega), tbl_len]; omega) | (rw [List.length_set, rowsI_len (by rw [tbl_len]; omega), tbl_len]; omega) | (rw [rowJ_len (by simp; omega)]; simp; omega) | (simp; omega)) (by first | omega | (rw [rowsI_len (by rw [tbl_len]; omega), tbl_len]; omega) | (rw [List.length_set, rowsI_len (by rw [tbl_len]; omega), tbl_len]; omega) | (rw [rowJ_len (by simp; omega)]; simp; omega) | (simp; omega)) ?_
              exact SOps.nil ⟨b, fun _ => rfl, by first | rfl | simp_all⟩
            exact StgOk.nil
          refine MixOk.cons ?_ ?_
          · refine StgOk.cons (fun b rest => ?_) ?_
            · refine SOps.storeK 0 (j) rfl rfl oneB_4 rfl (by first | omega | (rw [rowsI_len (by rw [tbl_len]; omega), tbl_len]; omega) | (rw [List.length_set, rowsI_len (by rw [tbl_len]; omega), tbl_len]; omega) | (rw [rowJ_len (by simp; omega)]; simp; omega) | (simp; omega)) (by first | omega | (rw [rowsI_len (by rw [tbl_len]; omega), tbl_len]; omega) | (rw [List.length_set, rowsI_len (by rw [tbl_len]; omega), tbl_len]; omega) | (rw [rowJ_len (by simp; omega)]; simp; omega) | (simp; omega)) rfl (fun _ => rfl) ?_
              exact SOps.nil ⟨b, fun _ => rfl, by first | rfl | simp_all⟩
            exact StgOk.nil
          exact MixOk.nil
        · intro bN
          show SCode _ _ _ _
          refine SCode.region ?_
          refine SOps.addI rfl rfl (by first | omega | (rw [rowsI_len (by rw [tbl_len]; omega), tbl_len]; omega) | (rw [List.length_set, rowsI_len (by rw [tbl_len]; omega), tbl_len]; omega) | (rw [rowJ_len (by simp; omega)]; simp; omega) | (simp; omega)) (by first | omega | (rw [rowsI_len (by rw [tbl_len]; omega), tbl_len]; omega) | (rw [List.length_set, rowsI_len (by rw [tbl_len]; omega), tbl_len]; omega) | (rw [rowJ_len (by simp; omega)]; simp; omega) | (simp; omega)) ?_
          refine SOps.move rfl ?_
          refine SOps.nil ?_
          exact ⟨j + 1, by omega, by omega, St.Le.of ⟨rfl, rfl, rfl, rfl, rfl, rfl, rfl, rfl, rfl, rfl, rfl, trivial⟩ rfl (by rw [← rowJ_set (show j < (a.map (admB (p[i]))).length by simp; omega)]; simp only [List.getElem_map]; rfl)⟩
      · try simp only [decide_eq_true_eq, decide_eq_false_iff_not, Bool.not_eq_true', Bool.not_eq_false', beq_iff_eq, bne_iff_ne, ne_eq, beq_eq_false_iff_ne, bne_eq_false_iff_eq, Int.not_lt, Int.not_le, Nat.not_lt, Nat.not_le, Int.ofNat_lt, Int.ofNat_le, Bool.not_eq_eq_eq_not, Bool.not_true, Bool.not_false] at hc2
        refine SCode.exit ?_
        show SCode _ _ _ _
        refine SCode.region ?_
        have hil : i < (tbl a p).length := by rw [tbl_len]; omega
        obtain rfl : j = a.length := by omega
        have hrow : rowJ (a.map (admB (p[i]))) a.length = (tbl a p)[i] := by rw [show a.length = (a.map (admB (p[i]))).length by simp, rowJ_full]; simp [tbl]
        have hset2 : ((((rowsI (tbl a p) i).set i (.sl bM 1 0 a.length)).map dv1).set i (([.sl bM 1 0 a.length] : List DV).set 0 (.isl false 1 ((rowJ (a.map (admB (p[i]))) a.length).map encB)))) = (rowsI (tbl a p) (i + 1)).map dv1 := by rw [hrow, ← rowsI_set hil, List.map_set, List.map_set, List.set_set]; rfl
        refine SOps.freezeIn 0 1 i 0 rfl rfl rfl (row := [.sl bM 1 0 a.length]) (by simp [dv1, List.getElem?_set, rowsI_len (Nat.le_of_lt hil), hil]) (by simp [rowJ]) ?_
        refine SOps.addI rfl rfl (by first | omega | (rw [rowsI_len (by rw [tbl_len]; omega), tbl_len]; omega) | (rw [List.length_set, rowsI_len (by rw [tbl_len]; omega), tbl_len]; omega) | (rw [rowJ_len (by simp; omega)]; simp; omega) | (simp; omega)) (by first | omega | (rw [rowsI_len (by rw [tbl_len]; omega), tbl_len]; omega) | (rw [List.length_set, rowsI_len (by rw [tbl_len]; omega), tbl_len]; omega) | (rw [rowJ_len (by simp; omega)]; simp; omega) | (simp; omega)) ?_
        refine SOps.move rfl ?_
        refine SOps.nil ?_
        exact ⟨i + 1, by omega, by omega, St.Le.of ⟨rfl, rfl, rfl, rfl, rfl, rfl, trivial⟩ rfl (by rw [hset2]; rfl)⟩
  · try simp only [decide_eq_true_eq, decide_eq_false_iff_not, Bool.not_eq_true', Bool.not_eq_false', beq_iff_eq, bne_iff_ne, ne_eq, beq_eq_false_iff_ne, bne_eq_false_iff_eq, Int.not_lt, Int.not_le, Nat.not_lt, Nat.not_le, Int.ofNat_lt, Int.ofNat_le, Bool.not_eq_eq_eq_not, Bool.not_true, Bool.not_false] at hc1
    refine SCode.exit ?_
    show SCode _ _ _ _
    refine SCode.seqR ?_
    obtain rfl : i = p.length := by omega
    refine SOps.freezeIn 1 0 0 0 rfl rfl rfl rfl (by simp [rowsI_len, tbl_len]) ?_
    refine SOps.freezeRef (t := 5) 0 0 rfl rfl rfl rfl rfl ?_
    refine SOps.reSlot (t := 5) rfl (show _ = .ipin [DTbl (tbl a p)] from by show DV.ipin [.isl false 1 ((rowsI (tbl a p) p.length).map dv1)] = .ipin [.isl false 1 ((tbl a p).map encRow)]; rw [← rowsI_full, tbl_len]) ?_
    refine SOps.makeFunc rfl ?_
    refine SOps.assign rfl ?_
    refine SOps.nil ?_
    refine SCode.drop ?_
    refine SCode.ret ?_
    exact ⟨_, Res.one (.tmp rfl), rfl, rfl⟩
theorem lensF_cons {β : Type} (f : Item → β → Bool) (p : List Item) (c : β) (w : List β) (i s : Nat) : lensF f p (c :: w) i s = (if s.testBit p.length then [i] else []) ++ if s = 0 then [] else lensF f p w (i + 1) (stepN p (fun x => f x c) s) := rfl
theorem lensF_nil {β : Type} (f : Item → β → Bool) (p : List Item) (i s : Nat) : lensF f p [] i s = if s.testBit p.length then [i] else [] := rfl
theorem pLengths (a : List Letter) (p : List Item) (l : List Nat) (hp : p.length < 8) (ha : a.length ≤ 1048576) (hl : l.length ≤ 1048576) (hlt : ∀ c ∈ l, c < a.length) : GCall Tryd.prog E 45 [DLs a, DIts p, DNats l] [] (fun d H => d = DNats (lens (admF a) p l) ∧ H = []) := by
  refine GCall.body (C := ⟨Tryd.prog, E, true⟩) Tryd.func45 rfl (fun _ => rfl) (by kernel_rfl) rfl ?_
  refine SCode.seqR ?_
  refine SOps.assign rfl ?_
  refine SOps.nil ?_
  refine SCode.seqR ?_
  refine SOps.assign rfl ?_
  refine SOps.nil ?_
  refine SCode.seqR ?_
  refine SOps.move rfl ?_
  refine SOps.move rfl ?_
  refine SOps.callP (pMachine _ _ (by omega) (by omega)) rfl ?_
  rintro _ rfl
  refine SOps.assign rfl ?_
  refine SOps.nil ?_
  refine SCode.seqR ?_
  refine SOps.move rfl ?_
  refine SOps.callP (pClosed _ 1 (by omega) (by decide)) rfl ?_
  rintro _ rfl
  refine SOps.assign rfl ?_
  refine SOps.nil ?_
  refine SCode.seqR ?_
  refine SOps.assign rfl ?_
  refine SOps.nil ?_
  refine SCode.block ?_
  refine SCode.loop4 (fun (i : Nat) (s : Nat) (out : List Nat) (k : Nat) => (⟨44, [(0, DLs a), (1, DIts p), (2, DNats l), (7, accD 1 k (out.map encN)), (8, .fn 57 [.ipin [DIts p], .ipin [DTbl (tbl a p)]]), (9, .v (.int .u8 ((s : Nat) : Int))), (10, .v (.int .i64 (i : Int)))], accH 3 1 k (out.map encN) ++ []⟩ : St)) (fun (i : Nat) (s : Nat) (out : List Nat) (k : Nat) => i ≤ l.length ∧ out.length ≤ i ∧ s < 256 ∧ out ++ lensF (admF a) p (l.drop i) i s = lens (admF a) p l) (fun (i : Nat) (s : Nat) (out : List Nat) (k : Nat) => l.length + 1 - i) (0) (closedN p 1) ([]) (0) (by exact ⟨Nat.zero_le _, Nat.le_refl _, closedN_lt (by omega) (by decide), rfl⟩) (St.Le.of ⟨(by first | rfl | (show some _ = some _; simp)), (by first | rfl | (show some _ = some _; simp)), (by first | rfl | (show some _ = some _; simp)), (by first | rfl | (show some _ = some _; simp)), (by first | rfl | (show some _ = some _; simp)), (by first | rfl | (show some _ = some _; simp)), (by first | rfl | (show some _ = some _; simp)), trivial⟩ rfl (by first | rfl | (simp))) ?_
  rintro i s out k ⟨hi, ho, hs, hf⟩
  refine SCode.seq ?_
  refine SCode.block ?_
  refine SCode.seq ?_
  refine SCode.seqR ?_
  refine SOps.move rfl ?_
  refine SOps.move rfl ?_
  refine SOps.lenM rfl sliceB_23_56_4 ?_
  refine SOps.shrN (k := p.length) rfl rfl (by first | omega | (simp only [lenB]; omega)) (by first | omega | (simp only [lenB]; omega)) (by first | omega | (simp only [lenB]; omega)) ?_
  refine SOps.andN (y := 1) rfl rfl (by first | omega | (exact Nat.lt_of_le_of_lt (by rw [Nat.shiftRight_eq_div_pow]; exact Nat.div_le_self ..) (by omega)) | exact two_lt (by omega)) (by first | omega | (exact Nat.lt_of_le_of_lt (by rw [Nat.shiftRight_eq_div_pow]; exact Nat.div_le_self ..) (by omega)) | exact two_lt (by omega)) ?_
  refine SOps.bin rfl rfl rfl ?_
  refine SOps.nil ?_
  refine SCode.cond rfl (fun hc1 => ?_) (fun hc1 => ?_)
  · try simp only [decide_eq_true_eq, decide_eq_false_iff_not, Bool.not_eq_true', Bool.not_eq_false', beq_iff_eq, bne_iff_ne, ne_eq, beq_eq_false_iff_ne, bne_eq_false_iff_eq, Int.not_lt, Int.not_le, Nat.not_lt, Nat.not_le, Int.ofNat_lt, Int.ofNat_le, Bool.not_eq_eq_eq_not, Bool.not_true, Bool.not_false] at hc1
    refine SCode.region ?_
    refine SOps.move rfl ?_
    refine SOps.move rfl ?_
    refine SOps.litF rfl sliceB_39_3_1 zeroIs_3 rfl ?_
    refine SOps.appendAcc [] [] sliceB_39_3_1 elemB_3_1_8 rfl rfl rfl SrcD.isl (by simp) (by first | (simp [lenB] <;> (first | omega | (simp only [lenB]; omega))) | (simp only [lenB]; (first | omega | (simp only [lenB]; omega)))) (by first | (simp <;> (first | omega | (simp only [lenB]; omega))) | (first | omega | (simp only [lenB]; omega))) (fun b0 => ?_)
    refine SOps.assign rfl ?_
    refine SOps.nil ?_
    show SCode _ _ _ _
    refine SCode.seq ?_
    refine SCode.seqR ?_
    refine SOps.move rfl ?_
    refine SOps.move rfl ?_
    refine SOps.lenM rfl sliceB_39_3_1 ?_
    refine SOps.bin rfl rfl rfl ?_
    refine SOps.move rfl ?_
    refine SOps.caseB 32 rfl (fun hb2 => ?_) (fun hb2 => ?_)
    · try simp only [decide_eq_true_eq, decide_eq_false_iff_not, Bool.not_eq_true', Bool.not_eq_false', beq_iff_eq, bne_iff_ne, ne_eq, beq_eq_false_iff_ne, bne_eq_false_iff_eq, Int.not_lt, Int.not_le, Nat.not_lt, Nat.not_le, Int.ofNat_lt, Int.ofNat_le, Bool.not_eq_eq_eq_not, Bool.not_true, Bool.not_false] at hb2
      refine SOps.skip rfl ?_
      refine SOps.skip rfl ?_
      refine SOps.pick rfl rfl ?_
      refine SOps.nil ?_
      refine SCode.cond rfl (fun _ => ?_) (fun h => by cases h)
      refine SCode.seqR ?_
      refine SOps.freezeAcc (t := 7) [] [] rfl rfl rfl ?_
      refine SOps.move rfl ?_
      refine SOps.assign rfl ?_
      refine SOps.nil ?_
      refine SCode.ret ?_
      have hfin : out ++ [i] = lens (admF a) p l := by rw [← hf, List.drop_eq_nil_of_le (show l.length ≤ i by omega), lensF_nil, if_pos (bit1i.1 hc1)]
      exact ⟨_, Res.one (.tmp rfl), by rw [← hfin]; exact congrArg (DV.isl false 1) (by rw [List.map_append]; rfl), rfl⟩
    · try simp only [decide_eq_true_eq, decide_eq_false_iff_not, Bool.not_eq_true', Bool.not_eq_false', beq_iff_eq, bne_iff_ne, ne_eq, beq_eq_false_iff_ne, bne_eq_false_iff_eq, Int.not_lt, Int.not_le, Nat.not_lt, Nat.not_le, Int.ofNat_lt, Int.ofNat_le, Bool.not_eq_eq_eq_not, Bool.not_true, Bool.not_false] at hb2
      refine SOps.move rfl ?_
      refine SOps.bin rfl rfl rfl ?_
      refine SOps.pick rfl rfl ?_
      refine SOps.nil ?_
      refine SCode.cond rfl (fun hc3 => ?_) (fun hc3 => ?_)
      · try simp only [decide_eq_true_eq, decide_eq_false_iff_not, Bool.not_eq_true', Bool.not_eq_false', beq_iff_eq, bne_iff_ne, ne_eq, beq_eq_false_iff_ne, bne_eq_false_iff_eq, Int.not_lt, Int.not_le, Nat.not_lt, Nat.not_le, Int.ofNat_lt, Int.ofNat_le, Bool.not_eq_eq_eq_not, Bool.not_true, Bool.not_false] at hc3
        refine SCode.seqR ?_
        refine SOps.freezeAcc (t := 7) [] [] rfl rfl rfl ?_
        refine SOps.move rfl ?_
        refine SOps.assign rfl ?_
        refine SOps.nil ?_
        refine SCode.ret ?_
        have hfin : out ++ [i] = lens (admF a) p l := by rcases hd : l.drop i with _ | ⟨c0, w0⟩; (rw [← hf, hd, lensF_nil, if_pos (bit1i.1 hc1)]); (rw [← hf, hd, lensF_cons, if_pos (bit1i.1 hc1), if_pos (show s = 0 by omega)]; simp)
        exact ⟨_, Res.one (.tmp rfl), by rw [← hfin]; exact congrArg (DV.isl false 1) (by rw [List.map_append]; rfl), rfl⟩
      · try simp only [decide_eq_true_eq, decide_eq_false_iff_not, Bool.not_eq_true', Bool.not_eq_false', beq_iff_eq, bne_iff_ne, ne_eq, beq_eq_false_iff_ne, bne_eq_false_iff_eq, Int.not_lt, Int.not_le, Nat.not_lt, Nat.not_le, Int.ofNat_lt, Int.ofNat_le, Bool.not_eq_eq_eq_not, Bool.not_true, Bool.not_false] at hc3
        refine SCode.skip ?_
        show SCode _ _ _ _
        refine SCode.region ?_
        have hi6 : i < l.length := by omega
        have hc6 := hlt _ (List.getElem_mem hi6)
        refine SOps.move rfl ?_
        refine SOps.move rfl ?_
        refine SOps.move rfl ?_
        refine SOps.move rfl ?_
        refine SOps.indexM (i) rfl rfl sliceB_39_3_1 (by first | omega | (simp only [lenB]; omega)) (by first | omega | (simp only [lenB]; omega)) ?_
        refine SOps.loadPin rfl flatB_3 ?_
        refine SOps.callFn (ds := [_, _]) rfl (pNext a p _ (l[i]) (by omega) (by omega) hc6) rfl ?_
        rintro _ _ ⟨rfl, rfl⟩
        refine SOps.assign rfl ?_
        refine SOps.nil ?_
        show SCode _ _ _ _
        refine SCode.region ?_
        refine SOps.move rfl ?_
        refine SOps.addI rfl rfl (by first | omega | (simp only [lenB]; omega)) (by first | omega | (simp only [lenB]; omega)) ?_
        refine SOps.assign rfl ?_
        refine SOps.nil ?_
        first
          | (have hi5 : i < l.length := (by omega); exact ⟨i + 1, stepN p (fun x => admF a x (l[i])) s, out ++ [i], b0, ⟨by omega, (by first | omega | (simp; omega)), stepN_lt _ (by omega), by rw [← hf, List.drop_eq_getElem_cons hi5, lensF_cons, if_pos (bit1i.1 hc1), if_neg (show ¬ s = 0 by omega)]; simp⟩, by omega, St.Le.of ⟨rfl, rfl, rfl, (by show some _ = some _; rw [List.map_append]; rfl), rfl, rfl, rfl, trivial⟩ rfl (by rw [List.map_append]; rfl)⟩)
          | (have hi5 : i < l.length := (by omega); exact ⟨i + 1, stepN p (fun x => admF a x (l[i])) s, out, k, ⟨by omega, (by first | omega | (simp; omega)), stepN_lt _ (by omega), by rw [← hf, List.drop_eq_getElem_cons hi5, lensF_cons, if_neg (fun h => hc1 (bit1i.2 h)), if_neg (show ¬ s = 0 by omega)]; simp⟩, by omega, St.Le.of ⟨rfl, rfl, rfl, (rfl), rfl, rfl, rfl, trivial⟩ rfl (by rfl)⟩)
  · try simp only [decide_eq_true_eq, decide_eq_false_iff_not, Bool.not_eq_true', Bool.not_eq_false', beq_iff_eq, bne_iff_ne, ne_eq, beq_eq_false_iff_ne, bne_eq_false_iff_eq, Int.not_lt, Int.not_le, Nat.not_lt, Nat.not_le, Int.ofNat_lt, Int.ofNat_le, Bool.not_eq_eq_eq_not, Bool.not_true, Bool.not_false] at hc1
    refine SCode.skip ?_
    show SCode _ _ _ _
    refine SCode.seq ?_
    refine SCode.seqR ?_
    refine SOps.move rfl ?_
    refine SOps.move rfl ?_
    refine SOps.lenM rfl sliceB_39_3_1 ?_
    refine SOps.bin rfl rfl rfl ?_
    refine SOps.move rfl ?_
    refine SOps.caseB 32 rfl (fun hb4 => ?_) (fun hb4 => ?_)
    · try simp only [decide_eq_true_eq, decide_eq_false_iff_not, Bool.not_eq_true', Bool.not_eq_false', beq_iff_eq, bne_iff_ne, ne_eq, beq_eq_false_iff_ne, bne_eq_false_iff_eq, Int.not_lt, Int.not_le, Nat.not_lt, Nat.not_le, Int.ofNat_lt, Int.ofNat_le, Bool.not_eq_eq_eq_not, Bool.not_true, Bool.not_false] at hb4
      refine SOps.skip rfl ?_
      refine SOps.skip rfl ?_
      refine SOps.pick rfl rfl ?_
      refine SOps.nil ?_
      refine SCode.cond rfl (fun _ => ?_) (fun h => by cases h)
      refine SCode.seqR ?_
      refine SOps.freezeAcc (t := 7) [] [] rfl rfl rfl ?_
      refine SOps.move rfl ?_
      refine SOps.assign rfl ?_
      refine SOps.nil ?_
      refine SCode.ret ?_
      have hfin : out = lens (admF a) p l := by rw [← hf, List.drop_eq_nil_of_le (show l.length ≤ i by omega), lensF_nil, if_neg (fun h => hc1 (bit1i.2 h))] <;> simp
      exact ⟨_, Res.one (.tmp rfl), by rw [← hfin], rfl⟩
    · try simp only [decide_eq_true_eq, decide_eq_false_iff_not, Bool.not_eq_true', Bool.not_eq_false', beq_iff_eq, bne_iff_ne, ne_eq, beq_eq_false_iff_ne, bne_eq_false_iff_eq, Int.not_lt, Int.not_le, Nat.not_lt, Nat.not_le, Int.ofNat_lt, Int.ofNat_le, Bool.not_eq_eq_eq_not, Bool.not_true, Bool.not_false] at hb4
      refine SOps.move rfl ?_
      refine SOps.bin rfl rfl rfl ?_
      refine SOps.pick rfl rfl ?_
      refine SOps.nil ?_
      refine SCode.cond rfl (fun hc5 => ?_) (fun hc5 => ?_)
      · try simp only [decide_eq_true_eq, decide_eq_false_iff_not, Bool.not_eq_true', Bool.not_eq_false', beq_iff_eq, bne_iff_ne, ne_eq, beq_eq_false_iff_ne, bne_eq_false_iff_eq, Int.not_lt, Int.not_le, Nat.not_lt, Nat.not_le, Int.ofNat_lt, Int.ofNat_le, Bool.not_eq_eq_eq_not, Bool.not_true, Bool.not_false] at hc5
        refine SCode.seqR ?_
        refine SOps.freezeAcc (t := 7) [] [] rfl rfl rfl ?_
        refine SOps.move rfl ?_
        refine SOps.assign rfl ?_
        refine SOps.nil ?_
        refine SCode.ret ?_
        have hfin : out = lens (admF a) p l := by rcases hd : l.drop i with _ | ⟨c0, w0⟩; (rw [← hf, hd, lensF_nil, if_neg (fun h => hc1 (bit1i.2 h))] <;> simp); (rw [← hf, hd, lensF_cons, if_neg (fun h => hc1 (bit1i.2 h)), if_pos (show s = 0 by omega)]; simp)
        exact ⟨_, Res.one (.tmp rfl), by rw [← hfin], rfl⟩
      · try simp only [decide_eq_true_eq, decide_eq_false_iff_not, Bool.not_eq_true', Bool.not_eq_false', beq_iff_eq, bne_iff_ne, ne_eq, beq_eq_false_iff_ne, bne_eq_false_iff_eq, Int.not_lt, Int.not_le, Nat.not_lt, Nat.not_le, Int.ofNat_lt, Int.ofNat_le, Bool.not_eq_eq_eq_not, Bool.not_true, Bool.not_false] at hc5
        refine SCode.skip ?_
        show SCode _ _ _ _
        refine SCode.region ?_
        have hi6 : i < l.length := by omega
        have hc6 := hlt _ (List.getElem_mem hi6)
        refine SOps.move rfl ?_
        refine SOps.move rfl ?_
        refine SOps.move rfl ?_
        refine SOps.move rfl ?_
        refine SOps.indexM (i) rfl rfl sliceB_39_3_1 (by first | omega | (simp only [lenB]; omega)) (by first | omega | (simp only [lenB]; omega)) ?_
        refine SOps.loadPin rfl flatB_3 ?_
        refine SOps.callFn (ds := [_, _]) rfl (pNext a p _ (l[i]) (by omega) (by omega) hc6) rfl ?_
        rintro _ _ ⟨rfl, rfl⟩
        refine SOps.assign rfl ?_
        refine SOps.nil ?_
        show SCode _ _ _ _
        refine SCode.region ?_
        refine SOps.move rfl ?_
        refine SOps.addI rfl rfl (by first | omega | (simp only [lenB]; omega)) (by first | omega | (simp only [lenB]; omega)) ?_
        refine SOps.assign rfl ?_
        refine SOps.nil ?_
        first
          | (have hi5 : i < l.length := (by omega); exact ⟨i + 1, stepN p (fun x => admF a x (l[i])) s, out ++ [i], b0, ⟨by omega, (by first | omega | (simp; omega)), stepN_lt _ (by omega), by rw [← hf, List.drop_eq_getElem_cons hi5, lensF_cons, if_pos (bit1i.1 hc1), if_neg (show ¬ s = 0 by omega)]; simp⟩, by omega, St.Le.of ⟨rfl, rfl, rfl, (by show some _ = some _; rw [List.map_append]; rfl), rfl, rfl, rfl, trivial⟩ rfl (by rw [List.map_append]; rfl)⟩)
          | (have hi5 : i < l.length := (by omega); exact ⟨i + 1, stepN p (fun x => admF a x (l[i])) s, out, k, ⟨by omega, (by first | omega | (simp; omega)), stepN_lt _ (by omega), by rw [← hf, List.drop_eq_getElem_cons hi5, lensF_cons, if_neg (fun h => hc1 (bit1i.2 h)), if_neg (show ¬ s = 0 by omega)]; simp⟩, by omega, St.Le.of ⟨rfl, rfl, rfl, (rfl), rfl, rfl, rfl, trivial⟩ rfl (by rfl)⟩)
theorem GCall.nilI {P : Program} {E : Env} {f : FuncId} {ds : List DV} {c : Bool} {sz : Nat} {es : List (List DV)} (h : GCall P E f ds [] (fun d H => d = (if c then .isl false sz es else .v (.slice none 0 0)) ∧ H = [])) : GCall P E f ds [] (fun d H => d = .isl false sz (if c then es else []) ∧ H = []) :=
  ⟨h.1, fun w F vs h1 h2 h3 h4 h5 h6 => (h.2 w F vs h1 h2 h3 h4 h5 h6).mono (fun e w' ⟨u, d, H', F', k1, ⟨k2, k3⟩, k4, k5, k6, k7⟩ => by
    subst k3
    refine ⟨u, .isl false sz (if c then es else []), [], F', k1, ⟨rfl, rfl⟩, k4, k5, ?_, k7⟩
    rw [k2] at k6
    cases c with
    | true => exact k6
    | false => exact nil_isl k6)⟩
theorem idxs_lt {a : List Letter} {s : ByteArray} (h : overA a s = true) : ∀ c ∈ idxs a s, c < a.length := by
  intro c hc
  obtain ⟨r, hr, rfl⟩ := List.mem_map.1 hc
  simp only [overA, Bool.and_eq_true, List.all_eq_true] at h
  obtain ⟨k, hk⟩ := Option.isSome_iff_exists.1 (h.2 r hr)
  rw [hk]
  exact idx_lt hk
theorem idxs_len (a : List Letter) (s : ByteArray) : (idxs a s).length ≤ s.size := by
  have := runes_len s
  simpa [idxs] using this
theorem lens_last {β : Type} (f : Item → β → Bool) (p : List Item) (w : List β) : lens f p w = ((List.range w.length).filter (fun n => M f p (w.take n))) ++ if M f p w then [w.length] else [] := by
  rw [lens_eq, List.range_succ, List.filter_append, List.filter_cons, List.filter_nil, List.take_of_length_le (Nat.le_refl _)]
theorem lens_lt {β : Type} (f : Item → β → Bool) (p : List Item) (w : List β) {n : Nat} (h : n ∈ (List.range w.length).filter (fun n => M f p (w.take n))) : n < w.length := List.mem_range.1 (List.mem_filter.1 h).1
theorem lens_iff {β : Type} (f : Item → β → Bool) (p : List Item) (w : List β) (h : 0 < (lens f p w).length) : (lens f p w)[(lens f p w).length - 1]'(by omega) = w.length ↔ M f p w = true := by
  rcases hm : M f p w with _ | _
  · have e := lens_last f p w
    rw [hm] at e
    simp only [Bool.false_eq_true, if_false, List.append_nil] at e
    have := lens_lt f p w (n := (lens f p w)[(lens f p w).length - 1]'(by omega)) (by rw [← e]; exact List.getElem_mem _)
    constructor
    · intro h2; omega
    · intro h2; cases h2
  · have e := lens_last f p w
    rw [hm] at e
    simp only [if_true] at e
    simp [e]
theorem lens_pos {β : Type} (f : Item → β → Bool) (p : List Item) (w : List β) (h : M f p w = true) : 0 < (lens f p w).length := by
  rw [lens_last, h]; simp
def matchesP (a : List Letter) (p : List Item) (s : ByteArray) : Bool := validPat a p && overA a s && M (admF a) p (idxs a s)
def prefixesP (a : List Letter) (p : List Item) (s : ByteArray) : List Nat := if validPat a p && overA a s then lens (admF a) p (idxs a s) else []
theorem validPat_len {a : List Letter} {p : List Item} (h : validPat a p = true) : a.length ≤ 65 ∧ p.length ≤ 3 := by
  simp only [validPat, Bool.and_eq_true, decide_eq_true_eq] at h; omega
theorem pMatches (hV : VS E) (a : List Letter) (p : List Item) (s : ByteArray) (hp : ∀ x ∈ p, x.lets.size ≤ 1048576) (hs : s.size ≤ 1048576) : GCall Tryd.prog E 20 [DLs a, DIts p, .v (.string s)] [] (fun d H => d = .v (.bool (matchesP a p s)) ∧ H = []) := by
  refine GCall.body (C := ⟨Tryd.prog, E, true⟩) Tryd.func20 rfl (fun _ => rfl) (by kernel_rfl) rfl ?_
  refine SCode.seqR ?_
  refine SOps.assign rfl ?_
  refine SOps.nil ?_
  refine SCode.seqR ?_
  refine SOps.move rfl ?_
  refine SOps.move rfl ?_
  refine SOps.move rfl ?_
  refine SOps.callP (pRead hV a p s hp hs) rfl ?_
  rintro _ rfl
  rcases hva : (validPat a p && overA a s) with _ | _
  · show SOps _ _ _ ⟨_, (14, .tup [.v (.slice none 0 0), .v (.bool false)]) :: _, _⟩ _
    refine SOps.move rfl ?_
    refine SOps.extract rfl rfl ?_
    refine SOps.extract rfl rfl ?_
    refine SOps.assign rfl ?_
    refine SOps.assign rfl ?_
    refine SOps.nil ?_
    refine SCode.seq ?_
    refine SCode.seqR ?_
    refine SOps.move rfl ?_
    refine SOps.un rfl rfl ?_
    refine SOps.nil ?_
    refine SCode.cond rfl (fun _ => ?_) (fun h => by cases h)
    refine SCode.seqR ?_
    refine SOps.assign rfl ?_
    refine SOps.nil ?_
    refine SCode.ret ?_
    exact ⟨_, Res.one (.tmp rfl), congrArg (fun b => DV.v (.bool b)) (by rw [matchesP, hva]; rfl), rfl⟩
  · have hva2 := (Bool.and_eq_true _ _).mp hva
    have hvl := validPat_len hva2.1
    have hil := idxs_len a s
    have hlt := idxs_lt hva2.2
    show SOps _ _ _ ⟨_, (14, .tup [DNats (idxs a s), .v (.bool true)]) :: _, _⟩ _
    refine SOps.move rfl ?_
    refine SOps.extract rfl rfl ?_
    refine SOps.extract rfl rfl ?_
    refine SOps.assign rfl ?_
    refine SOps.assign rfl ?_
    refine SOps.nil ?_
    refine SCode.seq ?_
    refine SCode.seqR ?_
    refine SOps.move rfl ?_
    refine SOps.un rfl rfl ?_
    refine SOps.nil ?_
    refine SCode.cond rfl (fun h => by cases h) (fun _ => ?_)
    refine SCode.skip ?_
    show SCode _ _ _ _
    refine SCode.seqR ?_
    refine SOps.move rfl ?_
    refine SOps.move rfl ?_
    refine SOps.move rfl ?_
    refine SOps.callP (pLengths _ _ _ (by omega) (by omega) (by omega) (by assumption)) rfl ?_
    rintro _ rfl
    refine SOps.assign rfl ?_
    refine SOps.nil ?_
    refine SCode.seqR ?_
    refine SOps.fact (isl_len (t := 9) rfl) (fun hB => ?_)
    simp only [List.length_map, lenB] at hB
    refine SOps.move rfl ?_
    refine SOps.lenM rfl sliceB_39_3_1 ?_
    refine SOps.bin rfl rfl rfl ?_
    refine SOps.move rfl ?_
    refine SOps.caseB 26 rfl (fun hb1 => ?_) (fun hb1 => ?_)
    · try simp only [decide_eq_true_eq, decide_eq_false_iff_not, Bool.not_eq_true', Bool.not_eq_false', beq_iff_eq, bne_iff_ne, ne_eq, beq_eq_false_iff_ne, bne_eq_false_iff_eq, Int.not_lt, Int.not_le, Nat.not_lt, Nat.not_le, Int.ofNat_lt, Int.ofNat_le, Bool.not_eq_eq_eq_not, Bool.not_true, Bool.not_false] at hb1
      refine SOps.move rfl ?_
      refine SOps.move rfl ?_
      refine SOps.lenM rfl sliceB_39_3_1 ?_
      refine SOps.subI rfl rfl (by first | omega | (simp only [lenB]; omega)) (by first | omega | (simp only [lenB]; omega)) ?_
      refine SOps.indexM ((lens (admF a) p (idxs a s)).length - 1) rfl rfl sliceB_39_3_1 (by first | omega | (simp only [lenB]; omega)) (by first | omega | (simp only [lenB]; omega)) ?_
      refine SOps.loadPin rfl flatB_3 ?_
      refine SOps.move rfl ?_
      refine SOps.lenM rfl sliceB_39_3_1 ?_
      refine SOps.bin rfl rfl rfl ?_
      refine SOps.pick rfl rfl ?_
      refine SOps.assign rfl ?_
      refine SOps.nil ?_
      refine SCode.ret ?_
      exact ⟨_, Res.one (.tmp rfl), congrArg (fun b => DV.v (.bool b)) (by rw [matchesP, hva, Bool.true_and, Bool.eq_iff_iff, beq_iff_eq, ← lens_iff (admF a) p _ (by omega)]; exact Int.ofNat_inj), rfl⟩
    · try simp only [decide_eq_true_eq, decide_eq_false_iff_not, Bool.not_eq_true', Bool.not_eq_false', beq_iff_eq, bne_iff_ne, ne_eq, beq_eq_false_iff_ne, bne_eq_false_iff_eq, Int.not_lt, Int.not_le, Nat.not_lt, Nat.not_le, Int.ofNat_lt, Int.ofNat_le, Bool.not_eq_eq_eq_not, Bool.not_true, Bool.not_false] at hb1
      refine SOps.skip rfl ?_
      refine SOps.skip rfl ?_
      refine SOps.skip rfl ?_
      refine SOps.skip rfl ?_
      refine SOps.skip rfl ?_
      refine SOps.skip rfl ?_
      refine SOps.skip rfl ?_
      refine SOps.skip rfl ?_
      refine SOps.skip rfl ?_
      refine SOps.pick rfl rfl ?_
      refine SOps.assign rfl ?_
      refine SOps.nil ?_
      refine SCode.ret ?_
      exact ⟨_, Res.one (.tmp rfl), congrArg (fun b => DV.v (.bool b)) (by rw [matchesP, hva, Bool.true_and]; exact (Bool.eq_false_iff.2 (fun h => by have := lens_pos _ _ _ h; omega)).symm), rfl⟩
theorem pPrefixes0 (hV : VS E) (a : List Letter) (p : List Item) (s : ByteArray) (hp : ∀ x ∈ p, x.lets.size ≤ 1048576) (hs : s.size ≤ 1048576) : GCall Tryd.prog E 30 [DLs a, DIts p, .v (.string s)] [] (fun d H => d = (if (validPat a p && overA a s) then DNats (lens (admF a) p (idxs a s)) else .v (.slice none 0 0)) ∧ H = []) := by
  refine GCall.body (C := ⟨Tryd.prog, E, true⟩) Tryd.func30 rfl (fun _ => rfl) (by kernel_rfl) rfl ?_
  refine SCode.seqR ?_
  refine SOps.assign rfl ?_
  refine SOps.nil ?_
  refine SCode.seqR ?_
  refine SOps.move rfl ?_
  refine SOps.move rfl ?_
  refine SOps.move rfl ?_
  refine SOps.callP (pRead hV a p s hp hs) rfl ?_
  rintro _ rfl
  rcases hva : (validPat a p && overA a s) with _ | _
  · show SOps _ _ _ ⟨_, (13, .tup [.v (.slice none 0 0), .v (.bool false)]) :: _, _⟩ _
    refine SOps.move rfl ?_
    refine SOps.extract rfl rfl ?_
    refine SOps.extract rfl rfl ?_
    refine SOps.assign rfl ?_
    refine SOps.assign rfl ?_
    refine SOps.nil ?_
    refine SCode.seq ?_
    refine SCode.seqR ?_
    refine SOps.move rfl ?_
    refine SOps.un rfl rfl ?_
    refine SOps.nil ?_
    refine SCode.cond rfl (fun _ => ?_) (fun h => by cases h)
    refine SCode.seqR ?_
    refine SOps.assign rfl ?_
    refine SOps.nil ?_
    refine SCode.ret ?_
    exact ⟨_, Res.one (.tmp rfl), by first | rfl | (rw [hva]; rfl), rfl⟩
  · have hva2 := (Bool.and_eq_true _ _).mp hva
    have hvl := validPat_len hva2.1
    have hil := idxs_len a s
    have hlt := idxs_lt hva2.2
    show SOps _ _ _ ⟨_, (13, .tup [DNats (idxs a s), .v (.bool true)]) :: _, _⟩ _
    refine SOps.move rfl ?_
    refine SOps.extract rfl rfl ?_
    refine SOps.extract rfl rfl ?_
    refine SOps.assign rfl ?_
    refine SOps.assign rfl ?_
    refine SOps.nil ?_
    refine SCode.seq ?_
    refine SCode.seqR ?_
    refine SOps.move rfl ?_
    refine SOps.un rfl rfl ?_
    refine SOps.nil ?_
    refine SCode.cond rfl (fun h => by cases h) (fun _ => ?_)
    refine SCode.skip ?_
    show SCode _ _ _ _
    refine SCode.seqR ?_
    refine SOps.move rfl ?_
    refine SOps.move rfl ?_
    refine SOps.move rfl ?_
    refine SOps.callP (pLengths _ _ _ (by omega) (by omega) (by omega) (by assumption)) rfl ?_
    rintro _ rfl
    refine SOps.assign rfl ?_
    refine SOps.nil ?_
    refine SCode.ret ?_
    exact ⟨_, Res.one (.tmp rfl), by first | rfl | (rw [hva]; rfl), rfl⟩
theorem pPrefixes (hV : VS E) (a : List Letter) (p : List Item) (s : ByteArray) (hp : ∀ x ∈ p, x.lets.size ≤ 1048576) (hs : s.size ≤ 1048576) : GCall Tryd.prog E 30 [DLs a, DIts p, .v (.string s)] [] (fun d H => d = DNats (prefixesP a p s) ∧ H = []) :=
  (pPrefixes0 hV a p s hp hs).nilI.mono (fun d H h => ⟨h.1.trans (by unfold prefixesP; split <;> rfl), h.2⟩)
theorem pOverO (hV : VS E) (a : List Letter) (s : ByteArray) (hs : s.size ≤ 1048576) : GCall Tryd.prog E 41 [DMap a, .v (.string s)] [] (fun d H => (overA a s = true → ∃ c, d = .tup [accD 1 c ((idxs a s).map encN), .v (.bool true)] ∧ H = accH 3 1 c ((idxs a s).map encN)) ∧ (overA a s = false → d = .tup [.v (.slice none 0 0), .v (.bool false)] ∧ H = [])) := by
  refine GCall.body (C := ⟨Tryd.prog, E, true⟩) Tryd.func41 rfl (fun _ => rfl) (by kernel_rfl) rfl ?_
  refine SCode.seqR ?_
  refine SOps.assign rfl ?_
  refine SOps.assign rfl ?_
  refine SOps.nil ?_
  refine SCode.seq ?_
  refine SCode.seqR ?_
  refine SOps.move rfl ?_
  refine SOps.callP (hV _) rfl ?_
  rintro _ rfl
  refine SOps.un rfl rfl ?_
  refine SOps.nil ?_
  refine SCode.cond rfl (fun hc1 => ?_) (fun hc1 => ?_)
  · try simp only [decide_eq_true_eq, decide_eq_false_iff_not, Bool.not_eq_true', Bool.not_eq_false', beq_iff_eq, bne_iff_ne, ne_eq, beq_eq_false_iff_ne, bne_eq_false_iff_eq, Int.not_lt, Int.not_le, Nat.not_lt, Nat.not_le, Int.ofNat_lt, Int.ofNat_le, Bool.not_eq_eq_eq_not, Bool.not_true, Bool.not_false] at hc1
    refine SCode.seqR ?_
    refine SOps.assign rfl ?_
    refine SOps.assign rfl ?_
    refine SOps.nil ?_
    refine SCode.ret ?_
    have hov : overA a s = false := Bool.eq_false_iff.2 (fun h => by simp only [overA, Bool.and_eq_true] at h; rw [h.1] at hc1; cases hc1)
    exact ⟨_, Res.two (.tmp rfl) (.tmp rfl), (fun h => by rw [hov] at h; cases h), fun _ => ⟨rfl, rfl⟩⟩
  · try simp only [decide_eq_true_eq, decide_eq_false_iff_not, Bool.not_eq_true', Bool.not_eq_false', beq_iff_eq, bne_iff_ne, ne_eq, beq_eq_false_iff_ne, bne_eq_false_iff_eq, Int.not_lt, Int.not_le, Nat.not_lt, Nat.not_le, Int.ofNat_lt, Int.ofNat_le, Bool.not_eq_eq_eq_not, Bool.not_true, Bool.not_false] at hc1
    refine SCode.skip ?_
    show SCode _ _ _ _
    refine SCode.seqR ?_
    refine SOps.assign rfl ?_
    refine SOps.nil ?_
    refine SCode.seq ?_
    refine SCode.seqR ?_
    refine SOps.move rfl ?_
    refine SOps.rangeStr rfl strB_9 (fun b0 hb_0 => ?_)
    refine SOps.nil ?_
    refine SCode.block ?_
    refine SCode.loop4 (fun (p : Nat) (b : Nat) (l : List Nat) (c : Nat) => (⟨32, [(0, DMap a), (6, accD 1 c (l.map encN)), (15, .it b)], [(b, .iter s p)] ++ (accH 3 1 c (l.map encN) ++ [])⟩ : St)) (fun (p : Nat) (b : Nat) (l : List Nat) (c : Nat) => l.length ≤ p ∧ (runesAt s p).all (fun r => (idx a r).isSome) = (runes s).all (fun r => (idx a r).isSome) ∧ l ++ (runesAt s p).map (fun r => (idx a r).getD 0) = idxs a s) (fun (p : Nat) (b : Nat) (l : List Nat) (c : Nat) => s.size - p) (0) (b0) ([]) (0) (by exact ⟨Nat.le_refl _, rfl, rfl⟩) (St.Le.of ⟨(by first | rfl | (show some _ = some _; simp)), (by first | rfl | (show some _ = some _; simp)), (by first | rfl | (show some _ = some _; simp)), trivial⟩ rfl (by first | rfl | (simp))) ?_
    rintro p b l c ⟨hln, ho, hl⟩
    refine SCode.seqR ?_
    refine SOps.next 0 rfl rfl (fun hn2 => ?_) (fun hn2 => ?_) (by first | omega | (simp only [lenB]; omega))
    · refine SOps.extract rfl rfl ?_
      refine SOps.nil ?_
      refine SCode.seq ?_
      refine SCode.cond rfl (fun _ => ?_) (fun h => by cases h)
      refine SCode.skip ?_
      show SCode _ _ _ _
      refine SCode.block ?_
      refine SCode.seqR ?_
      refine SOps.extract rfl rfl ?_
      refine SOps.assign rfl ?_
      refine SOps.nil ?_
      refine SCode.seqR ?_
      refine SOps.move rfl ?_
      refine SOps.move rfl ?_
      refine SOps.lookupIM (idx a ((Utf8.decode s p).1 : Int)) (fun i => DV.v (.int .i64 ((i : Nat) : Int))) rfl rfl mapB_71 (keys_enc _) zeroIs_3 (lookup_mapOf _ _) (fun y3 hy3 => ?_) (fun hy3 => ?_)
      · refine SOps.move rfl ?_
        refine SOps.extract rfl rfl ?_
        refine SOps.extract rfl rfl ?_
        refine SOps.assign rfl ?_
        refine SOps.assign rfl ?_
        refine SOps.nil ?_
        refine SCode.seq ?_
        refine SCode.seqR ?_
        refine SOps.move rfl ?_
        refine SOps.un rfl rfl ?_
        refine SOps.nil ?_
        refine SCode.cond rfl (fun h => by cases h) (fun _ => ?_)
        refine SCode.skip ?_
        show SCode _ _ _ _
        refine SCode.region ?_
        refine SOps.move rfl ?_
        refine SOps.move rfl ?_
        refine SOps.litF rfl sliceB_39_3_1 zeroIs_3 rfl ?_
        refine SOps.appendAcc [_] [] sliceB_39_3_1 elemB_3_1_8 rfl rfl rfl SrcD.isl (by simp) (by first | (simp [lenB] <;> (first | omega | (simp only [lenB]; omega))) | (simp only [lenB]; (first | omega | (simp only [lenB]; omega)))) (by first | (simp <;> (first | omega | (simp only [lenB]; omega))) | (first | omega | (simp only [lenB]; omega))) (fun b1 => ?_)
        refine SOps.assign rfl ?_
        refine SOps.nil ?_
        exact ⟨p + (Utf8.decode s p).2, b, l ++ [y3], b1, ⟨by have := decode_w s p; simp; omega, by rw [← ho, runes_step hn2, hy3]; rfl, by rw [← hl, runesAt_lt hn2]; simp [hy3]⟩, by have := decode_w s p; omega, St.Le.of ⟨rfl, (by show some _ = some _; rw [List.map_append]; rfl), rfl, trivial⟩ rfl (by rw [List.map_append]; rfl)⟩
      · refine SOps.move rfl ?_
        refine SOps.extract rfl rfl ?_
        refine SOps.extract rfl rfl ?_
        refine SOps.assign rfl ?_
        refine SOps.assign rfl ?_
        refine SOps.nil ?_
        refine SCode.seq ?_
        refine SCode.seqR ?_
        refine SOps.move rfl ?_
        refine SOps.un rfl rfl ?_
        refine SOps.nil ?_
        refine SCode.cond rfl (fun _ => ?_) (fun h => by cases h)
        refine SCode.seqR ?_
        refine SOps.assign rfl ?_
        refine SOps.assign rfl ?_
        refine SOps.nil ?_
        refine SCode.drop ?_
        refine SCode.ret ?_
        have hov : overA a s = false := Bool.eq_false_iff.2 (fun h => by simp only [overA, Bool.and_eq_true] at h; rw [← ho, runes_step hn2, hy3] at h; simp at h)
        exact ⟨_, Res.two (.tmp rfl) (.tmp rfl), (fun h => by rw [hov] at h; cases h), fun _ => ⟨rfl, rfl⟩⟩
    · refine SOps.extract rfl rfl ?_
      refine SOps.nil ?_
      refine SCode.seq ?_
      refine SCode.cond rfl (fun h => by cases h) (fun _ => ?_)
      refine SCode.exit ?_
      show SCode _ _ _ _
      refine SCode.seqR ?_
      refine SOps.move rfl ?_
      refine SOps.assign rfl ?_
      refine SOps.assign rfl ?_
      refine SOps.nil ?_
      have hov : overA a s = true := by rw [overA, hc1, ← ho, runesAt_ge hn2]; rfl
      obtain rfl : l = idxs a s := by rw [← hl, runesAt_ge hn2]; simp
      refine SCode.weaken (st' := (⟨32, [(4, accD 1 c ((idxs a s).map encN)), (5, .v (.bool true))], accH 3 1 c ((idxs a s).map encN)⟩ : St)) (St.Le.ofSub ⟨rfl, rfl, trivial⟩ (.cons _ (by rw [List.append_nil]; exact .refl _))) (SCode.ret ⟨_, Res.two (.tmp rfl) (.tmp rfl), (fun _ => ⟨c, rfl, rfl⟩), fun h => by rw [hov] at h; cases h⟩)
theorem pReadO (hV : VS E) (a : List Letter) (p : List Item) (s : ByteArray) (hp : ∀ x ∈ p, x.lets.size ≤ 1048576) (hs : s.size ≤ 1048576) : GCall Tryd.prog E 44 [DLs a, DIts p, .v (.string s)] [] (fun d H => ((validPat a p && overA a s) = true → ∃ c, d = .tup [accD 1 c ((idxs a s).map encN), .v (.bool true)] ∧ H = accH 3 1 c ((idxs a s).map encN)) ∧ ((validPat a p && overA a s) = false → d = .tup [.v (.slice none 0 0), .v (.bool false)] ∧ H = [])) := by
  refine GCall.body (C := ⟨Tryd.prog, E, true⟩) Tryd.func44 rfl (fun _ => rfl) (by kernel_rfl) rfl ?_
  refine SCode.seqR ?_
  refine SOps.assign rfl ?_
  refine SOps.assign rfl ?_
  refine SOps.nil ?_
  refine SCode.seq ?_
  refine SCode.seqR ?_
  refine SOps.move rfl ?_
  refine SOps.move rfl ?_
  refine SOps.callP (pValid hV _ _ (by assumption)) rfl ?_
  rintro _ rfl
  refine SOps.un rfl rfl ?_
  refine SOps.nil ?_
  refine SCode.cond rfl (fun hc1 => ?_) (fun hc1 => ?_)
  · try simp only [decide_eq_true_eq, decide_eq_false_iff_not, Bool.not_eq_true', Bool.not_eq_false', beq_iff_eq, bne_iff_ne, ne_eq, beq_eq_false_iff_ne, bne_eq_false_iff_eq, Int.not_lt, Int.not_le, Nat.not_lt, Nat.not_le, Int.ofNat_lt, Int.ofNat_le, Bool.not_eq_eq_eq_not, Bool.not_true, Bool.not_false] at hc1
    have hvp : validPat a p = false := hc1
    refine SCode.seqR ?_
    refine SOps.assign rfl ?_
    refine SOps.assign rfl ?_
    refine SOps.nil ?_
    refine SCode.ret ?_
    exact ⟨_, Res.two (.tmp rfl) (.tmp rfl), (fun h => by simp_all), fun _ => ⟨rfl, rfl⟩⟩
  · try simp only [decide_eq_true_eq, decide_eq_false_iff_not, Bool.not_eq_true', Bool.not_eq_false', beq_iff_eq, bne_iff_ne, ne_eq, beq_eq_false_iff_ne, bne_eq_false_iff_eq, Int.not_lt, Int.not_le, Nat.not_lt, Nat.not_le, Int.ofNat_lt, Int.ofNat_le, Bool.not_eq_eq_eq_not, Bool.not_true, Bool.not_false] at hc1
    have hvp : validPat a p = true := hc1
    have hpr : properB a = true := by simp only [validPat, Bool.and_eq_true] at hvp; exact hvp.1.1.1
    refine SCode.skip ?_
    show SCode _ _ _ _
    refine SCode.seqR ?_
    refine SOps.move rfl ?_
    refine SOps.callP (pProper _) rfl ?_
    rintro _ rfl; rw [if_pos hpr]
    refine SOps.move rfl ?_
    refine SOps.extract rfl rfl ?_
    refine SOps.extract rfl rfl ?_
    refine SOps.assign rfl ?_
    refine SOps.assign rfl ?_
    refine SOps.nil ?_
    refine SCode.seqR ?_
    refine SOps.move rfl ?_
    refine SOps.move rfl ?_
    rcases hov : overA a s with _ | _
    · refine SOps.callH [] [] [] (pOverO hV a s hs) rfl rfl (fun d H hR => ?_)
      obtain ⟨rfl, rfl⟩ := hR.2 hov
      refine SOps.extract rfl rfl ?_
      refine SOps.extract rfl rfl ?_
      refine SOps.assign rfl ?_
      refine SOps.assign rfl ?_
      refine SOps.nil ?_
      refine SCode.ret ?_
      exact ⟨_, Res.two (.tmp rfl) (.tmp rfl), (fun h => by simp_all), fun _ => ⟨rfl, rfl⟩⟩
    · refine SOps.callH [] [] [] (pOverO hV a s hs) rfl rfl (fun d H hR => ?_)
      obtain ⟨c, rfl, rfl⟩ := hR.1 hov
      refine SOps.extract rfl rfl ?_
      refine SOps.extract rfl rfl ?_
      refine SOps.assign rfl ?_
      refine SOps.assign rfl ?_
      refine SOps.nil ?_
      refine SCode.weaken (st' := (⟨24, [(6, accD 1 c ((idxs a s).map encN)), (7, .v (.bool true))], accH 3 1 c ((idxs a s).map encN)⟩ : St)) (St.Le.ofSub ⟨rfl, rfl, trivial⟩ (show List.Sublist (accH 3 1 c _) (accH 3 1 c _ ++ []) from by rw [List.append_nil]; exact .refl _)) (SCode.ret ⟨_, Res.two (.tmp rfl) (.tmp rfl), (fun _ => ⟨c, rfl, rfl⟩), fun h => by simp_all⟩)
theorem sClone0 (p : List Item) (hp0 : p = []) (hpl : p.length ≤ 1048576) : GCall Tryd.prog E 52 [DIts p] [] (fun d H => d = .isl false 4 [] ∧ H = []) := by
  refine GCall.body (C := ⟨Tryd.prog, E, true⟩) Tryd.func52 rfl (fun _ => rfl) (by kernel_rfl) rfl ?_
  refine SCode.seqR ?_
  refine SOps.assign rfl ?_
  refine SOps.nil ?_
  refine SCode.seq ?_
  refine SCode.seqR ?_
  refine SOps.move rfl ?_
  refine SOps.eqNilS Tryd.underlying23 rfl rfl (fun c0 hz0 => ?_)
  refine SOps.nil ?_
  refine SCode.cond rfl (fun hc1 => ?_) (fun hc1 => ?_)
  · try simp only [decide_eq_true_eq, decide_eq_false_iff_not, Bool.not_eq_true', Bool.not_eq_false', beq_iff_eq, bne_iff_ne, ne_eq, beq_eq_false_iff_ne, bne_eq_false_iff_eq, Int.not_lt, Int.not_le, Nat.not_lt, Nat.not_le, Int.ofNat_lt, Int.ofNat_le, Bool.not_eq_eq_eq_not, Bool.not_true, Bool.not_false] at hc1
    refine SCode.seqR ?_
    refine SOps.assign rfl ?_
    refine SOps.nil ?_
    refine SCode.nilIsl (t := 2) (sz := 4) rfl ?_
    refine SCode.ret ?_
    exact ⟨_, Res.one (.tmp rfl), rfl, rfl⟩
  · try simp only [decide_eq_true_eq, decide_eq_false_iff_not, Bool.not_eq_true', Bool.not_eq_false', beq_iff_eq, bne_iff_ne, ne_eq, beq_eq_false_iff_ne, bne_eq_false_iff_eq, Int.not_lt, Int.not_le, Nat.not_lt, Nat.not_le, Int.ofNat_lt, Int.ofNat_le, Bool.not_eq_eq_eq_not, Bool.not_true, Bool.not_false] at hc1
    refine SCode.skip ?_
    show SCode _ _ _ _
    refine SCode.seqR ?_
    refine SOps.litO sliceB_23_56_4 zeroIs_56 rfl (fun b1 hb_1 => ?_)
    refine SOps.move rfl ?_
    refine SOps.appendOwnE 0 sliceB_23_56_4 elemB_56_4_32 rfl rfl rfl (by simp) SrcD.isl (by simp [lenB]; omega) (by simp; omega) (fun bC => ?_)
    refine SOps.assign rfl ?_
    refine SOps.nil ?_
    refine SCode.slIsl (t := 2) rfl (by rw [hp0]; rfl) ?_
    refine SCode.drop ?_
    refine SCode.ret ?_
    exact ⟨_, Res.one (.tmp rfl), rfl, rfl⟩
theorem sCloneC (p : List Item) (hp0 : p ≠ []) (hpl : p.length ≤ 1048576) : GCall Tryd.prog E 52 [DIts p] [] (fun d H => ∃ b, d = .sl b 4 0 p.length ∧ H = [(b, .row 56 4 (p.map encIt))]) := by
  refine GCall.body (C := ⟨Tryd.prog, E, true⟩) Tryd.func52 rfl (fun _ => rfl) (by kernel_rfl) rfl ?_
  refine SCode.seqR ?_
  refine SOps.assign rfl ?_
  refine SOps.nil ?_
  refine SCode.seq ?_
  refine SCode.seqR ?_
  refine SOps.move rfl ?_
  refine SOps.eqNilS Tryd.underlying23 rfl rfl (fun c0 hz0 => ?_)
  refine SOps.nil ?_
  refine SCode.cond rfl (fun hc1 => ?_) (fun hc1 => ?_)
  · try simp only [decide_eq_true_eq, decide_eq_false_iff_not, Bool.not_eq_true', Bool.not_eq_false', beq_iff_eq, bne_iff_ne, ne_eq, beq_eq_false_iff_ne, bne_eq_false_iff_eq, Int.not_lt, Int.not_le, Nat.not_lt, Nat.not_le, Int.ofNat_lt, Int.ofNat_le, Bool.not_eq_eq_eq_not, Bool.not_true, Bool.not_false] at hc1
    exact absurd (List.map_eq_nil_iff.1 (hz0 hc1)) hp0
  · try simp only [decide_eq_true_eq, decide_eq_false_iff_not, Bool.not_eq_true', Bool.not_eq_false', beq_iff_eq, bne_iff_ne, ne_eq, beq_eq_false_iff_ne, bne_eq_false_iff_eq, Int.not_lt, Int.not_le, Nat.not_lt, Nat.not_le, Int.ofNat_lt, Int.ofNat_le, Bool.not_eq_eq_eq_not, Bool.not_true, Bool.not_false] at hc1
    refine SCode.skip ?_
    show SCode _ _ _ _
    refine SCode.seqR ?_
    refine SOps.litO sliceB_23_56_4 zeroIs_56 rfl (fun b1 hb_1 => ?_)
    refine SOps.move rfl ?_
    refine SOps.appendOwnE 0 sliceB_23_56_4 elemB_56_4_32 rfl rfl rfl (by simp) SrcD.isl (by simp [lenB]; omega) (by simp; omega) (fun bC => ?_)
    refine SOps.assign rfl ?_
    refine SOps.nil ?_
    refine SCode.ret ?_
    exact ⟨_, Res.one (.tmp rfl), bC, by simp, rfl⟩
theorem rev_step {α : Type} {xs ys : List α} {i : Nat} (hi : i < xs.length - 1 - i) (hl : ys.length = xs.length)
    (hf : ∀ (k : Nat) (h : k < xs.length), ys[k]? = some (if k < i ∨ xs.length - 1 - k < i then xs[xs.length - 1 - k]'(by omega) else xs[k])) :
    ∀ (k : Nat) (h : k < xs.length), ((ys.set i (ys[xs.length - 1 - i]'(by omega))).set (xs.length - 1 - i) (ys[i]'(by omega)))[k]? = some (if k < i + 1 ∨ xs.length - 1 - k < i + 1 then xs[xs.length - 1 - k]'(by omega) else xs[k]) := by
  intro k hk
  have ej : ys[xs.length - 1 - i]'(by omega) = xs[xs.length - 1 - i]'(by omega) := by
    have := hf (xs.length - 1 - i) (by omega)
    rw [if_neg (by omega), List.getElem?_eq_getElem (by omega)] at this
    exact Option.some.inj this
  have ei : ys[i]'(by omega) = xs[i]'(by omega) := by
    have := hf i (by omega)
    rw [if_neg (by omega), List.getElem?_eq_getElem (by omega)] at this
    exact Option.some.inj this
  rw [ej, ei, List.getElem?_set, List.getElem?_set]
  by_cases h1 : xs.length - 1 - i = k
  · subst h1
    rw [if_pos rfl, if_pos (by simp; omega), if_pos (by omega)]
    congr 2
    omega
  · rw [if_neg h1]
    by_cases h2 : i = k
    · subst h2
      rw [if_pos rfl, if_pos (by omega), if_pos (by omega)]
    · rw [if_neg h2, hf k hk]
      congr 1
      by_cases h3 : k < i ∨ xs.length - 1 - k < i
      · rw [if_pos h3, if_pos (by omega)]
      · rw [if_neg h3, if_neg (by omega)]
theorem rev_end {α : Type} {xs ys : List α} {i : Nat} (hi : xs.length ≤ 2 * i + 1) (hi2 : 2 * i ≤ xs.length + 1) (hl : ys.length = xs.length)
    (hf : ∀ (k : Nat) (h : k < xs.length), ys[k]? = some (if k < i ∨ xs.length - 1 - k < i then xs[xs.length - 1 - k]'(by omega) else xs[k])) : ys = xs.reverse := by
  apply List.ext_getElem?
  intro k
  by_cases hk : k < xs.length
  · rw [hf k hk, List.getElem?_reverse hk, List.getElem?_eq_getElem (by omega)]
    by_cases h : k < i ∨ xs.length - 1 - k < i
    · rw [if_pos h]
    · rw [if_neg h]
      congr 2
      omega
  · rw [List.getElem?_eq_none (by omega), List.getElem?_eq_none (by simp; omega)]
theorem sRevNC (xs : List Nat) (bk : Nat) (hx : xs.length ≤ 1048576) : GCall Tryd.prog E 54 [.sl bk 1 0 xs.length] [(bk, .row 3 1 (xs.map encN))] (fun d H => d = .v (.tuple #[]) ∧ H = [(bk, .row 3 1 (xs.reverse.map encN))]) := by
  refine GCall.body (C := ⟨Tryd.prog, E, false⟩) Tryd.func54 rfl (fun h => by cases h) (by kernel_rfl) rfl ?_
  refine SCode.seqR ?_
  refine SOps.move rfl ?_
  refine SOps.lenSl rfl sliceB_39_3_1 ?_
  refine SOps.subI rfl rfl (by first | omega | (simp only [lenB]; omega)) (by first | omega | (simp only [lenB]; omega)) ?_
  refine SOps.assign rfl ?_
  refine SOps.assign rfl ?_
  refine SOps.nil ?_
  refine SCode.block ?_
  refine SCode.loop2 (fun (i : Nat) (ys : List Nat) => (⟨28, [(0, .sl bk 1 0 xs.length), (2, .v (.int .i64 (i : Int))), (3, .v (.int .i64 ((xs.length : Int) - 1 - (i : Int))))], [(bk, .row 3 1 (ys.map encN))]⟩ : St)) (fun (i : Nat) (ys : List Nat) => 2 * i ≤ xs.length + 1 ∧ ys.length = xs.length ∧ ∀ (k : Nat) (h : k < xs.length), ys[k]? = some (if k < i ∨ xs.length - 1 - k < i then xs[xs.length - 1 - k]'(by omega) else xs[k])) (fun (i : Nat) (ys : List Nat) => xs.length - i) (0) (xs) (by exact ⟨by omega, rfl, fun k h => by rw [if_neg (by omega)]; exact List.getElem?_eq_getElem h⟩) (St.Le.of ⟨(by first | rfl | (show some _ = some _; simp)), (by first | rfl | (show some _ = some _; simp)), (by first | rfl | (show some _ = some _; simp)), trivial⟩ rfl (by first | rfl | (simp))) ?_
  rintro i ys ⟨hi, hyl, hf⟩
  refine SCode.seq ?_
  refine SCode.seqR ?_
  refine SOps.move rfl ?_
  refine SOps.move rfl ?_
  refine SOps.bin rfl rfl rfl ?_
  refine SOps.nil ?_
  refine SCode.cond rfl (fun hc1 => ?_) (fun hc1 => ?_)
  · try simp only [decide_eq_true_eq, decide_eq_false_iff_not, Bool.not_eq_true', Bool.not_eq_false', beq_iff_eq, bne_iff_ne, ne_eq, beq_eq_false_iff_ne, bne_eq_false_iff_eq, Int.not_lt, Int.not_le, Nat.not_lt, Nat.not_le, Int.ofNat_lt, Int.ofNat_le, Bool.not_eq_eq_eq_not, Bool.not_true, Bool.not_false] at hc1
    refine SCode.skip ?_
    show SCode _ _ _ _
    refine SCode.seq ?_
    refine SCode.block ?_
    have hi3 : i < xs.length - 1 - i := by omega
    have hjl : xs.length - 1 - i < ys.length := by omega
    have hil : i < ys.length := by omega
    refine SCode.weaken (st' := (⟨28, [(0, .sl bk 1 0 xs.length), (2, .v (.int .i64 (i : Int))), (3, .v (.int .i64 ((xs.length : Int) - 1 - (i : Int))))], [(bk, .row 3 1 (ys.map encN))]⟩ : St)) (St.Le.of ⟨rfl, rfl, rfl, trivial⟩) ?_
    refine SCode.drawMix 17 [12, 13, 14, 15] mixed_ [fun b => some (14, .sl bk 1 0 xs.length), fun b => some (15, .v (.int .i64 (i : Int))), fun b => some (16, .sl bk 1 0 xs.length), fun b => some (17, .v (.int .i64 ((xs.length : Int) - 1 - (i : Int)))), fun b => some (18, .sl bk 1 0 xs.length), fun b => some (19, .v (.int .i64 ((xs.length : Int) - 1 - (i : Int)))), fun b => some (20, .ref bk ((0 + (xs.length - 1 - i)) * 1)), fun b => some (21, .v (.int .i64 (((ys[xs.length - 1 - i]) : Nat) : Int))), fun b => some (22, .sl bk 1 0 xs.length), fun b => some (23, .v (.int .i64 (i : Int))), fun b => some (24, .ref bk ((0 + i) * 1)), fun b => some (25, .v (.int .i64 (((ys[i]) : Nat) : Int))), fun b => some (26, .ref bk ((0 + i) * 1)), fun b => none, fun b => some (27, .ref bk ((0 + (xs.length - 1 - i)) * 1)), fun b => none] [some 14, some 15, some 16, some 17, some 18, some 19, some 20, some 21, some 22, some 23, some 24, some 25, some 26, none, some 27, none] [[.inr 0], [.inr 2], [.inr 0], [.inr 3], [.inr 0], [.inr 3], [.inl 4, .inl 5], [.inl 6], [.inr 0], [.inr 2], [.inl 8, .inl 9], [.inl 10], [.inl 0, .inl 1], [.inl 12, .inl 7], [.inl 2, .inl 3], [.inl 14, .inl 11]] [fun b => [(0, .sl bk 1 0 xs.length)], fun b => [(2, .v (.int .i64 (i : Int)))], fun b => [(0, .sl bk 1 0 xs.length)], fun b => [(3, .v (.int .i64 ((xs.length : Int) - 1 - (i : Int))))], fun b => [(0, .sl bk 1 0 xs.length)], fun b => [(3, .v (.int .i64 ((xs.length : Int) - 1 - (i : Int))))], fun b => [(18, .sl bk 1 0 xs.length), (19, .v (.int .i64 ((xs.length : Int) - 1 - (i : Int))))], fun b => [(20, .ref bk ((0 + (xs.length - 1 - i)) * 1))], fun b => [(0, .sl bk 1 0 xs.length)], fun b => [(2, .v (.int .i64 (i : Int)))], fun b => [(22, .sl bk 1 0 xs.length), (23, .v (.int .i64 (i : Int)))], fun b => [(24, .ref bk ((0 + i) * 1))], fun b => [(14, .sl bk 1 0 xs.length), (15, .v (.int .i64 (i : Int)))], fun b => [(26, .ref bk ((0 + i) * 1)), (21, .v (.int .i64 (((ys[xs.length - 1 - i]) : Nat) : Int)))], fun b => [(16, .sl bk 1 0 xs.length), (17, .v (.int .i64 ((xs.length : Int) - 1 - (i : Int))))], fun b => [(27, .ref bk ((0 + (xs.length - 1 - i)) * 1)), (25, .v (.int .i64 (((ys[i]) : Nat) : Int)))]] (fun b c => match c with | 0 => [(bk, .row 3 1 (ys.map encN))] | 1 => [(bk, .row 3 1 (ys.map encN))] | 2 => [(bk, .row 3 1 ((ys.set i (ys[xs.length - 1 - i])).map encN))] | 3 => [(bk, .row 3 1 ((ys.set i (ys[xs.length - 1 - i])).map encN))] | _ => [(bk, .row 3 1 (((ys.set i (ys[xs.length - 1 - i])).set (xs.length - 1 - i) (ys[i])).map encN))]) [(false, false, [0]), (false, false, [0]), (false, false, [0, 1, 2]), (false, false, [0, 1, 2]), (false, false, [0]), (false, false, [0]), (false, false, [0]), (false, false, [0]), (false, false, [0]), (false, false, [0]), (false, false, [0]), (false, false, [0]), (true, false, [0]), (true, false, [1]), (true, false, [2]), (true, false, [3])] (by kernel_rfl) (fun _ => rfl) rfl (fun _ => rfl) (fun _ => rfl) (cohNone rfl) ?_ ?_
    · refine MixOk.cons ?_ ?_
      · refine StgOk.cons (fun b rest => ?_) ?_
        · refine SOps.move rfl ?_
          exact SOps.nil ⟨b, fun _ => rfl, by first | rfl | simp_all⟩
        exact StgOk.nil
      refine MixOk.cons ?_ ?_
      · refine StgOk.cons (fun b rest => ?_) ?_
        · refine SOps.move rfl ?_
          exact SOps.nil ⟨b, fun _ => rfl, by first | rfl | simp_all⟩
        exact StgOk.nil
      refine MixOk.cons ?_ ?_
      · refine StgOk.cons (fun b rest => ?_) ?_
        · refine SOps.move rfl ?_
          exact SOps.nil ⟨b, fun _ => rfl, by first | rfl | simp_all⟩
        refine StgOk.cons (fun b rest => ?_) ?_
        · refine SOps.move rfl ?_
          exact SOps.nil ⟨b, fun _ => rfl, by first | rfl | simp_all⟩
        refine StgOk.cons (fun b rest => ?_) ?_
        · refine SOps.move rfl ?_
          exact SOps.nil ⟨b, fun _ => rfl, by first | rfl | simp_all⟩
        exact StgOk.nil
      refine MixOk.cons ?_ ?_
      · refine StgOk.cons (fun b rest => ?_) ?_
        · refine SOps.move rfl ?_
          exact SOps.nil ⟨b, fun _ => rfl, by first | rfl | simp_all⟩
        refine StgOk.cons (fun b rest => ?_) ?_
        · refine SOps.move rfl ?_
          exact SOps.nil ⟨b, fun _ => rfl, by first | rfl | simp_all⟩
        refine StgOk.cons (fun b rest => ?_) ?_
        · refine SOps.move rfl ?_
          exact SOps.nil ⟨b, fun _ => rfl, by first | rfl | simp_all⟩
        exact StgOk.nil
      refine MixOk.cons ?_ ?_
      · refine StgOk.cons (fun b rest => ?_) ?_
        · refine SOps.move rfl ?_
          exact SOps.nil ⟨b, fun _ => rfl, by first | rfl | simp_all⟩
        exact StgOk.nil
      refine MixOk.cons ?_ ?_
      · refine StgOk.cons (fun b rest => ?_) ?_
        · refine SOps.move rfl ?_
          exact SOps.nil ⟨b, fun _ => rfl, by first | rfl | simp_all⟩
        exact StgOk.nil
      refine MixOk.cons ?_ ?_
      · refine StgOk.cons (fun b rest => ?_) ?_
        · refine SOps.indexS ((xs.length - 1 - i)) rfl rfl sliceB_39_3_1 (by first | omega | (simp only [lenB]; omega)) (by first | omega | (simp only [lenB]; omega)) ?_
          exact SOps.nil ⟨b, fun _ => rfl, by first | rfl | simp_all⟩
        exact StgOk.nil
      refine MixOk.cons ?_ ?_
      · refine StgOk.cons (fun b rest => ?_) ?_
        · refine SOps.loadK 0 ((xs.length - 1 - i)) rfl flatB_3 rfl (by first | omega | (simp only [lenB]; omega)) (by first | omega | (simp; omega)) rfl ?_
          exact SOps.nil ⟨b, fun _ => rfl, by first | rfl | simp_all⟩
        exact StgOk.nil
      refine MixOk.cons ?_ ?_
      · refine StgOk.cons (fun b rest => ?_) ?_
        · refine SOps.move rfl ?_
          exact SOps.nil ⟨b, fun _ => rfl, by first | rfl | simp_all⟩
        exact StgOk.nil
      refine MixOk.cons ?_ ?_
      · refine StgOk.cons (fun b rest => ?_) ?_
        · refine SOps.move rfl ?_
          exact SOps.nil ⟨b, fun _ => rfl, by first | rfl | simp_all⟩
        exact StgOk.nil
      refine MixOk.cons ?_ ?_
      · refine StgOk.cons (fun b rest => ?_) ?_
        · refine SOps.indexS (i) rfl rfl sliceB_39_3_1 (by first | omega | (simp only [lenB]; omega)) (by first | omega | (simp only [lenB]; omega)) ?_
          exact SOps.nil ⟨b, fun _ => rfl, by first | rfl | simp_all⟩
        exact StgOk.nil
      refine MixOk.cons ?_ ?_
      · refine StgOk.cons (fun b rest => ?_) ?_
        · refine SOps.loadK 0 (i) rfl flatB_3 rfl (by first | omega | (simp only [lenB]; omega)) (by first | omega | (simp; omega)) rfl ?_
          exact SOps.nil ⟨b, fun _ => rfl, by first | rfl | simp_all⟩
        exact StgOk.nil
      refine MixOk.cons ?_ ?_
      · refine StgOk.cons (fun b rest => ?_) ?_
        · refine SOps.indexS (i) rfl rfl sliceB_39_3_1 (by first | omega | (simp only [lenB]; omega)) (by first | omega | (simp only [lenB]; omega)) ?_
          exact SOps.nil ⟨b, fun _ => rfl, by first | rfl | simp_all⟩
        exact StgOk.nil
      refine MixOk.cons ?_ ?_
      · refine StgOk.cons (fun b rest => ?_) ?_
        · refine SOps.storeK 0 (i) rfl rfl oneB_3 rfl (by first | omega | (simp only [lenB]; omega)) (by first | omega | (simp; omega)) rfl (fun _ => rfl) ?_
          exact SOps.nil ⟨b, fun _ => rfl, by first | rfl | simp_all⟩
        exact StgOk.nil
      refine MixOk.cons ?_ ?_
      · refine StgOk.cons (fun b rest => ?_) ?_
        · refine SOps.indexS ((xs.length - 1 - i)) rfl rfl sliceB_39_3_1 (by first | omega | (simp only [lenB]; omega)) (by first | omega | (simp only [lenB]; omega)) ?_
          exact SOps.nil ⟨b, fun _ => rfl, by first | rfl | simp_all⟩
        exact StgOk.nil
      refine MixOk.cons ?_ ?_
      · refine StgOk.cons (fun b rest => ?_) ?_
        · refine SOps.storeK 0 ((xs.length - 1 - i)) rfl rfl oneB_3 rfl (by first | omega | (simp only [lenB]; omega)) (by first | omega | (simp; omega)) rfl (fun _ => rfl) ?_
          exact SOps.nil ⟨b, fun _ => rfl, by first | rfl | simp_all⟩
        exact StgOk.nil
      exact MixOk.nil
    · intro bM
      show SCode _ _ _ _
      refine SCode.region ?_
      refine SOps.move rfl ?_
      refine SOps.addI rfl rfl (by first | omega | (simp only [lenB]; omega)) (by first | omega | (simp only [lenB]; omega)) ?_
      refine SOps.move rfl ?_
      refine SOps.subI rfl rfl (by first | omega | (simp only [lenB]; omega)) (by first | omega | (simp only [lenB]; omega)) ?_
      refine SOps.assign rfl ?_
      refine SOps.assign rfl ?_
      refine SOps.nil ?_
      exact ⟨i + 1, ((ys.set i (ys[xs.length - 1 - i])).set (xs.length - 1 - i) (ys[i])), ⟨by omega, by simp [hyl], rev_step (by omega) hyl hf⟩, by omega, St.Le.of ⟨rfl, rfl, (by show some _ = some _; congr 3; omega), trivial⟩⟩
  · try simp only [decide_eq_true_eq, decide_eq_false_iff_not, Bool.not_eq_true', Bool.not_eq_false', beq_iff_eq, bne_iff_ne, ne_eq, beq_eq_false_iff_ne, bne_eq_false_iff_eq, Int.not_lt, Int.not_le, Nat.not_lt, Nat.not_le, Int.ofNat_lt, Int.ofNat_le, Bool.not_eq_eq_eq_not, Bool.not_true, Bool.not_false] at hc1
    refine SCode.exit ?_
    obtain rfl := rev_end (by omega) hi hyl hf
    exact ⟨_, Res.none, rfl, rfl⟩
theorem sRevN0   : GCall Tryd.prog E 54 [DNats []] [] (fun d H => d = .v (.tuple #[]) ∧ H = []) := by
  refine GCall.body (C := ⟨Tryd.prog, E, true⟩) Tryd.func54 rfl (fun _ => rfl) (by kernel_rfl) rfl ?_
  refine SCode.seqR ?_
  refine SOps.move rfl ?_
  refine SOps.lenM rfl sliceB_39_3_1 ?_
  refine SOps.subI rfl rfl (by first | omega | (simp; done) | decide) (by first | omega | (simp; done) | decide) ?_
  refine SOps.assign rfl ?_
  refine SOps.assign rfl ?_
  refine SOps.nil ?_
  refine SCode.block ?_
  refine SCode.loop1 (fun (i : Nat) => (⟨28, [(0, DNats []), (2, .v (.int .i64 0)), (3, .v (.int .i64 (((([] : List Nat).length : Nat) : Int) - 1)))], []⟩ : St)) (fun (i : Nat) => True) (fun (i : Nat) => 0) (0) (by trivial) (St.Le.of ⟨(by first | rfl | (show some _ = some _; simp)), (by first | rfl | (show some _ = some _; simp)), (by first | rfl | (show some _ = some _; simp)), trivial⟩ rfl (by first | rfl | (simp))) ?_
  rintro i -
  refine SCode.seq ?_
  refine SCode.seqR ?_
  refine SOps.move rfl ?_
  refine SOps.move rfl ?_
  refine SOps.bin rfl rfl rfl ?_
  refine SOps.nil ?_
  refine SCode.cond rfl (fun hc1 => ?_) (fun hc1 => ?_)
  · try simp only [decide_eq_true_eq, decide_eq_false_iff_not, Bool.not_eq_true', Bool.not_eq_false', beq_iff_eq, bne_iff_ne, ne_eq, beq_eq_false_iff_ne, bne_eq_false_iff_eq, Int.not_lt, Int.not_le, Nat.not_lt, Nat.not_le, Int.ofNat_lt, Int.ofNat_le, Bool.not_eq_eq_eq_not, Bool.not_true, Bool.not_false] at hc1
    exact absurd hc1 (by decide)
  · try simp only [decide_eq_true_eq, decide_eq_false_iff_not, Bool.not_eq_true', Bool.not_eq_false', beq_iff_eq, bne_iff_ne, ne_eq, beq_eq_false_iff_ne, bne_eq_false_iff_eq, Int.not_lt, Int.not_le, Nat.not_lt, Nat.not_le, Int.ofNat_lt, Int.ofNat_le, Bool.not_eq_eq_eq_not, Bool.not_true, Bool.not_false] at hc1
    refine SCode.exit ?_
    exact ⟨_, Res.none, rfl, rfl⟩
theorem sRevN (xs : List Nat) (b : Nat) (hx : xs.length ≤ 1048576) : GCall Tryd.prog E 54 [accI 1 b (xs.map encN)] (accH 3 1 b (xs.map encN)) (fun d H => d = .v (.tuple #[]) ∧ H = accH 3 1 b (xs.reverse.map encN)) := by
  cases xs with
  | nil => exact sRevN0
  | cons x xs =>
    have e : accI 1 b ((x :: xs).map encN) = .sl b 1 0 (x :: xs).length := by simp [accI]
    rw [e]
    refine GCall.mono (sRevNC (E := E) (x :: xs) b hx) (fun d H h => ⟨h.1, h.2.trans ?_⟩)
    cases hr : (x :: xs).reverse with
    | nil => simp at hr
    | cons y ys => rfl
theorem sRevTC (xs : List Item) (bk : Nat) (hx : xs.length ≤ 1048576) : GCall Tryd.prog E 53 [.sl bk 4 0 xs.length] [(bk, .row 56 4 (xs.map encIt))] (fun d H => d = .v (.tuple #[]) ∧ H = [(bk, .row 56 4 (xs.reverse.map encIt))]) := by
  refine GCall.body (C := ⟨Tryd.prog, E, false⟩) Tryd.func53 rfl (fun h => by cases h) (by kernel_rfl) rfl ?_
  refine SCode.seqR ?_
  refine SOps.move rfl ?_
  refine SOps.lenSl rfl sliceB_23_56_4 ?_
  refine SOps.subI rfl rfl (by first | omega | (simp only [lenB]; omega)) (by first | omega | (simp only [lenB]; omega)) ?_
  refine SOps.assign rfl ?_
  refine SOps.assign rfl ?_
  refine SOps.nil ?_
  refine SCode.block ?_
  refine SCode.loop2 (fun (i : Nat) (ys : List Item) => (⟨28, [(0, .sl bk 4 0 xs.length), (2, .v (.int .i64 (i : Int))), (3, .v (.int .i64 ((xs.length : Int) - 1 - (i : Int))))], [(bk, .row 56 4 (ys.map encIt))]⟩ : St)) (fun (i : Nat) (ys : List Item) => 2 * i ≤ xs.length + 1 ∧ ys.length = xs.length ∧ ∀ (k : Nat) (h : k < xs.length), ys[k]? = some (if k < i ∨ xs.length - 1 - k < i then xs[xs.length - 1 - k]'(by omega) else xs[k])) (fun (i : Nat) (ys : List Item) => xs.length - i) (0) (xs) (by exact ⟨by omega, rfl, fun k h => by rw [if_neg (by omega)]; exact List.getElem?_eq_getElem h⟩) (St.Le.of ⟨(by first | rfl | (show some _ = some _; simp)), (by first | rfl | (show some _ = some _; simp)), (by first | rfl | (show some _ = some _; simp)), trivial⟩ rfl (by first | rfl | (simp))) ?_
  rintro i ys ⟨hi, hyl, hf⟩
  refine SCode.seq ?_
  refine SCode.seqR ?_
  refine SOps.move rfl ?_
  refine SOps.move rfl ?_
  refine SOps.bin rfl rfl rfl ?_
  refine SOps.nil ?_
  refine SCode.cond rfl (fun hc1 => ?_) (fun hc1 => ?_)
  · try simp only [decide_eq_true_eq, decide_eq_false_iff_not, Bool.not_eq_true', Bool.not_eq_false', beq_iff_eq, bne_iff_ne, ne_eq, beq_eq_false_iff_ne, bne_eq_false_iff_eq, Int.not_lt, Int.not_le, Nat.not_lt, Nat.not_le, Int.ofNat_lt, Int.ofNat_le, Bool.not_eq_eq_eq_not, Bool.not_true, Bool.not_false] at hc1
    refine SCode.skip ?_
    show SCode _ _ _ _
    refine SCode.seq ?_
    refine SCode.block ?_
    have hi3 : i < xs.length - 1 - i := by omega
    have hjl : xs.length - 1 - i < ys.length := by omega
    have hil : i < ys.length := by omega
    refine SCode.weaken (st' := (⟨28, [(0, .sl bk 4 0 xs.length), (2, .v (.int .i64 (i : Int))), (3, .v (.int .i64 ((xs.length : Int) - 1 - (i : Int))))], [(bk, .row 56 4 (ys.map encIt))]⟩ : St)) (St.Le.of ⟨rfl, rfl, rfl, trivial⟩) ?_
    refine SCode.drawMix 17 [12, 13, 14, 15] mixed_ [fun b => some (14, .sl bk 4 0 xs.length), fun b => some (15, .v (.int .i64 (i : Int))), fun b => some (16, .sl bk 4 0 xs.length), fun b => some (17, .v (.int .i64 ((xs.length : Int) - 1 - (i : Int)))), fun b => some (18, .sl bk 4 0 xs.length), fun b => some (19, .v (.int .i64 ((xs.length : Int) - 1 - (i : Int)))), fun b => some (20, .ref bk ((0 + (xs.length - 1 - i)) * 4)), fun b => some (21, .agg (encIt (ys[xs.length - 1 - i]))), fun b => some (22, .sl bk 4 0 xs.length), fun b => some (23, .v (.int .i64 (i : Int))), fun b => some (24, .ref bk ((0 + i) * 4)), fun b => some (25, .agg (encIt (ys[i]))), fun b => some (26, .ref bk ((0 + i) * 4)), fun b => none, fun b => some (27, .ref bk ((0 + (xs.length - 1 - i)) * 4)), fun b => none] [some 14, some 15, some 16, some 17, some 18, some 19, some 20, some 21, some 22, some 23, some 24, some 25, some 26, none, some 27, none] [[.inr 0], [.inr 2], [.inr 0], [.inr 3], [.inr 0], [.inr 3], [.inl 4, .inl 5], [.inl 6], [.inr 0], [.inr 2], [.inl 8, .inl 9], [.inl 10], [.inl 0, .inl 1], [.inl 12, .inl 7], [.inl 2, .inl 3], [.inl 14, .inl 11]] [fun b => [(0, .sl bk 4 0 xs.length)], fun b => [(2, .v (.int .i64 (i : Int)))], fun b => [(0, .sl bk 4 0 xs.length)], fun b => [(3, .v (.int .i64 ((xs.length : Int) - 1 - (i : Int))))], fun b => [(0, .sl bk 4 0 xs.length)], fun b => [(3, .v (.int .i64 ((xs.length : Int) - 1 - (i : Int))))], fun b => [(18, .sl bk 4 0 xs.length), (19, .v (.int .i64 ((xs.length : Int) - 1 - (i : Int))))], fun b => [(20, .ref bk ((0 + (xs.length - 1 - i)) * 4))], fun b => [(0, .sl bk 4 0 xs.length)], fun b => [(2, .v (.int .i64 (i : Int)))], fun b => [(22, .sl bk 4 0 xs.length), (23, .v (.int .i64 (i : Int)))], fun b => [(24, .ref bk ((0 + i) * 4))], fun b => [(14, .sl bk 4 0 xs.length), (15, .v (.int .i64 (i : Int)))], fun b => [(26, .ref bk ((0 + i) * 4)), (21, .agg (encIt (ys[xs.length - 1 - i])))], fun b => [(16, .sl bk 4 0 xs.length), (17, .v (.int .i64 ((xs.length : Int) - 1 - (i : Int))))], fun b => [(27, .ref bk ((0 + (xs.length - 1 - i)) * 4)), (25, .agg (encIt (ys[i])))]] (fun b c => match c with | 0 => [(bk, .row 56 4 (ys.map encIt))] | 1 => [(bk, .row 56 4 (ys.map encIt))] | 2 => [(bk, .row 56 4 ((ys.set i (ys[xs.length - 1 - i])).map encIt))] | 3 => [(bk, .row 56 4 ((ys.set i (ys[xs.length - 1 - i])).map encIt))] | _ => [(bk, .row 56 4 (((ys.set i (ys[xs.length - 1 - i])).set (xs.length - 1 - i) (ys[i])).map encIt))]) [(false, false, [0]), (false, false, [0]), (false, false, [0, 1, 2]), (false, false, [0, 1, 2]), (false, false, [0]), (false, false, [0]), (false, false, [0]), (false, false, [0]), (false, false, [0]), (false, false, [0]), (false, false, [0]), (false, false, [0]), (true, false, [0]), (true, false, [1]), (true, false, [2]), (true, false, [3])] (by kernel_rfl) (fun _ => rfl) rfl (fun _ => rfl) (fun _ => rfl) (cohNone rfl) ?_ ?_
    · refine MixOk.cons ?_ ?_
      · refine StgOk.cons (fun b rest => ?_) ?_
        · refine SOps.move rfl ?_
          exact SOps.nil ⟨b, fun _ => rfl, by first | rfl | simp_all⟩
        exact StgOk.nil
      refine MixOk.cons ?_ ?_
      · refine StgOk.cons (fun b rest => ?_) ?_
        · refine SOps.move rfl ?_
          exact SOps.nil ⟨b, fun _ => rfl, by first | rfl | simp_all⟩
        exact StgOk.nil
      refine MixOk.cons ?_ ?_
      · refine StgOk.cons (fun b rest => ?_) ?_
        · refine SOps.move rfl ?_
          exact SOps.nil ⟨b, fun _ => rfl, by first | rfl | simp_all⟩
        refine StgOk.cons (fun b rest => ?_) ?_
        · refine SOps.move rfl ?_
          exact SOps.nil ⟨b, fun _ => rfl, by first | rfl | simp_all⟩
        refine StgOk.cons (fun b rest => ?_) ?_
        · refine SOps.move rfl ?_
          exact SOps.nil ⟨b, fun _ => rfl, by first | rfl | simp_all⟩
        exact StgOk.nil
      refine MixOk.cons ?_ ?_
      · refine StgOk.cons (fun b rest => ?_) ?_
        · refine SOps.move rfl ?_
          exact SOps.nil ⟨b, fun _ => rfl, by first | rfl | simp_all⟩
        refine StgOk.cons (fun b rest => ?_) ?_
        · refine SOps.move rfl ?_
          exact SOps.nil ⟨b, fun _ => rfl, by first | rfl | simp_all⟩
        refine StgOk.cons (fun b rest => ?_) ?_
        · refine SOps.move rfl ?_
          exact SOps.nil ⟨b, fun _ => rfl, by first | rfl | simp_all⟩
        exact StgOk.nil
      refine MixOk.cons ?_ ?_
      · refine StgOk.cons (fun b rest => ?_) ?_
        · refine SOps.move rfl ?_
          exact SOps.nil ⟨b, fun _ => rfl, by first | rfl | simp_all⟩
        exact StgOk.nil
      refine MixOk.cons ?_ ?_
      · refine StgOk.cons (fun b rest => ?_) ?_
        · refine SOps.move rfl ?_
          exact SOps.nil ⟨b, fun _ => rfl, by first | rfl | simp_all⟩
        exact StgOk.nil
      refine MixOk.cons ?_ ?_
      · refine StgOk.cons (fun b rest => ?_) ?_
        · refine SOps.indexS ((xs.length - 1 - i)) rfl rfl sliceB_23_56_4 (by first | omega | (simp only [lenB]; omega)) (by first | omega | (simp only [lenB]; omega)) ?_
          exact SOps.nil ⟨b, fun _ => rfl, by first | rfl | simp_all⟩
        exact StgOk.nil
      refine MixOk.cons ?_ ?_
      · refine StgOk.cons (fun b rest => ?_) ?_
        · refine SOps.loadAK 0 ((xs.length - 1 - i)) rfl aggB_56_4 rfl (by first | omega | (simp only [lenB]; omega)) (by first | omega | (simp; omega)) rfl ?_
          exact SOps.nil ⟨b, fun _ => rfl, by first | rfl | simp_all⟩
        exact StgOk.nil
      refine MixOk.cons ?_ ?_
      · refine StgOk.cons (fun b rest => ?_) ?_
        · refine SOps.move rfl ?_
          exact SOps.nil ⟨b, fun _ => rfl, by first | rfl | simp_all⟩
        exact StgOk.nil
      refine MixOk.cons ?_ ?_
      · refine StgOk.cons (fun b rest => ?_) ?_
        · refine SOps.move rfl ?_
          exact SOps.nil ⟨b, fun _ => rfl, by first | rfl | simp_all⟩
        exact StgOk.nil
      refine MixOk.cons ?_ ?_
      · refine StgOk.cons (fun b rest => ?_) ?_
        · refine SOps.indexS (i) rfl rfl sliceB_23_56_4 (by first | omega | (simp only [lenB]; omega)) (by first | omega | (simp only [lenB]; omega)) ?_
          exact SOps.nil ⟨b, fun _ => rfl, by first | rfl | simp_all⟩
        exact StgOk.nil
      refine MixOk.cons ?_ ?_
      · refine StgOk.cons (fun b rest => ?_) ?_
        · refine SOps.loadAK 0 (i) rfl aggB_56_4 rfl (by first | omega | (simp only [lenB]; omega)) (by first | omega | (simp; omega)) rfl ?_
          exact SOps.nil ⟨b, fun _ => rfl, by first | rfl | simp_all⟩
        exact StgOk.nil
      refine MixOk.cons ?_ ?_
      · refine StgOk.cons (fun b rest => ?_) ?_
        · refine SOps.indexS (i) rfl rfl sliceB_23_56_4 (by first | omega | (simp only [lenB]; omega)) (by first | omega | (simp only [lenB]; omega)) ?_
          exact SOps.nil ⟨b, fun _ => rfl, by first | rfl | simp_all⟩
        exact StgOk.nil
      refine MixOk.cons ?_ ?_
      · refine StgOk.cons (fun b rest => ?_) ?_
        · refine SOps.storeAK 0 (i) rfl rfl aggB_56_4 rfl (by first | omega | (simp only [lenB]; omega)) (by first | omega | (simp; omega)) rfl ?_ rfl
          exact SOps.nil ⟨b, fun _ => rfl, by first | rfl | simp_all⟩
        exact StgOk.nil
      refine MixOk.cons ?_ ?_
      · refine StgOk.cons (fun b rest => ?_) ?_
        · refine SOps.indexS ((xs.length - 1 - i)) rfl rfl sliceB_23_56_4 (by first | omega | (simp only [lenB]; omega)) (by first | omega | (simp only [lenB]; omega)) ?_
          exact SOps.nil ⟨b, fun _ => rfl, by first | rfl | simp_all⟩
        exact StgOk.nil
      refine MixOk.cons ?_ ?_
      · refine StgOk.cons (fun b rest => ?_) ?_
        · refine SOps.storeAK 0 ((xs.length - 1 - i)) rfl rfl aggB_56_4 rfl (by first | omega | (simp only [lenB]; omega)) (by first | omega | (simp; omega)) rfl ?_ rfl
          exact SOps.nil ⟨b, fun _ => rfl, by first | rfl | simp_all⟩
        exact StgOk.nil
      exact MixOk.nil
    · intro bM
      show SCode _ _ _ _
      refine SCode.region ?_
      refine SOps.move rfl ?_
      refine SOps.addI rfl rfl (by first | omega | (simp only [lenB]; omega)) (by first | omega | (simp only [lenB]; omega)) ?_
      refine SOps.move rfl ?_
      refine SOps.subI rfl rfl (by first | omega | (simp only [lenB]; omega)) (by first | omega | (simp only [lenB]; omega)) ?_
      refine SOps.assign rfl ?_
      refine SOps.assign rfl ?_
      refine SOps.nil ?_
      exact ⟨i + 1, ((ys.set i (ys[xs.length - 1 - i])).set (xs.length - 1 - i) (ys[i])), ⟨by omega, by simp [hyl], rev_step (by omega) hyl hf⟩, by omega, St.Le.of ⟨rfl, rfl, (by show some _ = some _; congr 3; omega), trivial⟩⟩
  · try simp only [decide_eq_true_eq, decide_eq_false_iff_not, Bool.not_eq_true', Bool.not_eq_false', beq_iff_eq, bne_iff_ne, ne_eq, beq_eq_false_iff_ne, bne_eq_false_iff_eq, Int.not_lt, Int.not_le, Nat.not_lt, Nat.not_le, Int.ofNat_lt, Int.ofNat_le, Bool.not_eq_eq_eq_not, Bool.not_true, Bool.not_false] at hc1
    refine SCode.exit ?_
    obtain rfl := rev_end (by omega) hi hyl hf
    exact ⟨_, Res.none, rfl, rfl⟩
theorem sRevT0   : GCall Tryd.prog E 53 [DIts []] [] (fun d H => d = .v (.tuple #[]) ∧ H = []) := by
  refine GCall.body (C := ⟨Tryd.prog, E, true⟩) Tryd.func53 rfl (fun _ => rfl) (by kernel_rfl) rfl ?_
  refine SCode.seqR ?_
  refine SOps.move rfl ?_
  refine SOps.lenM rfl sliceB_23_56_4 ?_
  refine SOps.subI rfl rfl (by first | omega | (simp; done) | decide) (by first | omega | (simp; done) | decide) ?_
  refine SOps.assign rfl ?_
  refine SOps.assign rfl ?_
  refine SOps.nil ?_
  refine SCode.block ?_
  refine SCode.loop1 (fun (i : Nat) => (⟨28, [(0, DIts []), (2, .v (.int .i64 0)), (3, .v (.int .i64 (((([] : List Item).length : Nat) : Int) - 1)))], []⟩ : St)) (fun (i : Nat) => True) (fun (i : Nat) => 0) (0) (by trivial) (St.Le.of ⟨(by first | rfl | (show some _ = some _; simp)), (by first | rfl | (show some _ = some _; simp)), (by first | rfl | (show some _ = some _; simp)), trivial⟩ rfl (by first | rfl | (simp))) ?_
  rintro i -
  refine SCode.seq ?_
  refine SCode.seqR ?_
  refine SOps.move rfl ?_
  refine SOps.move rfl ?_
  refine SOps.bin rfl rfl rfl ?_
  refine SOps.nil ?_
  refine SCode.cond rfl (fun hc1 => ?_) (fun hc1 => ?_)
  · try simp only [decide_eq_true_eq, decide_eq_false_iff_not, Bool.not_eq_true', Bool.not_eq_false', beq_iff_eq, bne_iff_ne, ne_eq, beq_eq_false_iff_ne, bne_eq_false_iff_eq, Int.not_lt, Int.not_le, Nat.not_lt, Nat.not_le, Int.ofNat_lt, Int.ofNat_le, Bool.not_eq_eq_eq_not, Bool.not_true, Bool.not_false] at hc1
    exact absurd hc1 (by decide)
  · try simp only [decide_eq_true_eq, decide_eq_false_iff_not, Bool.not_eq_true', Bool.not_eq_false', beq_iff_eq, bne_iff_ne, ne_eq, beq_eq_false_iff_ne, bne_eq_false_iff_eq, Int.not_lt, Int.not_le, Nat.not_lt, Nat.not_le, Int.ofNat_lt, Int.ofNat_le, Bool.not_eq_eq_eq_not, Bool.not_true, Bool.not_false] at hc1
    refine SCode.exit ?_
    exact ⟨_, Res.none, rfl, rfl⟩
theorem sRevT (xs : List Item) (b : Nat) (hx : xs.length ≤ 1048576) : GCall Tryd.prog E 53 [accI 4 b (xs.map encIt)] (accH 56 4 b (xs.map encIt)) (fun d H => d = .v (.tuple #[]) ∧ H = accH 56 4 b (xs.reverse.map encIt)) := by
  cases xs with
  | nil => exact sRevT0
  | cons x xs =>
    have e : accI 4 b ((x :: xs).map encIt) = .sl b 4 0 (x :: xs).length := by simp [accI]
    rw [e]
    refine GCall.mono (sRevTC (E := E) (x :: xs) b hx) (fun d H h => ⟨h.1, h.2.trans ?_⟩)
    cases hr : (x :: xs).reverse with
    | nil => simp at hr
    | cons y ys => rfl
theorem sClone (p : List Item) (hp : p.length ≤ 1048576) : GCall Tryd.prog E 52 [DIts p] [] (fun d H => ∃ b, d = accI 4 b (p.map encIt) ∧ H = accH 56 4 b (p.map encIt)) := by
  cases p with
  | nil => exact (sClone0 [] rfl hp).mono (fun d H h => ⟨0, h.1, h.2⟩)
  | cons x p =>
    refine (sCloneC (x :: p) (by simp) hp).mono (fun d H ⟨b, h1, h2⟩ => ⟨b, h1.trans ?_, h2⟩)
    simp [accI]
def suffixesP (a : List Letter) (p : List Item) (s : ByteArray) : List Nat := if validPat a p && overA a s then lens (admF a) p.reverse (idxs a s).reverse else []
theorem pSuffixes0 (hV : VS E) (a : List Letter) (p : List Item) (s : ByteArray) (hp : ∀ x ∈ p, x.lets.size ≤ 1048576) (hs : s.size ≤ 1048576) : GCall Tryd.prog E 31 [DLs a, DIts p, .v (.string s)] [] (fun d H => d = (if (validPat a p && overA a s) then DNats (lens (admF a) p.reverse (idxs a s).reverse) else .v (.slice none 0 0)) ∧ H = []) := by
  refine GCall.body (C := ⟨Tryd.prog, E, true⟩) Tryd.func31 rfl (fun _ => rfl) (by kernel_rfl) rfl ?_
  refine SCode.seqR ?_
  refine SOps.assign rfl ?_
  refine SOps.nil ?_
  refine SCode.seqR ?_
  refine SOps.move rfl ?_
  refine SOps.move rfl ?_
  refine SOps.move rfl ?_
  rcases hva : (validPat a p && overA a s) with _ | _
  · refine SOps.callH [] [] [] (pReadO hV a p s hp hs) rfl rfl (fun d H hR => ?_)
    obtain ⟨rfl, rfl⟩ := hR.2 hva
    refine SOps.move rfl ?_
    refine SOps.extract rfl rfl ?_
    refine SOps.extract rfl rfl ?_
    refine SOps.assign rfl ?_
    refine SOps.assign rfl ?_
    refine SOps.nil ?_
    refine SCode.seq ?_
    refine SCode.seqR ?_
    refine SOps.move rfl ?_
    refine SOps.un rfl rfl ?_
    refine SOps.nil ?_
    refine SCode.cond rfl (fun _ => ?_) (fun h => by cases h)
    refine SCode.seqR ?_
    refine SOps.assign rfl ?_
    refine SOps.nil ?_
    refine SCode.ret ?_
    exact ⟨_, Res.one (.tmp rfl), by first | rfl | (rw [hva]; rfl), rfl⟩
  · have hva2 := (Bool.and_eq_true _ _).mp hva
    have hvl := validPat_len hva2.1
    have hil := idxs_len a s
    have hlt := idxs_lt hva2.2
    refine SOps.callH [] [] [] (pReadO hV a p s hp hs) rfl rfl (fun d H hR => ?_)
    obtain ⟨c, rfl, rfl⟩ := hR.1 hva
    refine SOps.move rfl ?_
    refine SOps.extract rfl rfl ?_
    refine SOps.extract rfl rfl ?_
    refine SOps.assign rfl ?_
    refine SOps.assign rfl ?_
    refine SOps.nil ?_
    refine SCode.seq ?_
    refine SCode.seqR ?_
    refine SOps.move rfl ?_
    refine SOps.un rfl rfl ?_
    refine SOps.nil ?_
    refine SCode.cond rfl (fun h => by cases h) (fun _ => ?_)
    refine SCode.skip ?_
    show SCode _ _ _ _
    refine SCode.seqR ?_
    refine SOps.move rfl ?_
    refine SOps.callH [] [] _ (sClone p (by omega)) rfl rfl (fun d H hR => ?_)
    obtain ⟨cb, rfl, rfl⟩ := hR
    refine SOps.assign rfl ?_
    refine SOps.nil ?_
    refine SCode.seqR ?_
    refine SOps.move rfl ?_
    refine SOps.callH [] _ _ (sRevT p cb (by omega)) rfl rfl (fun d H hR => ?_)
    obtain ⟨rfl, rfl⟩ := hR
    refine SOps.nil ?_
    refine SCode.seqR ?_
    refine SOps.accDI (t := 7) rfl ?_
    refine SOps.move rfl ?_
    refine SOps.callH (accH 56 4 cb (p.reverse.map encIt)) (accH 3 1 c ((idxs a s).map encN)) [] (sRevN (idxs a s) c (by omega)) rfl rfl (fun d H hR => ?_)
    obtain ⟨rfl, rfl⟩ := hR
    refine SOps.nil ?_
    refine SCode.seqR ?_
    refine SOps.reSlot (t := 9) rfl (show _ = accI 4 cb (p.reverse.map encIt) from accI_len (by simp)) ?_
    refine SOps.reSlot (t := 7) rfl (show _ = accI 1 c ((idxs a s).reverse.map encN) from accI_len (by simp)) ?_
    refine SOps.freezeAccI (t := 9) [] (accH 3 1 c ((idxs a s).reverse.map encN) ++ []) rfl rfl rfl ?_
    refine SOps.freezeAccI (t := 7) [] [] rfl rfl rfl ?_
    refine SOps.move rfl ?_
    refine SOps.move rfl ?_
    refine SOps.move rfl ?_
    refine SOps.callP (pLengths a p.reverse (idxs a s).reverse (by simp; omega) (by omega) (by simp; omega) (fun c hc => hlt c (List.mem_reverse.1 hc))) rfl ?_
    rintro _ rfl
    refine SOps.assign rfl ?_
    refine SOps.nil ?_
    refine SCode.ret ?_
    exact ⟨_, Res.one (.tmp rfl), by first | rfl | (rw [hva]; rfl), rfl⟩
theorem pSuffixes (hV : VS E) (a : List Letter) (p : List Item) (s : ByteArray) (hp : ∀ x ∈ p, x.lets.size ≤ 1048576) (hs : s.size ≤ 1048576) : GCall Tryd.prog E 31 [DLs a, DIts p, .v (.string s)] [] (fun d H => d = DNats (suffixesP a p s) ∧ H = []) :=
  (pSuffixes0 hV a p s hp hs).nilI.mono (fun d H h => ⟨h.1.trans (by unfold suffixesP; split <;> rfl), h.2⟩)
end Go.GH
namespace Go.GH
open Go

structure Acc where
  start : Int
  fin : List Bool
  nxt : List (List Int)
def encRI (l : List Int) : List DV := [DInts l]
abbrev DTab (t : List (List Int)) : DV := .isl false 1 (t.map encRI)
def encAcc (x : Acc) : List DV := [.v (.int .i64 x.start), DBools x.fin, DTab x.nxt]
def widthA (x : Acc) : Nat := (x.nxt.headD []).length
def rowOK (n w : Nat) (l : List Int) : Bool := decide (l.length = w) && l.all (fun t => decide (0 ≤ t) && decide (t < n))
def headOK (x : Acc) : Bool := decide (1 ≤ x.nxt.length) && decide (x.nxt.length ≤ 512) && decide (x.fin.length = x.nxt.length) && decide (0 ≤ x.start) && decide (x.start < x.nxt.length)
def accOK (x : Acc) : Bool := headOK x && x.nxt.all (rowOK x.nxt.length (widthA x))
theorem headOK_iff {x : Acc} : headOK x = true ↔ 1 ≤ x.nxt.length ∧ x.nxt.length ≤ 512 ∧ x.fin.length = x.nxt.length ∧ 0 ≤ x.start ∧ x.start < x.nxt.length := by
  simp only [headOK, Bool.and_eq_true, decide_eq_true_eq, and_assoc]
theorem widthA_at {x : Acc} (h : 0 < x.nxt.length) : (x.nxt[0]).length = widthA x := by
  obtain ⟨st, fi, nx⟩ := x
  cases nx with
  | nil => simp at h
  | cons r l => rfl
theorem rowOK_iff {n w : Nat} {l : List Int} : rowOK n w l = true ↔ l.length = w ∧ ∀ t ∈ l, 0 ≤ t ∧ t < n := by
  simp only [rowOK, Bool.and_eq_true, decide_eq_true_eq, List.all_eq_true]
/-- Where a run of an acceptor ends. -/
def runA (x : Acc) (s : Int) (w : List Nat) : Int := w.foldl (fun s c => (x.nxt.getD s.toNat []).getD c 0) s
def finA (x : Acc) (s : Int) : Bool := x.fin.getD s.toNat false
theorem runA_snoc (x : Acc) (s : Int) (w : List Nat) (c : Nat) : runA x s (w ++ [c]) = (x.nxt.getD (runA x s w).toNat []).getD c 0 := by
  simp [runA, List.foldl_append]
theorem accOK_row {x : Acc} (h : accOK x = true) {i : Nat} (hi : i < x.nxt.length) : (x.nxt[i]).length = widthA x ∧ ∀ t ∈ x.nxt[i], 0 ≤ t ∧ t < x.nxt.length := by
  simp only [accOK, Bool.and_eq_true, List.all_eq_true] at h
  exact rowOK_iff.1 (h.2 _ (List.getElem_mem hi))
theorem getD_at {α : Type} {l : List α} {i : Nat} {d : α} (h : i < l.length) : l.getD i d = l[i] := by simp [h]
theorem step_ok {x : Acc} (h : accOK x = true) {s : Int} (h1 : 0 ≤ s) (h2 : s < x.nxt.length) {c : Nat} (hc : c < widthA x) : 0 ≤ (x.nxt.getD s.toNat []).getD c 0 ∧ (x.nxt.getD s.toNat []).getD c 0 < x.nxt.length := by
  have hi : s.toNat < x.nxt.length := by omega
  obtain ⟨k1, k2⟩ := accOK_row h hi
  rw [getD_at hi, getD_at (by omega)]
  exact k2 _ (List.getElem_mem _)
theorem runA_ok {x : Acc} (h : accOK x = true) : ∀ (w : List Nat) (s : Int), 0 ≤ s → s < x.nxt.length → (∀ c ∈ w, c < widthA x) → 0 ≤ runA x s w ∧ runA x s w < x.nxt.length
  | [], s, h1, h2, _ => ⟨h1, h2⟩
  | c :: w, s, h1, h2, hw => by
    have := step_ok h h1 h2 (hw c (List.mem_cons_self ..))
    exact runA_ok h w _ this.1 this.2 (fun d hd => hw d (List.mem_cons_of_mem _ hd))
theorem runA_succ {x : Acc} {s : Int} {w : List Nat} {i : Nat} (hi : i < w.length) (h1 : (runA x s (w.take i)).toNat < x.nxt.length) (h2 : w[i] < (x.nxt[(runA x s (w.take i)).toNat]).length) : runA x s (w.take (i + 1)) = (x.nxt[(runA x s (w.take i)).toNat])[w[i]] := by
  rw [List.take_add_one, List.getElem?_eq_getElem hi, Option.toList_some, runA_snoc, getD_at h1, getD_at h2]
def acceptsA (a : List Letter) (x : Acc) (s : ByteArray) : Bool := properB a && decide (a.length ≤ 65) && accOK x && decide (widthA x = a.length) && overA a s && finA x (runA x x.start (idxs a s))
theorem finA_at {x : Acc} {s : Int} (h : s.toNat < x.fin.length) : x.fin[s.toNat] = finA x s := by
  unfold finA; rw [getD_at h]
end Go.GH
namespace Go.GH
open Go Go.RowKit
section
variable {C : Ctx} {E : Env} {base : Base} {F : Nat → Prop} {st : St} {a : Act} {w : World} {ops : Array Oper} {rest : List Oper} {R : St → Prop}
  {t : Tmp} {ty : TypeId} {pos : String} {aft : Array Edge} {g : Option (Nat × Bool)}
theorem SOps.insert (i : Nat) {T K V b : Nat} {d : TypeDesc} {xo ko yo : Operand} {es : List (Value × DV)} {k : Value} {v : DV} (hx : st.val xo = some (.mp b)) (hi : st.heap[i]? = some (b, .map es)) (hk : st.val ko = some (.v k)) (hy : st.val yo = some v) (hT : mapB C.P T K V d) (hkk : isKey d k = true) (hks : ∀ p ∈ es, isKey d p.1 = true)
    (hrest : SOps C ops rest ⟨st.n, st.slots, st.heap.set i (b, .map (updL es k v))⟩ R)
    (hg : st.wants ops g = some true := by rfl) : SOps C ops (⟨none, .insert T xo ko yo, ty, pos, aft, g⟩ :: rest) st R := by
  refine SOps.op (R1 := (· = ⟨st.n, st.slots, st.heap.set i (b, .map (updL es k v))⟩)) hg ?_ (fun st' e => e ▸ hrest)
  intro base ok a w F hs K' Q hK
  have h1 := hs.val hx
  have h2 := (hs.val hk).inv_v.1
  have h3 := hs.val hy
  generalize hv : a.eval xo = x at h1
  cases h1 with
  | mp =>
    obtain ⟨kk1, hbF, ents, clock, hb, hE⟩ := hs.heap _ (List.mem_of_getElem? hi)
    have hE : EntsRep w F ents es := hE
    simp only at hb
    have main : ∃ ents' clock', (execOp a.eval ⟨none, .insert T xo ko yo, ty, pos, aft, g⟩).run C.P w = .ok .skip (World.setObj' w b (.map ents' clock')) ∧ ∀ w', (∀ u d, Rep w F u d → Rep w' F u d) → EntsRep w' F ents' (updL es k v) := by
      rw [show execOp a.eval ⟨none, .insert T xo ko yo, ty, pos, aft, g⟩ = (do Instr.mapUpdate T (a.eval xo) (a.eval ko) (a.eval yo); pure .skip) from rfl, hv, h2]
      rcases hE.find (P := C.P) hT.2 hkk hks with ⟨k1, k2, k3⟩ | ⟨j, x, e, k2, k3, k4, k5, k6, k7, k8⟩
      · refine ⟨ents.push { key := k, val := a.eval yo, born := clock }, clock + 1, ?_, fun w' hm => ?_⟩
        · simp only [Instr.mapUpdate, Sem.run_bind, run_underlying hT.1, Result.andThen_ok, MapKept.run_getObj_map hb, MapKept.run_checkKey hT.2 (isKey_spec hkk), k2, MapKept.run_setObj_map _ hb, Sem.run_pure, pure_bind]
          rfl
        · rw [k3]
          refine ⟨by simp [hE.1], fun q p hp => ?_⟩
          rw [List.getElem?_append] at hp
          split at hp
          · rename_i hlt
            obtain ⟨e, he, hke, hr⟩ := hE.2 q p hp
            exact ⟨e, by rw [Array.getElem?_push, if_neg (by rw [hE.1]; omega)]; exact he, hke, hm _ _ hr⟩
          · rename_i hlt
            match hq : q - es.length, hp with
            | 0, hp =>
              simp at hp
              subst hp
              have : q = ents.size := by rw [hE.1]; omega
              exact ⟨_, by rw [Array.getElem?_push, if_pos this], rfl, hm _ _ h3⟩
            | m + 1, hp => simp at hp
      · refine ⟨ents.modify j fun e => { e with key := k, val := a.eval yo }, clock, ?_, fun w' hm => ?_⟩
        · simp only [Instr.mapUpdate, Sem.run_bind, run_underlying hT.1, Result.andThen_ok, MapKept.run_getObj_map hb, MapKept.run_checkKey hT.2 (isKey_spec hkk), k2, k3, Option.map_some, Option.getD_some, k4, MapKept.run_keyThatStays (isKey_spec hkk), MapKept.run_setObj_map _ hb, Sem.run_pure, pure_bind]
          rfl
        · rw [k8]
          refine ⟨by simp [hE.1], fun q p hp => ?_⟩
          rw [List.getElem?_set] at hp
          rw [Array.getElem?_modify]
          split at hp
          · rename_i hjq
            subst hjq
            split at hp
            · obtain rfl := Option.some.inj hp
              exact ⟨{ e with key := k, val := a.eval yo }, by simp [k3], rfl, hm _ _ h3⟩
            · cases hp
          · rename_i hjq
            obtain ⟨e', he', hke, hr⟩ := hE.2 q p hp
            exact ⟨e', by rw [if_neg hjq]; exact he', hke, hm _ _ hr⟩
    obtain ⟨ents', clock', m1, m2⟩ := main
    have hlt := (Array.getElem?_eq_some_iff.1 hb).1
    have hst : Step (· = b) w (World.setObj' w b (.map ents' clock')) := by
      refine ⟨rfl, rfl, rfl, by simp [World.setObj'], fun c _ hc => ?_, fun c q hq => ?_⟩
      · simp only [World.setObj', Array.getElem?_setIfInBounds]; rw [if_neg (fun e => hc e.symm)]
      · unfold World.shape? at *
        by_cases e : c = b
        · subst e; rw [hb] at hq; cases hq
        · simp only [World.setObj', Array.getElem?_setIfInBounds]; rw [if_neg (fun e' => e e'.symm)]; exact hq
    unfold Oper.wp
    rw [m1, Oper.upon_skip]
    refine hK _ _ _ rfl ⟨F, hs.write hi hst ⟨ents', clock', by simp [World.setObj', hlt], m2 _ (fun u d hr => hr.mono (fun c hc => hst.block c (hs.lt c hc).1 (fun e => hbF (e ▸ hc))) hst.shape (fun _ h => h))⟩⟩
end
end Go.GH
namespace Go.GH
open Go

def idxN (qs : List Nat) (t : Nat) : Option Nat := qs.findIdx? (fun q => q == t)
theorem idxN_lt {qs : List Nat} {t i : Nat} (h : idxN qs t = some i) : ∃ hl : i < qs.length, qs[i] = t := by
  obtain ⟨h1, h2, _⟩ := List.findIdx?_eq_some_iff_getElem.1 h
  exact ⟨h1, by simpa using h2⟩
theorem idxN_none {qs : List Nat} {t : Nat} : idxN qs t = none ↔ t ∉ qs := by
  unfold idxN
  rw [List.findIdx?_eq_none_iff]
  constructor
  · intro h hm; have := h t hm; simp at this
  · intro h x hx; simp only [beq_eq_false_iff_ne]; exact fun e => h (e ▸ hx)
theorem idxN_snoc (qs : List Nat) (t u : Nat) : idxN (qs ++ [t]) u = match idxN qs u with
    | some i => some i
    | none => if t = u then some qs.length else none := by
  unfold idxN
  rw [List.findIdx?_append]
  cases h : List.findIdx? (fun q => q == u) qs with
  | some i => rfl
  | none =>
    simp only [List.findIdx?_cons, List.findIdx?_nil]
    by_cases e : t = u
    · subst e; simp
    · simp [e]
structure MapOK (es : List (Value × DV)) (qs : List Nat) : Prop where
  keys : ∀ p ∈ es, isKey (.int .u8) p.1 = true
  look : ∀ t : Nat, lookupL es (.int .u8 (t : Int)) = (idxN qs t).map (fun i : Nat => DV.v (.int .i64 (i : Int)))
theorem MapOK.add {es : List (Value × DV)} {qs : List Nat} (h : MapOK es qs) {t : Nat} (hn : idxN qs t = none) : MapOK (updL es (.int .u8 (t : Int)) (.v (.int .i64 ((qs.length : Nat) : Int)))) (qs ++ [t]) where
  keys := updL_keys rfl _ es h.keys
  look := fun u => by
    rw [lookupL_upd (d0 := .int .u8) rfl rfl _ es h.keys, h.look, idxN_snoc]
    simp only [sameKey, BEq.rfl, Bool.true_and]
    by_cases e : t = u
    · subst e
      rw [hn]
      simp
    · have e1 : ((u : Int) == (t : Int)) = false := by simp; omega
      rw [e1]
      cases idxN qs u with
      | none => simp [e]
      | some i => simp
theorem MapOK.one (t : Nat) : MapOK (updL [] (.int .u8 (t : Int)) (.v (.int .i64 0))) [t] := by
  have h0 : MapOK [] [] := ⟨fun p hp => (by cases hp), fun u => rfl⟩
  exact h0.add (t := t) rfl
/-- One row of the acceptor: the letters' numbers, and the queue after them. -/
def rowF (step : Nat → Nat) : List Nat → List Nat → List Nat → List Nat × List Nat
  | [], qs, row => (qs, row)
  | c :: cs, qs, row => match idxN qs (step c) with
    | some n => rowF step cs qs (row ++ [n])
    | none => rowF step cs (qs ++ [step c]) (row ++ [qs.length])
theorem rowF_some {step : Nat → Nat} {c : Nat} {cs qs row : List Nat} {n : Nat} (h : idxN qs (step c) = some n) : rowF step (c :: cs) qs row = rowF step cs qs (row ++ [n]) := by
  simp only [rowF, h]
theorem rowF_none {step : Nat → Nat} {c : Nat} {cs qs row : List Nat} (h : idxN qs (step c) = none) : rowF step (c :: cs) qs row = rowF step cs (qs ++ [step c]) (row ++ [qs.length]) := by
  simp only [rowF, h]
def accF (step : Nat → Nat → Nat) (fin : Nat → Bool) (m : Nat) : Nat → Nat → List Nat → List Bool → List (List Nat) → List Bool × List (List Nat)
  | 0, _, _, fins, nxt => (fins, nxt)
  | f + 1, i, qs, fins, nxt => match qs[i]? with
    | none => (fins, nxt)
    | some q => accF step fin m f (i + 1) (rowF (step q) (List.range m) qs []).1 (fins ++ [fin q]) (nxt ++ [(rowF (step q) (List.range m) qs []).2])
theorem accF_some {step : Nat → Nat → Nat} {fin : Nat → Bool} {m f i : Nat} {qs : List Nat} {fins : List Bool} {nxt : List (List Nat)} (h : i < qs.length) :
    accF step fin m (f + 1) i qs fins nxt = accF step fin m f (i + 1) (rowF (step qs[i]) (List.range m) qs []).1 (fins ++ [fin qs[i]]) (nxt ++ [(rowF (step qs[i]) (List.range m) qs []).2]) := by
  simp only [accF, List.getElem?_eq_getElem h]
theorem accF_none {step : Nat → Nat → Nat} {fin : Nat → Bool} {m i : Nat} {qs : List Nat} {fins : List Bool} {nxt : List (List Nat)} (h : qs.length ≤ i) (f : Nat) : accF step fin m f i qs fins nxt = (fins, nxt) := by
  cases f with
  | zero => rfl
  | succ f => simp only [accF, List.getElem?_eq_none h]
/-- The rows stay small: sets below 256, each once. -/
theorem nodup_le : ∀ (n : Nat) (l : List Nat), l.Nodup → (∀ q ∈ l, q < n) → l.length ≤ n
  | 0, l, _, h => by
    cases l with
    | nil => exact Nat.le_refl _
    | cons x l => have := h x (List.mem_cons_self ..); omega
  | n + 1, l, hd, h => by
    by_cases hm : n ∈ l
    · have h1 := nodup_le n (l.erase n) (hd.erase n) (fun q hq => by
        have h2 := (hd.mem_erase_iff).1 hq
        have := h q h2.2
        have := h2.1
        omega)
      rw [List.length_erase_of_mem hm] at h1
      omega
    · have := nodup_le n l hd (fun q hq => by
        have h2 := h q hq
        have : q ≠ n := fun e => hm (e ▸ hq)
        omega)
      omega
theorem nodup_small {qs : List Nat} (h1 : qs.Nodup) (h2 : ∀ q ∈ qs, q < 256) : qs.length ≤ 256 := nodup_le 256 qs h1 h2
structure QsOK (qs : List Nat) : Prop where
  nodup : qs.Nodup
  small : ∀ q ∈ qs, q < 256
theorem QsOK.len {qs : List Nat} (h : QsOK qs) : qs.length ≤ 256 := nodup_small h.nodup h.small
theorem QsOK.add {qs : List Nat} (h : QsOK qs) {t : Nat} (hn : idxN qs t = none) (ht : t < 256) : QsOK (qs ++ [t]) where
  nodup := by
    rw [List.nodup_append]
    exact ⟨h.nodup, by simp, fun x hx y hy e => by rw [List.mem_singleton] at hy; subst hy; subst e; exact idxN_none.1 hn hx⟩
  small := fun q hq => by
    rcases List.mem_append.1 hq with hq | hq
    · exact h.small q hq
    · rw [List.mem_singleton] at hq; subst hq; exact ht
end Go.GH
namespace Go.GH
open Go

theorem pigeon {α : Type} [DecidableEq α] : ∀ {l m : List α}, l.Nodup → (∀ x ∈ l, x ∈ m) → l.length ≤ m.length
  | [], _, _, _ => Nat.zero_le _
  | x :: l, m, hn, hs => by
    rw [List.nodup_cons] at hn
    have hx : x ∈ m := hs x (by simp)
    have h := pigeon (l := l) (m := m.erase x) hn.2 (fun y hy => by
      have hne : y ≠ x := fun e => hn.1 (e ▸ hy)
      exact (List.mem_erase_of_ne hne).2 (hs y (by simp [hy])))
    rw [List.length_erase_of_mem hx] at h
    have := List.length_pos_of_mem hx
    simp only [List.length_cons]
    omega
/-- A list of n entries in which each number below n occurs has no entry twice. -/
theorem full_inj {l : List Nat} {n : Nat} (hl : l.length = n) (h : ∀ v, v < n → v ∈ l) {i k : Nat} (hi : i < l.length) (hk : k < l.length) (e : l[i] = l[k]) : i = k := by
  refine Decidable.byContradiction fun hne => ?_
  have hs : ∀ x ∈ List.range n, x ∈ l.eraseIdx k := fun x hx => by
    obtain ⟨j, hj, rfl⟩ := List.getElem_of_mem (h x (by simpa using hx))
    rw [List.mem_eraseIdx_iff_getElem]
    by_cases hjk : j = k
    · subst hjk
      exact ⟨i, hi, hne, e⟩
    · exact ⟨j, hj, hjk, rfl⟩
  have := pigeon List.nodup_range hs
  rw [List.length_range, List.length_eraseIdx_of_lt hk] at this
  omega

/-! #### numbering by first occurrence -/
def idxL (ks : List (List Nat)) (t : List Nat) : Option Nat := ks.findIdx? (fun q => q == t)
theorem idxL_lt {ks : List (List Nat)} {t : List Nat} {i : Nat} (h : idxL ks t = some i) : ∃ hl : i < ks.length, ks[i] = t := by
  obtain ⟨h1, h2, _⟩ := List.findIdx?_eq_some_iff_getElem.1 h
  exact ⟨h1, by simpa using h2⟩
theorem idxL_none {ks : List (List Nat)} {t : List Nat} : idxL ks t = none ↔ t ∉ ks := by
  unfold idxL
  rw [List.findIdx?_eq_none_iff]
  constructor
  · intro h hm; have := h t hm; simp at this
  · intro h x hx; simp only [beq_eq_false_iff_ne]; exact fun e => h (e ▸ hx)
def numF : List (List Nat) → List (List Nat) → List Nat → List (List Nat) × List Nat
  | [], ks, out => (ks, out)
  | s :: l, ks, out => match idxL ks s with
    | some n => numF l ks (out ++ [n])
    | none => numF l (ks ++ [s]) (out ++ [ks.length])
structure NumOK (ks done : List (List Nat)) (out : List Nat) : Prop where
  nd : ks.Nodup
  len : out.length = done.length
  ats : ∀ p ∈ List.zip out done, ks[p.1]? = some p.2
  cov : ∀ v, v < ks.length → v ∈ out
theorem numF_ok : ∀ {l ks done : List (List Nat)} {out : List Nat}, NumOK ks done out → NumOK (numF l ks out).1 (done ++ l) (numF l ks out).2
  | [], ks, done, out, h => by rw [List.append_nil]; exact h
  | s :: l, ks, done, out, h => by
    rw [show done ++ s :: l = (done ++ [s]) ++ l by simp]
    unfold numF
    split
    · rename_i n hn
      obtain ⟨h1, h2⟩ := idxL_lt hn
      refine numF_ok ⟨h.nd, by simp [h.len], fun p hp => ?_, fun v hv => List.mem_append_left _ (h.cov v hv)⟩
      rw [List.zip_append h.len] at hp
      rcases List.mem_append.1 hp with hp | hp
      · exact h.ats p hp
      · simp only [List.zip_cons_cons, List.zip_nil_right, List.mem_singleton] at hp
        subst hp
        rw [List.getElem?_eq_getElem h1, h2]
    · rename_i hn
      refine numF_ok ⟨?_, by simp [h.len], fun p hp => ?_, fun v hv => ?_⟩
      · rw [List.nodup_append]
        exact ⟨h.nd, by simp, fun a ha b hb => by simp only [List.mem_singleton] at hb; subst hb; exact fun e => idxL_none.1 hn (e ▸ ha)⟩
      · rw [List.zip_append h.len] at hp
        rcases List.mem_append.1 hp with hp | hp
        · have := h.ats p hp
          obtain ⟨h1, _⟩ := List.getElem?_eq_some_iff.1 this
          rw [List.getElem?_append_left h1]; exact this
        · simp only [List.zip_cons_cons, List.zip_nil_right, List.mem_singleton] at hp
          subst hp
          simp
      · simp only [List.length_append, List.length_singleton] at hv
        by_cases e : v = ks.length
        · subst e; simp
        · exact List.mem_append_left _ (h.cov v (by omega))
theorem NumOK.at {ks done : List (List Nat)} {out : List Nat} (h : NumOK ks done out) {i : Nat} (h1 : i < out.length) (h2 : i < done.length) : ks[out[i]]? = some done[i] :=
  h.ats (out[i], done[i]) (by rw [← List.getElem_zip (h := by rw [List.length_zip]; omega)]; exact List.getElem_mem _)
theorem NumOK.same {ks done : List (List Nat)} {out : List Nat} (h : NumOK ks done out) {i k : Nat} (hi : i < done.length) (hk : k < done.length) : out[i]'(by have := h.len; omega) = out[k]'(by have := h.len; omega) ↔ done[i] = done[k] := by
  have hl := h.len
  have a1 := h.at (i := i) (by omega) hi
  have a2 := h.at (i := k) (by omega) hk
  constructor
  · intro e
    rw [e, a2] at a1
    exact (Option.some.inj a1).symm
  · intro e
    rw [e, ← a2] at a1
    obtain ⟨b1, _⟩ := List.getElem?_eq_some_iff.1 (a2)
    exact ((List.getElem?_inj b1 h.nd).1 a1.symm).symm
/-- A state's signature: its class and those of its successors. -/
def sigL (x : Acc) (cl : List Nat) (i : Nat) : List Nat := cl.getD i 0 :: (x.nxt.getD i []).map (fun t => cl.getD t.toNat 0)
def sigsL (x : Acc) (cl : List Nat) : List (List Nat) := (List.range x.nxt.length).map (sigL x cl)
def roundL (x : Acc) (cl : List Nat) : List (List Nat) × List Nat := numF (sigsL x cl) [] []
def clsF (x : Acc) : Nat → Nat → List Nat → List Nat
  | 0, _, cl => cl
  | f + 1, n, cl => if (roundL x cl).1.length = n then (roundL x cl).2 else clsF x f (roundL x cl).1.length (roundL x cl).2
theorem round_ok (x : Acc) (cl : List Nat) : NumOK (roundL x cl).1 (sigsL x cl) (roundL x cl).2 := by
  have h := numF_ok (l := sigsL x cl) (ks := []) (done := []) (out := []) ⟨List.nodup_nil, rfl, fun p hp => (by simp at hp), fun v hv => (by simp at hv)⟩
  rwa [List.nil_append] at h
/-- No word over the acceptor's letters tells two states apart. -/
def Eqv (x : Acc) (i k : Nat) : Prop := ∀ w : List Nat, (∀ c ∈ w, c < widthA x) → finA x (runA x i w) = finA x (runA x k w)
theorem Eqv.symm {x : Acc} {i k : Nat} (h : Eqv x i k) : Eqv x k i := fun w hw => (h w hw).symm
theorem Eqv.trans {x : Acc} {i k j : Nat} (h : Eqv x i k) (g : Eqv x k j) : Eqv x i j := fun w hw => (h w hw).trans (g w hw)
theorem runA_cons (x : Acc) (s : Int) (c : Nat) (w : List Nat) : runA x s (c :: w) = runA x ((x.nxt.getD s.toNat []).getD c 0) w := rfl
/-- The successor of a state. -/
def nxA (x : Acc) (i c : Nat) : Nat := ((x.nxt.getD i []).getD c 0).toNat
theorem nxA_cast {x : Acc} (h : accOK x = true) {i c : Nat} (hi : i < x.nxt.length) (hc : c < widthA x) : ((nxA x i c : Nat) : Int) = (x.nxt.getD i []).getD c 0 ∧ nxA x i c < x.nxt.length := by
  have := step_ok h (s := (i : Int)) (by omega) (by omega) hc
  simp only [Int.toNat_natCast] at this
  unfold nxA
  omega
theorem Eqv.step {x : Acc} (h : accOK x = true) {i k c : Nat} (hi : i < x.nxt.length) (hk : k < x.nxt.length) (hc : c < widthA x) (e : Eqv x i k) : Eqv x (nxA x i c) (nxA x k c) := fun w hw => by
  have := e (c :: w) (fun d hd => by rcases List.mem_cons.1 hd with rfl | hd; exact hc; exact hw d hd)
  rw [runA_cons, runA_cons] at this
  rw [(nxA_cast h hi hc).1, (nxA_cast h hk hc).1]
  simpa using this
/-- A partition that no two equal states are split by, and that keeps final states by themselves. -/
structure PartOK (x : Acc) (cl : List Nat) : Prop where
  len : cl.length = x.nxt.length
  low : ∀ i k, i < x.nxt.length → k < x.nxt.length → Eqv x i k → cl.getD i 0 = cl.getD k 0
  fin : ∀ i k, i < x.nxt.length → k < x.nxt.length → cl.getD i 0 = cl.getD k 0 → finA x i = finA x k
theorem sigL_eq {x : Acc} (h : accOK x = true) {cl : List Nat} {i k : Nat} (hi : i < x.nxt.length) (hk : k < x.nxt.length) :
    sigL x cl i = sigL x cl k ↔ cl.getD i 0 = cl.getD k 0 ∧ ∀ c, c < widthA x → cl.getD (nxA x i c) 0 = cl.getD (nxA x k c) 0 := by
  have l1 := (accOK_row h hi).1
  have l2 := (accOK_row h hk).1
  simp only [sigL, List.cons.injEq]
  refine and_congr_right fun _ => ?_
  simp only [nxA, getD_at hi, getD_at hk]
  constructor
  · intro e c hc
    have := congrArg (fun l => l[c]?) e
    simp only [List.getElem?_map, List.getElem?_eq_getElem (show c < (x.nxt[i]).length by omega), List.getElem?_eq_getElem (show c < (x.nxt[k]).length by omega), Option.map_some, Option.some.injEq] at this
    rw [getD_at (show c < (x.nxt[i]).length by omega), getD_at (show c < (x.nxt[k]).length by omega)]
    exact this
  · intro e
    refine List.ext_getElem (by simp [l1, l2]) fun c h1 h2 => ?_
    simp only [List.length_map] at h1 h2
    have := e c (by omega)
    rw [getD_at h1, getD_at h2] at this
    simpa using this
theorem sigsL_len (x : Acc) (cl : List Nat) : (sigsL x cl).length = x.nxt.length := by simp [sigsL]
theorem round_same {x : Acc} (h : accOK x = true) (cl : List Nat) {i k : Nat} (hi : i < x.nxt.length) (hk : k < x.nxt.length) : (roundL x cl).2.getD i 0 = (roundL x cl).2.getD k 0 ↔ sigL x cl i = sigL x cl k := by
  have r := round_ok x cl
  have l := r.len
  have sl := sigsL_len x cl
  rw [getD_at (show i < (roundL x cl).2.length by omega), getD_at (show k < (roundL x cl).2.length by omega), r.same (by omega) (by omega)]
  simp [sigsL]
theorem PartOK.round {x : Acc} (h : accOK x = true) {cl : List Nat} (p : PartOK x cl) : PartOK x (roundL x cl).2 where
  len := by rw [(round_ok x cl).len, sigsL_len]
  low := fun i k hi hk e => (round_same h cl hi hk).2 ((sigL_eq h hi hk).2 ⟨p.low i k hi hk e, fun c hc => p.low _ _ (nxA_cast h hi hc).2 (nxA_cast h hk hc).2 (e.step h hi hk hc)⟩)
  fin := fun i k hi hk e => p.fin i k hi hk ((sigL_eq h hi hk).1 ((round_same h cl hi hk).1 e)).1
/-- A partition under which equal classes have equal successors tells just what words tell. -/
theorem stable_eqv {x : Acc} (h : accOK x = true) {cl : List Nat} (p : PartOK x cl) (hst : ∀ i k, i < x.nxt.length → k < x.nxt.length → cl.getD i 0 = cl.getD k 0 → ∀ c, c < widthA x → cl.getD (nxA x i c) 0 = cl.getD (nxA x k c) 0) :
    ∀ (w : List Nat) (i k : Nat), i < x.nxt.length → k < x.nxt.length → cl.getD i 0 = cl.getD k 0 → (∀ c ∈ w, c < widthA x) → finA x (runA x i w) = finA x (runA x k w)
  | [], i, k, hi, hk, e, _ => p.fin i k hi hk e
  | c :: w, i, k, hi, hk, e, hw => by
    have hc := hw c (by simp)
    rw [runA_cons, runA_cons]
    simp only [Int.toNat_natCast]
    rw [← (nxA_cast h hi hc).1, ← (nxA_cast h hk hc).1]
    exact stable_eqv h p hst w _ _ (nxA_cast h hi hc).2 (nxA_cast h hk hc).2 (hst i k hi hk e c hc) (fun d hd => hw d (by simp [hd]))
/-- cl has the classes below n, each of them. -/
def Cov (cl : List Nat) (n : Nat) : Prop := ∀ v, v < n → v ∈ cl
/-- The new classes are at least as many as the old ones. -/
theorem round_grow {x : Acc} {cl : List Nat} (hl : cl.length = x.nxt.length) {n : Nat} (hc : Cov cl n) : n ≤ (roundL x cl).1.length := by
  have r := round_ok x cl
  have hs : ∀ v ∈ List.range n, v ∈ (roundL x cl).1.map (fun l => l.headD 0) := fun v hv => by
    obtain ⟨i, hi, rfl⟩ := List.getElem_of_mem (hc v (by simpa using hv))
    have sl := sigsL_len x cl
    have rl := r.len
    have a := r.at (i := i) (by omega) (by omega)
    rw [List.mem_map]
    refine ⟨_, List.mem_of_getElem? a, ?_⟩
    simp [sigsL, sigL, hi]
  have := pigeon List.nodup_range hs
  simpa using this
/-- When the count stands still, equal classes have equal signatures. -/
theorem round_still {x : Acc} (h : accOK x = true) {cl : List Nat} (hl : cl.length = x.nxt.length) {n : Nat} (hc : Cov cl n) (hn : (roundL x cl).1.length = n) {i k : Nat} (hi : i < x.nxt.length) (hk : k < x.nxt.length)
    (e : cl.getD i 0 = cl.getD k 0) : sigL x cl i = sigL x cl k := by
  have r := round_ok x cl
  have sl := sigsL_len x cl
  have rl := r.len
  have hs : ∀ v, v < n → v ∈ (roundL x cl).1.map (fun l => l.headD 0) := fun v hv => by
    obtain ⟨i, hi, rfl⟩ := List.getElem_of_mem (hc v hv)
    have a := r.at (i := i) (by omega) (by omega)
    rw [List.mem_map]
    refine ⟨_, List.mem_of_getElem? a, ?_⟩
    simp [sigsL, sigL, hi]
  have a1 := r.at (i := i) (by omega) (by omega)
  have a2 := r.at (i := k) (by omega) (by omega)
  obtain ⟨b1, c1⟩ := List.getElem?_eq_some_iff.1 a1
  obtain ⟨b2, c2⟩ := List.getElem?_eq_some_iff.1 a2
  have := full_inj (l := (roundL x cl).1.map (fun l => l.headD 0)) (by simpa using hn) hs (i := (roundL x cl).2[i]'(by omega)) (k := (roundL x cl).2[k]'(by omega)) (by simpa using b1) (by simpa using b2) (by
    rw [List.getElem_map, List.getElem_map, c1, c2]
    simpa [sigsL, sigL] using e)
  have := (r.same (i := i) (k := k) (by omega) (by omega)).1 this
  simpa [sigsL] using this
/-- The classes at the end are those of the words. -/
theorem round_end {x : Acc} (h : accOK x = true) {cl : List Nat} (p : PartOK x cl) {n : Nat} (hc : Cov cl n) (hn : (roundL x cl).1.length = n) {i k : Nat} (hi : i < x.nxt.length) (hk : k < x.nxt.length) :
    (roundL x cl).2.getD i 0 = (roundL x cl).2.getD k 0 ↔ Eqv x i k := by
  constructor
  · intro e w hw
    refine stable_eqv h (p.round h) (fun i k hi hk e c hc' => ?_) w i k hi hk e hw
    have := ((sigL_eq h hi hk).1 ((round_same h cl hi hk).1 e)).2 c hc'
    exact (round_same h cl (nxA_cast h hi hc').2 (nxA_cast h hk hc').2).2 (round_still h p.len hc hn (nxA_cast h hi hc').2 (nxA_cast h hk hc').2 this)
  · exact (p.round h).low i k hi hk
/-! #### a signature as a key -/
def cb (v : Nat) : List UInt8 := [UInt8.ofNat v, UInt8.ofNat (v >>> 8)]
def keyB (l : List Nat) : List UInt8 := l.flatMap cb
theorem cb_inj {u v : Nat} (hu : u < 65536) (hv : v < 65536) (h : cb u = cb v) : u = v := by
  simp only [cb, List.cons.injEq, and_true] at h
  have h1 := congrArg UInt8.toNat h.1
  have h2 := congrArg UInt8.toNat h.2
  simp only [UInt8.toNat_ofNat', Nat.shiftRight_eq_div_pow] at h1 h2
  omega
theorem keyB_inj : ∀ {l m : List Nat}, (∀ v ∈ l, v < 65536) → (∀ v ∈ m, v < 65536) → keyB l = keyB m → l = m
  | [], [], _, _, _ => rfl
  | [], _ :: _, _, _, h => by simp [keyB, cb] at h
  | _ :: _, [], _, _, h => by simp [keyB, cb] at h
  | u :: l, v :: m, hl, hm, h => by
    have e : cb u ++ keyB l = cb v ++ keyB m := by simpa [keyB] using h
    obtain ⟨e1, e2⟩ := List.append_inj e rfl
    rw [cb_inj (hl u (by simp)) (hm v (by simp)) e1, keyB_inj (fun v hv => hl v (by simp [hv])) (fun v hv => hm v (by simp [hv])) e2]
theorem keyB_snoc (l : List Nat) (v : Nat) : keyB (l ++ [v]) = keyB l ++ cb v := by simp [keyB]
abbrev keyV (l : List Nat) : Value := .string ⟨(keyB l).toArray⟩
def SmN (l : List Nat) : Prop := ∀ v ∈ l, v < 65536
theorem keyV_inj {l m : List Nat} (hl : SmN l) (hm : SmN m) : sameKey (keyV l) (keyV m) = decide (m = l) := by
  simp only [sameKey, keyV]
  rw [decide_eq_decide]
  constructor
  · intro h
    have := congrArg (fun b => b.data.toList) h
    exact (keyB_inj hl hm (by simpa using this)).symm
  · rintro rfl; rfl
theorem idxL_snoc (ks : List (List Nat)) (t u : List Nat) : idxL (ks ++ [t]) u = match idxL ks u with
    | some i => some i
    | none => if t = u then some ks.length else none := by
  unfold idxL
  rw [List.findIdx?_append]
  cases h : List.findIdx? (fun q => q == u) ks with
  | some i => rfl
  | none =>
    simp only [List.findIdx?_cons, List.findIdx?_nil]
    by_cases e : t = u
    · subst e; simp
    · simp [e]
structure MapSK (es : List (Value × DV)) (ks : List (List Nat)) : Prop where
  keys : ∀ p ∈ es, isKey .string p.1 = true
  len : es.length = ks.length
  look : ∀ t, SmN t → lookupL es (keyV t) = (idxL ks t).map (fun i : Nat => DV.v (.int .i64 (i : Int)))
theorem MapSK.nil : MapSK [] [] := ⟨fun p hp => (by cases hp), rfl, fun t _ => rfl⟩
theorem MapSK.add {es : List (Value × DV)} {ks : List (List Nat)} (h : MapSK es ks) {t : List Nat} (ht : SmN t) (hn : idxL ks t = none) :
    MapSK (updL es (keyV t) (.v (.int .i64 ((ks.length : Nat) : Int)))) (ks ++ [t]) where
  keys := updL_keys rfl _ es h.keys
  len := by
    have hl := h.look t ht
    rw [hn] at hl
    rcases lookupL_spec (d := .string) (k := keyV t) rfl es h.keys with ⟨_, _, e⟩ | ⟨j, x, _, e, _⟩
    · rw [e]; simp [h.len]
    · rw [e] at hl; cases hl
  look := fun u hu => by
    rw [lookupL_upd (d0 := .string) rfl rfl _ es h.keys, h.look u hu, idxL_snoc, keyV_inj hu ht]
    by_cases e : t = u
    · subst e
      rw [hn]
      simp
    · rw [decide_eq_false e]
      cases idxL ks u with
      | none => simp [e]
      | some i => simp
end Go.GH
namespace Go.GH
open Go
variable {α β : Type}

inductive Rel2 (r : α → β → Prop) : List α → List β → Prop
  | nil : Rel2 r [] []
  | cons {a : α} {b : β} {l : List α} {m : List β} (h : r a b) (t : Rel2 r l m) : Rel2 r (a :: l) (b :: m)
theorem Rel2.len {r : α → β → Prop} : ∀ {l : List α} {m : List β}, Rel2 r l m → l.length = m.length
  | _, _, .nil => rfl
  | _, _, .cons _ t => by simp [t.len]
theorem Rel2.app {r : α → β → Prop} : ∀ {l : List α} {m : List β} {l' : List α} {m' : List β}, Rel2 r l m → Rel2 r l' m' → Rel2 r (l ++ l') (m ++ m')
  | _, _, _, _, .nil, h => h
  | _, _, _, _, .cons h t, g => .cons h (t.app g)
theorem Rel2.snoc {r : α → β → Prop} {l : List α} {m : List β} {a : α} {b : β} (h : Rel2 r l m) (g : r a b) : Rel2 r (l ++ [a]) (m ++ [b]) := h.app (.cons g .nil)
theorem Rel2.get {r : α → β → Prop} : ∀ {l : List α} {m : List β}, Rel2 r l m → ∀ (i : Nat), (l[i]? = none ∧ m[i]? = none) ∨ ∃ a b, l[i]? = some a ∧ m[i]? = some b ∧ r a b
  | _, _, .nil, i => .inl ⟨rfl, rfl⟩
  | _, _, .cons h t, 0 => .inr ⟨_, _, rfl, rfl, h⟩
  | _, _, .cons h t, i + 1 => t.get i
theorem Rel2.of {r : α → β → Prop} : ∀ {l : List α} {m : List β}, l.length = m.length → (∀ (i : Nat) a b, l[i]? = some a → m[i]? = some b → r a b) → Rel2 r l m
  | [], [], _, _ => .nil
  | [], _ :: _, h, _ => by simp at h
  | _ :: _, [], h, _ => by simp at h
  | a :: l, b :: m, h, g => .cons (g 0 a b rfl rfl) (Rel2.of (by simpa using h) (fun i x y h1 h2 => g (i + 1) x y h1 h2))
theorem Rel2.refl {r : α → α → Prop} : ∀ {l : List α}, (∀ a ∈ l, r a a) → Rel2 r l l
  | [], _ => .nil
  | a :: l, h => .cons (h a (by simp)) (Rel2.refl (fun b hb => h b (by simp [hb])))

def idxE (eq : α → α → Bool) (qs : List α) (t : α) : Option Nat := qs.findIdx? (fun q => eq q t)
def rowE (eq : α → α → Bool) : List α → List α → List Nat → List α × List Nat
  | [], qs, row => (qs, row)
  | t :: ts, qs, row => match idxE eq qs t with
    | some n => rowE eq ts qs (row ++ [n])
    | none => rowE eq ts (qs ++ [t]) (row ++ [qs.length])
theorem rowE_some {eq : α → α → Bool} {t : α} {ts qs : List α} {row : List Nat} {n : Nat} (h : idxE eq qs t = some n) : rowE eq (t :: ts) qs row = rowE eq ts qs (row ++ [n]) := by simp only [rowE, h]
theorem rowE_none {eq : α → α → Bool} {t : α} {ts qs : List α} {row : List Nat} (h : idxE eq qs t = none) : rowE eq (t :: ts) qs row = rowE eq ts (qs ++ [t]) (row ++ [qs.length]) := by simp only [rowE, h]
def minE (eq : α → α → Bool) (nx : α → List α) (fin : α → Bool) : Nat → Nat → List α → List Bool → List (List Nat) → List α × List Bool × List (List Nat)
  | 0, _, qs, fins, nxt => (qs, fins, nxt)
  | f + 1, i, qs, fins, nxt => match qs[i]? with
    | none => (qs, fins, nxt)
    | some q => minE eq nx fin f (i + 1) (rowE eq (nx q) qs []).1 (fins ++ [fin q]) (nxt ++ [(rowE eq (nx q) qs []).2])
theorem minE_some {eq : α → α → Bool} {nx : α → List α} {fin : α → Bool} {f i : Nat} {qs : List α} {fins : List Bool} {nxt : List (List Nat)} (h : i < qs.length) :
    minE eq nx fin (f + 1) i qs fins nxt = minE eq nx fin f (i + 1) (rowE eq (nx qs[i]) qs []).1 (fins ++ [fin qs[i]]) (nxt ++ [(rowE eq (nx qs[i]) qs []).2]) := by
  simp only [minE, List.getElem?_eq_getElem h]
theorem minE_none {eq : α → α → Bool} {nx : α → List α} {fin : α → Bool} {i : Nat} {qs : List α} {fins : List Bool} {nxt : List (List Nat)} (h : qs.length ≤ i) (f : Nat) : minE eq nx fin f i qs fins nxt = (qs, fins, nxt) := by
  cases f with
  | zero => rfl
  | succ f => simp only [minE, List.getElem?_eq_none h]

/-! #### two searches that run alike -/
section
variable {r : α → β → Prop} {eq : α → α → Bool} {eq' : β → β → Bool}
theorem idxE_sim (hr : ∀ a b a' b', r a b → r a' b' → eq a a' = eq' b b') {t : α} {t' : β} (ht : r t t') : ∀ {qs : List α} {qs' : List β}, Rel2 r qs qs' → idxE eq qs t = idxE eq' qs' t'
  | _, _, .nil => rfl
  | _, _, .cons h g => by
    have := idxE_sim hr ht g
    simp only [idxE] at this
    simp only [idxE, List.findIdx?_cons, hr _ _ _ _ h ht, this]
theorem rowE_sim (hr : ∀ a b a' b', r a b → r a' b' → eq a a' = eq' b b') : ∀ {ts : List α} {ts' : List β}, Rel2 r ts ts' → ∀ {qs : List α} {qs' : List β}, Rel2 r qs qs' → ∀ (row : List Nat),
    (rowE eq ts qs row).2 = (rowE eq' ts' qs' row).2 ∧ Rel2 r (rowE eq ts qs row).1 (rowE eq' ts' qs' row).1
  | _, _, .nil, _, _, hq, row => ⟨rfl, hq⟩
  | _, _, .cons (a := a) (b := b) h g, qs, qs', hq, row => by
    have e := idxE_sim hr h hq
    cases hi : idxE eq qs a with
    | some n => rw [rowE_some hi, rowE_some (e ▸ hi)]; exact rowE_sim hr g hq _
    | none => rw [rowE_none hi, rowE_none (e ▸ hi), hq.len]; exact rowE_sim hr g (hq.snoc h) _
theorem minE_sim {nx : α → List α} {nx' : β → List β} {fin : α → Bool} {fin' : β → Bool} (hr : ∀ a b a' b', r a b → r a' b' → eq a a' = eq' b b') (hn : ∀ a b, r a b → Rel2 r (nx a) (nx' b)) (hf : ∀ a b, r a b → fin a = fin' b) :
    ∀ (f i : Nat) {qs : List α} {qs' : List β}, Rel2 r qs qs' → ∀ (fins : List Bool) (nxt : List (List Nat)), (minE eq nx fin f i qs fins nxt).2 = (minE eq' nx' fin' f i qs' fins nxt).2
  | 0, i, _, _, h, fins, nxt => rfl
  | f + 1, i, qs, qs', h, fins, nxt => by
    rcases h.get i with ⟨h1, h2⟩ | ⟨a, b, h1, h2, h3⟩
    · simp only [minE, h1, h2]
    · simp only [minE, h1, h2]
      obtain ⟨e1, e2⟩ := rowE_sim hr (hn a b h3) h []
      rw [e1, hf a b h3]
      exact minE_sim hr hn hf f (i + 1) e2 _ _
end

/-! #### what a search has found -/
theorem idxE_some {eq : α → α → Bool} {qs : List α} {t : α} {n : Nat} (h : idxE eq qs t = some n) : ∃ q, qs[n]? = some q ∧ eq q t = true := by
  obtain ⟨h1, h2, _⟩ := List.findIdx?_eq_some_iff_getElem.1 h
  exact ⟨qs[n], List.getElem?_eq_getElem h1, h2⟩
theorem idxE_none {eq : α → α → Bool} {qs : List α} {t : α} (h : idxE eq qs t = none) : ∀ q ∈ qs, eq q t = false := by
  have := List.findIdx?_eq_none_iff.1 h
  exact fun q hq => by simpa using this q hq
def PWE (eq : α → α → Bool) (qs : List α) : Prop := qs.Pairwise (fun a b => eq a b = false)
/-- The entries es name, within qs, equals of the targets ts. -/
def RowOK (eq : α → α → Bool) (qs : List α) (ts : List α) (es : List Nat) : Prop := es.length = ts.length ∧ ∀ (c : Nat) k t, es[c]? = some k → ts[c]? = some t → ∃ q, qs[k]? = some q ∧ eq q t = true
theorem RowOK.more {eq : α → α → Bool} {qs ts : List α} {es : List Nat} (h : RowOK eq qs ts es) (ns : List α) : RowOK eq (qs ++ ns) ts es :=
  ⟨h.1, fun c k t h1 h2 => by
    obtain ⟨q, h3, h4⟩ := h.2 c k t h1 h2
    exact ⟨q, by rw [List.getElem?_append_left (List.getElem?_eq_some_iff.1 h3).1]; exact h3, h4⟩⟩
theorem rowE_ok {eq : α → α → Bool} : ∀ (ts qs : List α) (row : List Nat), (∀ t ∈ ts, eq t t = true) → ∃ ns es, rowE eq ts qs row = (qs ++ ns, row ++ es) ∧ RowOK eq (qs ++ ns) ts es ∧ (∀ q ∈ ns, q ∈ ts) ∧ (PWE eq qs → PWE eq (qs ++ ns))
  | [], qs, row, _ => ⟨[], [], by simp [rowE], ⟨rfl, fun c k t h1 h2 => by simp at h1⟩, by simp, by simp⟩
  | t :: ts, qs, row, hr => by
    cases hi : idxE eq qs t with
    | some n =>
      obtain ⟨ns, es, e, ho, hm, hp⟩ := rowE_ok ts qs (row ++ [n]) (fun u hu => hr u (by simp [hu]))
      refine ⟨ns, n :: es, by rw [rowE_some hi, e]; simp, ⟨by simp [ho.1], fun c k u h1 h2 => ?_⟩, fun q hq => by simp [hm q hq], hp⟩
      cases c with
      | zero =>
        simp only [List.getElem?_cons_zero, Option.some.injEq] at h1 h2
        subst h1; subst h2
        obtain ⟨q, h3, h4⟩ := idxE_some hi
        exact ⟨q, by rw [List.getElem?_append_left (List.getElem?_eq_some_iff.1 h3).1]; exact h3, h4⟩
      | succ c => exact ho.2 c k u (by simpa using h1) (by simpa using h2)
    | none =>
      obtain ⟨ns, es, e, ho, hm, hp⟩ := rowE_ok ts (qs ++ [t]) (row ++ [qs.length]) (fun u hu => hr u (by simp [hu]))
      refine ⟨t :: ns, qs.length :: es, by rw [rowE_none hi, e]; simp, ⟨by simp [ho.1], fun c k u h1 h2 => ?_⟩, fun q hq => ?_, fun h => ?_⟩
      · cases c with
        | zero =>
          simp only [List.getElem?_cons_zero, Option.some.injEq] at h1 h2
          subst h1; subst h2
          exact ⟨t, by simp, hr t (by simp)⟩
        | succ c =>
          obtain ⟨q, h3, h4⟩ := ho.2 c k u (by simpa using h1) (by simpa using h2)
          exact ⟨q, by simpa using h3, h4⟩
      · rcases List.mem_cons.1 hq with rfl | hq
        · simp
        · simp [hm q hq]
      · have : PWE eq (qs ++ [t]) := by
          unfold PWE
          rw [List.pairwise_append]
          exact ⟨h, by simp, fun a ha b hb => by rw [List.mem_singleton] at hb; subst hb; exact idxE_none hi a ha⟩
        simpa using hp this
structure EqG (eq : α → α → Bool) (nx : α → List α) (fin : α → Bool) (good : α → Prop) (m N : Nat) : Prop where
  refl : ∀ a, good a → eq a a = true
  trans : ∀ a b c, good a → good b → good c → eq a b = true → eq b c = true → eq a c = true
  len : ∀ a, good a → (nx a).length = m
  step : ∀ a, good a → ∀ t ∈ nx a, good t
  cong : ∀ a b (c : Nat) s t, good a → good b → eq a b = true → (nx a)[c]? = some s → (nx b)[c]? = some t → eq s t = true
  fin : ∀ a b, good a → good b → eq a b = true → fin a = fin b
  bnd : ∀ l, PWE eq l → (∀ q ∈ l, good q) → l.length ≤ N
structure RunOK (eq : α → α → Bool) (nx : α → List α) (fin : α → Bool) (good : α → Prop) (i : Nat) (qs : List α) (fins : List Bool) (nxt : List (List Nat)) : Prop where
  le : i ≤ qs.length
  pw : PWE eq qs
  good : ∀ q ∈ qs, good q
  fins : fins = (qs.take i).map fin
  len : nxt.length = i
  rows : ∀ (j : Nat) q row, nxt[j]? = some row → qs[j]? = some q → RowOK eq qs (nx q) row
theorem EqG.run {eq : α → α → Bool} {nx : α → List α} {fin : α → Bool} {good : α → Prop} {m N : Nat} (g : EqG eq nx fin good m N) : ∀ (f i : Nat) (qs : List α) (fins : List Bool) (nxt : List (List Nat)),
    RunOK eq nx fin good i qs fins nxt → N < f + i → ∃ ns F X, minE eq nx fin f i qs fins nxt = (qs ++ ns, F, X) ∧ RunOK eq nx fin good (qs ++ ns).length (qs ++ ns) F X
  | 0, i, qs, fins, nxt, h, hN => by have := g.bnd qs h.pw h.good; have := h.le; omega
  | f + 1, i, qs, fins, nxt, h, hN => by
    rcases Nat.lt_or_ge i qs.length with hi | hi
    · have hq := h.good _ (List.getElem_mem hi)
      obtain ⟨ns, es, e, ho, hm, hp⟩ := rowE_ok (nx qs[i]) qs [] (fun t ht => g.refl t (g.step _ hq t ht))
      have ho' : RunOK eq nx fin good (i + 1) (qs ++ ns) (fins ++ [fin qs[i]]) (nxt ++ [es]) := {
        le := by simp; omega
        pw := hp h.pw
        good := fun q hq' => by
          rcases List.mem_append.1 hq' with h1 | h1
          · exact h.good q h1
          · exact g.step _ hq q (hm q h1)
        fins := by
          rw [h.fins, List.take_append_of_le_length (show i + 1 ≤ qs.length by omega), List.take_add_one, List.getElem?_eq_getElem hi, List.map_append]
          rfl
        len := by simp [h.len]
        rows := fun j q row h1 h2 => by
          by_cases hj : j < nxt.length
          · rw [List.getElem?_append_left hj] at h1
            rw [List.getElem?_append_left (by have := h.len; omega)] at h2
            exact (h.rows j q row h1 h2).more ns
          · have hj2 : j = nxt.length := by
              have := (List.getElem?_eq_some_iff.1 h1).1
              simp at this; omega
            subst hj2
            rw [List.getElem?_concat_length] at h1
            obtain rfl := Option.some.inj h1
            rw [h.len, List.getElem?_append_left hi, List.getElem?_eq_getElem hi] at h2
            obtain rfl := Option.some.inj h2
            exact ho }
      obtain ⟨ns', F, X, e', h'⟩ := EqG.run g f (i + 1) _ _ _ ho' (by omega)
      rw [List.append_assoc] at e' h'
      exact ⟨ns ++ ns', F, X, by rw [minE_some hi, e, List.nil_append, e'], h'⟩
    · have : i = qs.length := by have := h.le; omega
      subst this
      exact ⟨[], fins, nxt, by rw [minE_none hi, List.append_nil], by rw [List.append_nil]; exact h⟩
theorem EqG.start {eq : α → α → Bool} {nx : α → List α} {fin : α → Bool} {good : α → Prop} {m N : Nat} (g : EqG eq nx fin good m N) {s : α} (hs : good s) {f : Nat} (hf : N < f) :
    ∃ ns F X, minE eq nx fin f 0 [s] [] [] = (s :: ns, F, X) ∧ RunOK eq nx fin good (s :: ns).length (s :: ns) F X :=
  g.run f 0 [s] [] [] ⟨by simp, by simp [PWE], by simpa using hs, by simp, rfl, fun j q row h => by simp at h⟩ (by omega)
def castT (t : List (List Nat)) : List (List Int) := t.map (fun l => l.map (fun (n : Nat) => (n : Int)))
def runG (nx : α → List α) (s : α) (w : List Nat) : α := w.foldl (fun q c => (nx q).getD c q) s
theorem castT_row {X : List (List Nat)} {j : Nat} {row : List Nat} (h : X[j]? = some row) : (castT X).getD j [] = row.map (fun (n : Nat) => (n : Int)) := by
  unfold castT; rw [List.getD_eq_getElem?_getD, List.getElem?_map, h]; rfl
/-- The acceptor that a search has numbered runs as the states do. -/
theorem RunOK.runA {eq : α → α → Bool} {nx : α → List α} {fin : α → Bool} {good : α → Prop} {m N : Nat} (g : EqG eq nx fin good m N) {Q : List α} {F : List Bool} {X : List (List Nat)} (h : RunOK eq nx fin good Q.length Q F X) :
    ∀ (w : List Nat) (i : Nat) (q s : α), (∀ c ∈ w, c < m) → Q[i]? = some q → good s → eq q s = true →
      ∃ k q', runA ⟨0, F, castT X⟩ i w = ((k : Nat) : Int) ∧ Q[k]? = some q' ∧ good (runG nx s w) ∧ eq q' (runG nx s w) = true
  | [], i, q, s, _, hq, hs, he => ⟨i, q, rfl, hq, hs, he⟩
  | c :: w, i, q, s, hw, hq, hs, he => by
    have hc := hw c (by simp)
    have gq := h.good q (List.mem_of_getElem? hq)
    have hi := (List.getElem?_eq_some_iff.1 hq).1
    have hX : i < X.length := by rw [h.len]; exact hi
    have ho := h.rows i q _ (List.getElem?_eq_getElem hX) hq
    have hl := ho.1
    rw [g.len q gq] at hl
    have hls := g.len s hs
    have hlq := g.len q gq
    obtain ⟨q', h1, h2⟩ := ho.2 c _ _ (List.getElem?_eq_getElem (by omega)) (List.getElem?_eq_getElem (show c < (nx q).length by omega))
    have gt := g.step q gq _ (List.getElem_mem (show c < (nx q).length by omega))
    have gs := g.step s hs _ (List.getElem_mem (show c < (nx s).length by omega))
    have gq' := h.good q' (List.mem_of_getElem? h1)
    have h3 := g.cong q s c _ _ gq hs he (List.getElem?_eq_getElem (show c < (nx q).length by omega)) (List.getElem?_eq_getElem (show c < (nx s).length by omega))
    have := RunOK.runA g h w (X[i][c]'(by omega)) q' ((nx s)[c]) (fun d hd => hw d (by simp [hd])) h1 gs (g.trans _ _ _ gq' gt gs h2 h3)
    rw [runA_cons]
    have e1 : (castT X).getD ((i : Int)).toNat [] = (X[i]).map (fun (n : Nat) => (n : Int)) := castT_row (List.getElem?_eq_getElem hX)
    have e2 : ((X[i]).map (fun (n : Nat) => (n : Int))).getD c 0 = ((X[i][c]'(by omega) : Nat) : Int) := by rw [List.getD_eq_getElem?_getD, List.getElem?_map, List.getElem?_eq_getElem (by omega)]; rfl
    rw [e1, e2]
    have e3 : runG nx s (c :: w) = runG nx ((nx s)[c]) w := by
      show runG nx ((nx s).getD c s) w = _
      rw [getD_at (by omega)]
    rw [e3]
    exact this
theorem RunOK.accepts {eq : α → α → Bool} {nx : α → List α} {fin : α → Bool} {good : α → Prop} {m N : Nat} (g : EqG eq nx fin good m N) {s : α} {ns : List α} {F : List Bool} {X : List (List Nat)} (h : RunOK eq nx fin good (s :: ns).length (s :: ns) F X) {w : List Nat} (hw : ∀ c ∈ w, c < m) :
    finA ⟨0, F, castT X⟩ (Go.GH.runA ⟨0, F, castT X⟩ 0 w) = fin (runG nx s w) := by
  have hs := h.good s (by simp)
  obtain ⟨k, q', h1, h2, h3, h4⟩ := RunOK.runA g h w 0 s s hw rfl hs (g.refl s hs)
  have h1' : Go.GH.runA ⟨0, F, castT X⟩ 0 w = ((k : Nat) : Int) := h1
  rw [h1', finA, Int.toNat_natCast, h.fins, List.getD_eq_getElem?_getD, List.getElem?_map, List.take_length, h2]
  exact g.fin _ _ (h.good q' (List.mem_of_getElem? h2)) h3 h4
theorem RunOK.accOK {eq : α → α → Bool} {nx : α → List α} {fin : α → Bool} {good : α → Prop} {m N : Nat} (g : EqG eq nx fin good m N) {s : α} {ns : List α} {F : List Bool} {X : List (List Nat)} (h : RunOK eq nx fin good (s :: ns).length (s :: ns) F X) (hN : N ≤ 512) :
    accOK ⟨0, F, castT X⟩ = true ∧ widthA ⟨0, F, castT X⟩ = m := by
  have hb := g.bnd _ h.pw h.good
  have hl := h.len
  have hlen : (castT X).length = X.length := by simp [castT]
  have hfl : F.length = (s :: ns).length := by rw [h.fins]; simp
  have rows : ∀ row ∈ X, row.length = m ∧ ∀ k ∈ row, k < X.length := fun row hr => by
    obtain ⟨j, hj⟩ := List.mem_iff_getElem?.1 hr
    have hjl := (List.getElem?_eq_some_iff.1 hj).1
    have hq := List.getElem?_eq_getElem (show j < (s :: ns).length by omega)
    have ho := h.rows j _ row hj hq
    have gq := h.good _ (List.mem_of_getElem? hq)
    refine ⟨by rw [ho.1, g.len _ gq], fun k hk => ?_⟩
    obtain ⟨c, hc⟩ := List.mem_iff_getElem?.1 hk
    have hcl := (List.getElem?_eq_some_iff.1 hc).1
    obtain ⟨q', h1, _⟩ := ho.2 c k _ hc (List.getElem?_eq_getElem (show c < (nx _).length by rw [← ho.1]; exact hcl))
    rw [hl]
    exact (List.getElem?_eq_some_iff.1 h1).1
  have hw : widthA ⟨0, F, castT X⟩ = m := by
    cases X with
    | nil => simp at hl
    | cons r l => simp [widthA, castT, (rows r (by simp)).1]
  refine ⟨?_, hw⟩
  rw [Go.GH.accOK, Bool.and_eq_true, headOK_iff, hw]
  simp only [hlen]
  refine ⟨⟨by rw [hl]; simp, by omega, by omega, Int.le_refl _, by rw [hl]; simp⟩, ?_⟩
  rw [List.all_eq_true]
  intro l hlm
  simp only [castT, List.mem_map] at hlm
  obtain ⟨row, hr, rfl⟩ := hlm
  rw [rowOK_iff]
  refine ⟨by simp [(rows row hr).1], fun t ht => ?_⟩
  obtain ⟨k, hk, rfl⟩ := List.mem_map.1 ht
  have := (rows row hr).2 k hk
  omega
end Go.GH
namespace Go.GH
open Go

def initC (x : Acc) : List Nat := x.fin.map (fun b => if b then 1 else 0)
theorem initC_at {x : Acc} (h : accOK x = true) {i : Nat} (hi : i < x.nxt.length) : (initC x).getD i 0 = if finA x i then 1 else 0 := by
  simp only [accOK, Bool.and_eq_true, headOK_iff] at h
  have hf : i < x.fin.length := by omega
  unfold initC finA
  rw [List.getD_eq_getElem?_getD, List.getElem?_map, List.getD_eq_getElem?_getD, Int.toNat_natCast, List.getElem?_eq_getElem hf]
  rfl
theorem initC_part {x : Acc} (h : accOK x = true) : PartOK x (initC x) where
  len := by
    simp only [accOK, Bool.and_eq_true, headOK_iff] at h
    simp [initC]; omega
  low := fun i k hi hk e => by
    have := e [] (by simp)
    simp only [runA, List.foldl_nil] at this
    rw [initC_at h hi, initC_at h hk, this]
  fin := fun i k hi hk e => by
    rw [initC_at h hi, initC_at h hk] at e
    revert e
    cases finA x i <;> cases finA x k <;> simp
theorem clsF_end {x : Acc} (h : accOK x = true) : ∀ (f n : Nat) (cl : List Nat), PartOK x cl → Cov cl n → x.nxt.length < f + n →
    (∀ i k, i < x.nxt.length → k < x.nxt.length → ((clsF x f n cl).getD i 0 = (clsF x f n cl).getD k 0 ↔ Eqv x i k)) ∧ (clsF x f n cl).length = x.nxt.length
  | 0, n, cl, p, hc, hf => by
    have := pigeon (List.nodup_range (n := n)) (fun v hv => hc v (by simpa using hv))
    rw [List.length_range, p.len] at this
    omega
  | f + 1, n, cl, p, hc, hf => by
    unfold clsF
    split
    · rename_i hn
      exact ⟨fun i k hi hk => round_end h p hc hn hi hk, (p.round h).len⟩
    · rename_i hn
      have := round_grow p.len hc
      exact clsF_end h f _ _ (p.round h) (round_ok x cl).cov (by omega)
def clsR (x : Acc) : List Nat := clsF x (x.nxt.length + 1) 0 (initC x)
theorem clsR_iff {x : Acc} (h : accOK x = true) {i k : Nat} (hi : i < x.nxt.length) (hk : k < x.nxt.length) : (clsR x).getD i 0 = (clsR x).getD k 0 ↔ Eqv x i k :=
  (clsF_end h _ 0 _ (initC_part h) (fun v hv => by omega) (by omega)).1 i k hi hk
theorem clsR_len {x : Acc} (h : accOK x = true) : (clsR x).length = x.nxt.length :=
  (clsF_end h _ 0 _ (initC_part h) (fun v hv => by omega) (by omega)).2
def eqC (cl : List Nat) (i k : Nat) : Bool := cl.getD i 0 == cl.getD k 0
def nxL (x : Acc) (i : Nat) : List Nat := (x.nxt.getD i []).map Int.toNat
abbrev finN (x : Acc) (i : Nat) : Bool := finA x (i : Int)
theorem nxL_at {x : Acc} {i c : Nat} : (nxL x i)[c]? = ((x.nxt.getD i [])[c]?).map Int.toNat := by simp [nxL]
theorem eqC_iff {x : Acc} (h : accOK x = true) {i k : Nat} (hi : i < x.nxt.length) (hk : k < x.nxt.length) : eqC (clsR x) i k = true ↔ Eqv x i k := by
  rw [eqC, beq_iff_eq, clsR_iff h hi hk]
theorem nxL_len {x : Acc} (h : accOK x = true) {i : Nat} (hi : i < x.nxt.length) : (nxL x i).length = widthA x := by
  simp only [nxL, List.length_map, getD_at hi]; exact (accOK_row h hi).1
theorem nxL_nx {x : Acc} {i c s : Nat} (h : (nxL x i)[c]? = some s) : s = nxA x i c := by
  rw [nxL_at] at h
  cases e : (x.nxt.getD i [])[c]? with
  | none => rw [e] at h; cases h
  | some t => rw [e] at h; simp only [Option.map_some, Option.some.injEq] at h; rw [nxA, List.getD_eq_getElem?_getD (l := x.nxt.getD i []), e]; exact h.symm
theorem minEqG {x : Acc} (h : accOK x = true) : EqG (eqC (clsR x)) (nxL x) (finN x) (· < x.nxt.length) (widthA x) 512 where
  refl := fun a _ => by simp [eqC]
  trans := fun a b c _ _ _ h1 h2 => by simp only [eqC, beq_iff_eq] at *; omega
  len := fun a ha => nxL_len h ha
  step := fun a ha t ht => by
    obtain ⟨c, hc⟩ := List.mem_iff_getElem?.1 ht
    have hl := (List.getElem?_eq_some_iff.1 hc).1
    rw [nxL_len h ha] at hl
    rw [nxL_nx hc]
    exact (nxA_cast h ha hl).2
  cong := fun a b c s t ha hb e h1 h2 => by
    have hl := (List.getElem?_eq_some_iff.1 h1).1
    rw [nxL_len h ha] at hl
    rw [nxL_nx h1, nxL_nx h2]
    exact (eqC_iff h (nxA_cast h ha hl).2 (nxA_cast h hb hl).2).2 (((eqC_iff h ha hb).1 e).step h ha hb hl)
  fin := fun a b ha hb e => ((eqC_iff h ha hb).1 e) [] (by simp)
  bnd := fun l hp hg => by
    have hn : l.Nodup := hp.imp (fun {a b} hab e => by subst e; simp [eqC] at hab)
    have := nodup_le x.nxt.length l hn hg
    simp only [accOK, Bool.and_eq_true, headOK_iff] at h
    omega
def minRun (x : Acc) : List Nat × List Bool × List (List Nat) := minE (eqC (clsR x)) (nxL x) (finN x) 513 0 [x.start.toNat] [] []
def minA (x : Acc) : Acc := ⟨0, (minRun x).2.1, castT (minRun x).2.2⟩
theorem start_lt {x : Acc} (h : accOK x = true) : x.start.toNat < x.nxt.length ∧ ((x.start.toNat : Nat) : Int) = x.start := by
  simp only [accOK, Bool.and_eq_true, headOK_iff] at h
  omega
theorem runG_run {x : Acc} (h : accOK x = true) : ∀ (w : List Nat) (s : Nat), s < x.nxt.length → (∀ c ∈ w, c < widthA x) → runA x s w = ((runG (nxL x) s w : Nat) : Int)
  | [], s, _, _ => rfl
  | c :: w, s, hs, hw => by
    have hc := hw c (by simp)
    have hl := nxL_len h hs
    rw [runA_cons, Int.toNat_natCast, ← (nxA_cast h hs hc).1]
    have : runG (nxL x) s (c :: w) = runG (nxL x) (nxA x s c) w := by
      show runG (nxL x) ((nxL x s).getD c s) w = _
      rw [getD_at (show c < (nxL x s).length by omega), ← nxL_nx (List.getElem?_eq_getElem (show c < (nxL x s).length by omega))]
    rw [this]
    exact runG_run h w _ (nxA_cast h hs hc).2 (fun d hd => hw d (by simp [hd]))
theorem minRun_ok {x : Acc} (h : accOK x = true) : ∃ ns, minRun x = (x.start.toNat :: ns, (minRun x).2.1, (minRun x).2.2) ∧ RunOK (eqC (clsR x)) (nxL x) (finN x) (· < x.nxt.length) (x.start.toNat :: ns).length (x.start.toNat :: ns) (minRun x).2.1 (minRun x).2.2 := by
  obtain ⟨ns, F, X, e, ho⟩ := (minEqG h).start (start_lt h).1 (f := 513) (by omega)
  have e' : minRun x = (x.start.toNat :: ns, F, X) := e
  refine ⟨ns, by rw [e'], by rw [e']; exact ho⟩
theorem minA_ok {x : Acc} (h : accOK x = true) : accOK (minA x) = true ∧ widthA (minA x) = widthA x := by
  obtain ⟨ns, _, ho⟩ := minRun_ok h
  exact ho.accOK (minEqG h) (Nat.le_refl _)
theorem minA_run {x : Acc} (h : accOK x = true) {w : List Nat} (hw : ∀ c ∈ w, c < widthA x) : finA (minA x) (runA (minA x) 0 w) = finA x (runA x x.start w) := by
  obtain ⟨ns, _, ho⟩ := minRun_ok h
  have := ho.accepts (minEqG h) hw
  rw [show finA x (runA x x.start w) = finN x (runG (nxL x) x.start.toNat w) by rw [finN, ← runG_run h w _ (start_lt h).1 hw, (start_lt h).2]]
  exact this
theorem minA_len {x : Acc} (h : accOK x = true) : (minA x).nxt.length ≤ x.nxt.length := by
  obtain ⟨ns, _, ho⟩ := minRun_ok h
  have hn : (x.start.toNat :: ns).Nodup := ho.pw.imp (fun {a b} hab e => by subst e; simp [eqC] at hab)
  have := nodup_le x.nxt.length _ hn ho.good
  have hl := ho.len
  simp only [minA, castT, List.length_map]
  omega
/-- Acceptors of the same strings have one smallest acceptor. -/
theorem minA_canon {x y : Acc} (hx : accOK x = true) (hy : accOK y = true) (hw : widthA x = widthA y) (hl : ∀ w, (∀ c ∈ w, c < widthA x) → finA x (runA x x.start w) = finA y (runA y y.start w)) : minA x = minA y := by
  have key : (minRun x).2 = (minRun y).2 := by
    refine minE_sim (r := fun i k => i < x.nxt.length ∧ k < y.nxt.length ∧ ∀ w, (∀ c ∈ w, c < widthA x) → finA x (runA x i w) = finA y (runA y k w)) ?_ ?_ ?_ 513 0 (.cons ⟨(start_lt hx).1, (start_lt hy).1, ?_⟩ .nil) [] []
    · intro a b a' b' h1 h2
      rw [Bool.eq_iff_iff, eqC_iff hx h1.1 h2.1, eqC_iff hy h1.2.1 h2.2.1]
      constructor
      · intro e w hww
        rw [← hw] at hww
        rw [← h1.2.2 w hww, ← h2.2.2 w hww]
        exact e w hww
      · intro e w hww
        rw [h1.2.2 w hww, h2.2.2 w hww]
        exact e w (by rw [← hw]; exact hww)
    · intro a b h
      refine Rel2.of (by rw [nxL_len hx h.1, nxL_len hy h.2.1, hw]) (fun c s t h1 h2 => ?_)
      have hc := (List.getElem?_eq_some_iff.1 h1).1
      rw [nxL_len hx h.1] at hc
      rw [nxL_nx h1, nxL_nx h2]
      refine ⟨(nxA_cast hx h.1 hc).2, (nxA_cast hy h.2.1 (by omega)).2, fun w hww => ?_⟩
      have := h.2.2 (c :: w) (fun d hd => by rcases List.mem_cons.1 hd with rfl | hd; exact hc; exact hww d hd)
      rw [runA_cons, runA_cons] at this
      rw [(nxA_cast hx h.1 hc).1, (nxA_cast hy h.2.1 (by omega)).1]
      simpa using this
    · intro a b h
      exact h.2.2 [] (by simp)
    · intro w hww
      rw [(start_lt hx).2, (start_lt hy).2]
      exact hl w hww
  unfold minA
  rw [key]
theorem minA_idem {x : Acc} (h : accOK x = true) : minA (minA x) = minA x :=
  minA_canon (minA_ok h).1 h (minA_ok h).2 (fun w hw => by
    rw [(minA_ok h).2] at hw
    exact minA_run h hw)
/-- What tells two states apart, found by filling a table: each entry is earned, and nothing more is to be earned. -/
structure TabOK (x : Acc) (T : Nat → Nat → Bool) : Prop where
  init : ∀ i k, i < x.nxt.length → k < x.nxt.length → finN x i ≠ finN x k → T i k = true
  earned : ∀ i k, i < x.nxt.length → k < x.nxt.length → T i k = true → ¬ Eqv x i k
theorem TabOK.iff {x : Acc} (h : accOK x = true) {T : Nat → Nat → Bool} (t : TabOK x T) (hc : ∀ i k c, i < x.nxt.length → k < x.nxt.length → c < widthA x → T (nxA x i c) (nxA x k c) = true → T i k = true) {i k : Nat} (hi : i < x.nxt.length) (hk : k < x.nxt.length) :
    T i k = true ↔ ¬ Eqv x i k := by
  refine ⟨t.earned i k hi hk, fun hn => ?_⟩
  refine Decidable.byContradiction fun hT => hn ?_
  have key : ∀ (w : List Nat) (i k : Nat), i < x.nxt.length → k < x.nxt.length → T i k ≠ true → (∀ c ∈ w, c < widthA x) → finA x (runA x i w) = finA x (runA x k w) := by
    intro w
    induction w with
    | nil => intro i k hi hk hT _; exact Decidable.byContradiction fun e => hT (t.init i k hi hk e)
    | cons c w ih =>
      intro i k hi hk hT hw
      have hcw := hw c (by simp)
      rw [runA_cons, runA_cons, Int.toNat_natCast, Int.toNat_natCast, ← (nxA_cast h hi hcw).1, ← (nxA_cast h hk hcw).1]
      exact ih _ _ (nxA_cast h hi hcw).2 (nxA_cast h hk hcw).2 (fun e => hT (hc i k c hi hk hcw e)) (fun d hd => hw d (by simp [hd]))
  exact fun w hw => key w i k hi hk hT hw
end Go.GH
namespace Go.GH
open Go
variable {C : Ctx} {ops : Array Oper} {st : St} {rest : List Oper} {R : St → Prop} {t : Tmp} {ty : TypeId} {pos : String} {aft : Array Edge} {g : Option (Nat × Bool)}

theorem SOps.shr8 {T T2 : TypeId} {xo yo : Operand} {s : Nat} (hx : st.val xo = some (.v (.int .i64 (s : Int)))) (hy : st.val yo = some (.v (.int .u64 8))) (hs : s < 9223372036854775808)
    (hrest : SOps C ops rest (st.put t (.v (.int .i64 ((s >>> 8 : Nat) : Int)))) R)
    (hg : st.wants ops g = some true := by rfl) (ht : Nat.blt t st.n = true := by rfl) : SOps C ops (⟨some t, .binOp .shr T xo yo T2, ty, pos, aft, g⟩ :: rest) st R := by
  have e : ((s : Int)).fdiv (2 ^ min ((8 : Int)).toNat IntKind.i64.bits) = ((s >>> 8 : Nat) : Int) := by
    rw [show (2 : Int) ^ min ((8 : Int)).toNat IntKind.i64.bits = ((2 ^ 8 : Nat) : Int) from by decide, Int.fdiv_eq_ediv_of_nonneg _ (Int.natCast_nonneg _), Nat.shiftRight_eq_div_pow]
    exact (Int.natCast_ediv _ _).symm
  refine SOps.shrI hx hy (by decide) ?_ ?_ hg ht
  · rw [e]
    have : s >>> 8 ≤ s := by rw [Nat.shiftRight_eq_div_pow]; exact Nat.div_le_self ..
    exact has_i64 (by omega) (by omega)
  · rw [e]; exact hrest
theorem u8_wrap_nat (n : Nat) : IntKind.u8.wrap (n : Int) = (((UInt8.ofNat n).toNat : Nat) : Int) := by
  simp [IntKind.wrap, IntKind.bits, IntKind.signed]
theorem SOps.lowByte {src dst : TypeId} {xo : Operand} {k : IntKind} {n : Nat} (hx : st.val xo = some (.v (.int k (n : Int)))) (hs' : (C.P.underlying src).isSome = true) (hT : intB C.P dst .u8 = true) (hrest : SOps C ops rest (st.put t (.v (.int .u8 (((UInt8.ofNat n).toNat : Nat) : Int)))) R)
    (hg : st.wants ops g = some true := by rfl) (ht : Nat.blt t st.n = true := by rfl) : SOps C ops (⟨some t, .convert src dst xo, ty, pos, aft, g⟩ :: rest) st R :=
  SOps.convInt hx hs' hT (by rw [u8_wrap_nat]; exact hrest) hg ht
end Go.GH
namespace Go.GH
open Go

def rowZ (l : List Nat) (j : Nat) : List Nat := l.take j ++ List.replicate (l.length - j) 0
theorem rowZ_zero (l : List Nat) : rowZ l 0 = List.replicate l.length 0 := by simp [rowZ]
theorem rowZ_len {l : List Nat} {j : Nat} (h : j ≤ l.length) : (rowZ l j).length = l.length := by simp [rowZ]; omega
theorem rowZ_full (l : List Nat) : rowZ l l.length = l := by simp [rowZ]
theorem rowZ_set {l : List Nat} {j : Nat} (h : j < l.length) : (rowZ l j).set j (l[j]) = rowZ l (j + 1) := by
  unfold rowZ
  have e : l.length - j = (l.length - (j + 1)) + 1 := by omega
  rw [List.set_append_right _ _ (by simp; omega), e, List.replicate_succ, List.length_take, Nat.min_eq_left (Nat.le_of_lt h), Nat.sub_self, List.set_cons_zero, List.take_add_one, List.getElem?_eq_getElem h, List.append_assoc]
  rfl
theorem rowZ_skip {l : List Nat} {j : Nat} (h : j < l.length) (h0 : l[j] = 0) : rowZ l j = rowZ l (j + 1) := by
  rw [← rowZ_set h, h0]
  apply List.ext_getElem?
  intro i
  rw [List.getElem?_set]
  split
  · rename_i e
    subst e
    have hl := rowZ_len (l := l) (j := j) (by omega)
    rw [if_pos (by omega)]
    unfold rowZ
    rw [List.getElem?_append_right (by simp; omega), List.length_take, Nat.min_eq_left (Nat.le_of_lt h), Nat.sub_self, List.getElem?_replicate, if_pos (by omega)]
  · rfl
theorem initC_len {x : Acc} (h : accOK x = true) : (initC x).length = x.nxt.length := (initC_part h).len
theorem initC_get {x : Acc} {i : Nat} (h : i < (initC x).length) (h2 : i < x.fin.length) : (initC x)[i] = if x.fin[i] then 1 else 0 := by
  simp only [initC, List.getElem_map]
theorem keyB_len (l : List Nat) : (keyB l).length = 2 * l.length := by
  induction l with
  | nil => rfl
  | cons v l ih =>
    have : keyB (v :: l) = cb v ++ keyB l := rfl
    rw [this, List.length_append, ih]
    simp [cb]; omega
theorem clsF_pos {cl : List Nat} {N n f : Nat} (h1 : cl.length = N) (h2 : Cov cl n) (h3 : N < f + n) : 0 < f := by
  have := pigeon (List.nodup_range (n := n)) (fun v hv => h2 v (by simpa using hv))
  rw [List.length_range, h1] at this
  omega
theorem round_small {x : Acc} (cl : List Nat) : (roundL x cl).1.length ≤ x.nxt.length ∧ ∀ v ∈ (roundL x cl).2, v < (roundL x cl).1.length := by
  have r := round_ok x cl
  have sl := sigsL_len x cl
  refine ⟨?_, fun v hv => ?_⟩
  · have := pigeon (List.nodup_range (n := (roundL x cl).1.length)) (fun v hv => r.cov v (by simpa using hv))
    rw [List.length_range, r.len, sl] at this
    exact this
  · obtain ⟨i, hi, rfl⟩ := List.getElem_of_mem hv
    have := r.at (i := i) hi (by have := r.len; omega)
    exact (List.getElem?_eq_some_iff.1 this).1
theorem getD_small {cl : List Nat} (h : SmN cl) (i : Nat) : cl.getD i 0 < 65536 := by
  rw [List.getD_eq_getElem?_getD]
  cases e : cl[i]? with
  | none => simp
  | some v => exact h v (List.mem_of_getElem? e)
theorem sigL_small {x : Acc} {cl : List Nat} (h : SmN cl) (i : Nat) : SmN (sigL x cl i) := fun v hv => by
  simp only [sigL, List.mem_cons, List.mem_map] at hv
  rcases hv with rfl | ⟨t, _, rfl⟩
  · exact getD_small h i
  · exact getD_small h _
theorem sigL_len {x : Acc} {cl : List Nat} {i : Nat} (hi : i < x.nxt.length) : (sigL x cl i).length = (x.nxt[i]).length + 1 := by
  simp [sigL, hi]
theorem sigL_take {x : Acc} {cl : List Nat} {i j tn : Nat} (hi : i < x.nxt.length) (hj : j < (x.nxt[i]).length) (ht : (x.nxt[i])[j] = (tn : Int)) (htl : tn < cl.length) : (sigL x cl i).take (j + 1 + 1) = (sigL x cl i).take (j + 1) ++ [cl[tn]] := by
  rw [List.take_add_one (i := j + 1)]
  congr 1
  rw [sigL, List.getElem?_cons_succ, List.getElem?_map, getD_at hi, List.getElem?_eq_getElem hj, ht]
  simp [htl]
theorem sigL_one {x : Acc} {cl : List Nat} {i : Nat} (hi : i < cl.length) : [cl[i]] = (sigL x cl i).take (0 + 1) := by
  simp [sigL, hi]
theorem sigsL_drop {x : Acc} {cl : List Nat} {i : Nat} (hi : i < x.nxt.length) : (sigsL x cl).drop i = sigL x cl i :: (sigsL x cl).drop (i + 1) := by
  rw [List.drop_eq_getElem_cons (by rw [sigsL_len]; exact hi)]
  simp [sigsL]
theorem numF_some {s : List Nat} {l ks : List (List Nat)} {out : List Nat} {n : Nat} (h : idxL ks s = some n) : numF (s :: l) ks out = numF l ks (out ++ [n]) := by simp only [numF, h]
theorem numF_none {s : List Nat} {l ks : List (List Nat)} {out : List Nat} (h : idxL ks s = none) : numF (s :: l) ks out = numF l (ks ++ [s]) (out ++ [ks.length]) := by simp only [numF, h]
theorem numF_end {x : Acc} {cl : List Nat} {i : Nat} (hi : x.nxt.length ≤ i) (ks : List (List Nat)) (out : List Nat) : numF ((sigsL x cl).drop i) ks out = (ks, out) := by
  rw [List.drop_eq_nil_of_le (by rw [sigsL_len]; exact hi)]; rfl
theorem clsF_stop {x : Acc} {f n : Nat} {cl out : List Nat} {ks : List (List Nat)} (hr : roundL x cl = (ks, out)) (h : ks.length = n) : clsF x (f + 1) n cl = out := by
  rw [clsF, hr, if_pos h]
theorem clsF_go {x : Acc} {f n : Nat} {cl out : List Nat} {ks : List (List Nat)} (hr : roundL x cl = (ks, out)) (h : ¬ ks.length = n) : clsF x (f + 1) n cl = clsF x f ks.length out := by
  rw [clsF, hr, if_neg h]
theorem MapSK.le {es : List (Value × DV)} {ks : List (List Nat)} (h : MapSK es ks) {n : Nat} (hn : ks.length ≤ n) : es.length ≤ n := by rw [h.len]; exact hn

/-! #### numbers of classes, in a map of ints -/
structure MapOI (es : List (Value × DV)) (qs : List Nat) : Prop where
  keys : ∀ p ∈ es, isKey (.int .i64) p.1 = true
  look : ∀ t : Nat, lookupL es (.int .i64 (t : Int)) = (idxN qs t).map (fun i : Nat => DV.v (.int .i64 (i : Int)))
theorem MapOI.nil : MapOI [] [] := ⟨fun p hp => (by cases hp), fun u => rfl⟩
theorem MapOI.add {es : List (Value × DV)} {qs : List Nat} (h : MapOI es qs) {t : Nat} (hn : idxN qs t = none) : MapOI (updL es (.int .i64 (t : Int)) (.v (.int .i64 ((qs.length : Nat) : Int)))) (qs ++ [t]) where
  keys := updL_keys rfl _ es h.keys
  look := fun u => by
    rw [lookupL_upd (d0 := .int .i64) rfl rfl _ es h.keys, h.look, idxN_snoc]
    simp only [sameKey, BEq.rfl, Bool.true_and]
    by_cases e : t = u
    · subst e
      rw [hn]
      simp
    · have e1 : ((u : Int) == (t : Int)) = false := by simp; omega
      rw [e1]
      cases idxN qs u with
      | none => simp [e]
      | some i => simp
theorem idxE_cls (cl qs : List Nat) (t : Nat) : idxE (eqC cl) qs t = idxN (qs.map (fun q => cl.getD q 0)) (cl.getD t 0) := by
  unfold idxE idxN eqC
  rw [List.findIdx?_map]
  rfl
structure QsE (x : Acc) (qs : List Nat) : Prop where
  pw : PWE (eqC (clsR x)) qs
  good : ∀ q ∈ qs, q < x.nxt.length
theorem QsE.len {x : Acc} (hx : accOK x = true) {qs : List Nat} (h : QsE x qs) : qs.length ≤ 512 := (minEqG hx).bnd qs h.pw h.good
theorem QsE.one {x : Acc} (hx : accOK x = true) : QsE x [x.start.toNat] := ⟨by simp [PWE], fun q hq => by rw [List.mem_singleton] at hq; subst hq; exact (start_lt hx).1⟩
theorem QsE.add {x : Acc} {qs : List Nat} (h : QsE x qs) {t : Nat} (hn : idxE (eqC (clsR x)) qs t = none) (ht : t < x.nxt.length) : QsE x (qs ++ [t]) where
  pw := by
    unfold PWE
    rw [List.pairwise_append]
    exact ⟨h.pw, by simp, fun a ha b hb => by rw [List.mem_singleton] at hb; subst hb; exact idxE_none hn a ha⟩
  good := fun q hq => by
    rcases List.mem_append.1 hq with hq | hq
    · exact h.good q hq
    · rw [List.mem_singleton] at hq; subst hq; exact ht
theorem nxL_drop {x : Acc} {q j tn : Nat} (hq : q < x.nxt.length) (hj : j < (x.nxt[q]).length) (ht : (x.nxt[q])[j] = (tn : Int)) : (nxL x q).drop j = tn :: (nxL x q).drop (j + 1) := by
  rw [List.drop_eq_getElem_cons (by simp [nxL, hq, hj])]
  congr 1
  simp only [nxL, getD_at hq, List.getElem_map, ht, Int.toNat_natCast]
end Go.GH
namespace Go.GH
open Go

def pairV (p : Nat × Nat) : Value := .agg #[.int .u8 (p.1 : Int), .int .u8 (p.2 : Int)]
abbrev pairD (p : Nat × Nat) : DV := .agg [.v (.int .u8 (p.1 : Int)), .v (.int .u8 (p.2 : Int))]
def setE (ks : List (Nat × Nat)) : List (Value × DV) := ks.map (fun p => (pairV p, DV.v (.bool true)))
def SmP (p : Nat × Nat) : Prop := p.1 < 256 ∧ p.2 < 256
structure pairB (P : Program) (T K V : Nat) : Prop where
  map : P.underlying T = some (.map K V)
  law : WideMaps.KeyLaw P K
  key : ∀ p, SmP p → ∃ l, keyOf P K (pairV p) = some l
theorem u8_wf {n : Nat} (h : n < 256) : (Lit.int .u8 (n : Int)).wf = true := by
  simp [Lit.wf, IntKind.min, IntKind.max, IntKind.signed, IntKind.bits]
  omega
theorem pairB.of {P : Program} {T K V e k : Nat} (hm : P.underlying T = some (.map K V)) (hK : P.underlying K = some (.array 2 e)) (he : P.underlying e = some (.int .u8)) (hcK : P.cellsOf K = 2) (hce : P.cellsOf e = 1) (hk : P.keyType K = true)
    (h2 : P.keyTypeAt 2 K = true) (ht : P.tiled 2 K = true) (hs : P.types.size = k + 1) : pairB P T K V where
  map := hm
  law := deep_law (m := 2) (by decide) h2 ht (by rw [hK])
  key := fun p hp => by
    have h1 : P.keyLits (k + 1) e [.int .u8 (p.1 : Int)] = some [.int .u8 (p.1 : Int)] := by
      unfold Program.keyLits; simp only [he]; rw [if_pos ⟨trivial, u8_wf hp.1⟩]
    have h2 : P.keyLits (k + 1) e [.int .u8 (p.2 : Int)] = some [.int .u8 (p.2 : Int)] := by
      unfold Program.keyLits; simp only [he]; rw [if_pos ⟨trivial, u8_wf hp.2⟩]
    have h3 : P.keyLits (P.types.size + 1) K (pairV p).cells.toList = some [.int .u8 (p.1 : Int), .int .u8 (p.2 : Int)] := by
      rw [hs]
      unfold Program.keyLits
      simp only [hK, pairV, Value.cells, hcK, hce]
      rw [if_pos (by simp)]
      simp [List.range_succ, h1, h2]
    refine ⟨.string (keyBytes [.int .u8 (p.1 : Int), .int .u8 (p.2 : Int)]), ?_⟩
    unfold keyOf
    simp only [hK]
    rw [if_pos (by simp [hk, Value.formed, pairV, hK, hcK]), h3]
    rfl
theorem rep_pair {w : World} {F : Nat → Prop} {v : Value} {p : Nat × Nat} (h : Rep w F v (pairD p)) : v = pairV p := by
  cases h with
  | @agg us ds hl hr =>
    have hs : us.size = 2 := hl
    obtain ⟨l⟩ := us
    match l, hs with
    | [x, y], _ =>
      have h1 := (hr 0 x _ rfl rfl).inv_v.1
      have h2 := (hr 1 y _ rfl rfl).inv_v.1
      rw [h1, h2]; rfl
theorem pairV_inj {p q : Nat × Nat} (h : pairV p = pairV q) : p = q := by
  simp only [pairV, Value.agg.injEq, Array.mk.injEq, List.cons.injEq, Value.int.injEq, and_true, true_and] at h
  obtain ⟨a, b⟩ := p
  obtain ⟨c, d⟩ := q
  simp only [Prod.mk.injEq] at *
  omega
theorem setE_at {ks : List (Nat × Nat)} {i : Nat} {p : Nat × Nat} (h : ks[i]? = some p) : (setE ks)[i]? = some (pairV p, .v (.bool true)) := by
  rw [setE, List.getElem?_map, h]; rfl
theorem set_find {P : Program} {w : World} {F : Nat → Prop} {T K V : Nat} (hT : pairB P T K V) {ents : Array MapEntry} {ks : List (Nat × Nat)} (hE : EntsRep w F ents (setE ks)) (hks : ∀ q ∈ ks, SmP q) {p : Nat × Nat} (hp : SmP p) :
    (p ∉ ks ∧ (Instr.findKey K (pairV p) ents.toList).run P w = .ok none w) ∨ (p ∈ ks ∧ ∃ j, (Instr.findKey K (pairV p) ents.toList).run P w = .ok (some (j, .bool true)) w) := by
  obtain ⟨l, hl⟩ := hT.key p hp
  have hlen : ents.size = ks.length := by rw [hE.1, setE, List.length_map]
  have hall : ∀ (j : Nat) e, ents[j]? = some e → ∃ q, ks[j]? = some q ∧ e.key = pairV q ∧ e.val = .bool true := fun j e he => by
    have hj : j < ks.length := by rw [← hlen]; exact (Array.getElem?_eq_some_iff.1 he).1
    obtain ⟨e', h1, h2, h3⟩ := hE.2 j _ (setE_at (List.getElem?_eq_getElem hj))
    rw [he] at h1
    obtain rfl := Option.some.inj h1
    exact ⟨ks[j], List.getElem?_eq_getElem hj, h2, h3.inv_v.1⟩
  rcases hT.law.find w hl ents.toList (fun e he => by
    obtain ⟨j, hj⟩ := List.mem_iff_getElem?.1 he
    obtain ⟨q, h1, h2, _⟩ := hall j e (by simpa using hj)
    rw [h2]
    exact hT.key q (hks q (List.mem_of_getElem? h1))) with ⟨h1, h2⟩ | ⟨j, e, h1, h2, h3⟩
  · refine .inl ⟨fun hm => ?_, h1⟩
    obtain ⟨i, hi⟩ := List.mem_iff_getElem?.1 hm
    obtain ⟨e', g1, g2, _⟩ := hE.2 i _ (setE_at hi)
    exact h2 e' (by rw [Array.mem_toList_iff]; exact Array.mem_of_getElem? g1) g2
  · obtain ⟨q, g1, g2, g3⟩ := hall j e (by simpa using h2)
    rw [g2] at h3
    obtain rfl := pairV_inj h3
    exact .inr ⟨List.mem_of_getElem? g1, j, by rw [g3] at h1; exact h1⟩

variable {C : Ctx} {ops : Array Oper} {st : St} {rest : List Oper} {R : St → Prop} {t : Tmp} {ty : TypeId} {pos : String} {aft : Array Edge} {g : Option (Nat × Bool)}

theorem SOps.lookupPair (i : Nat) {T K V b : Nat} {xo ko : Operand} {ks : List (Nat × Nat)} {p : Nat × Nat} (hx : st.val xo = some (.mp b)) (hi : st.heap[i]? = some (b, .map (setE ks))) (hk : st.val ko = some (pairD p)) (hT : pairB C.P T K V) (hz : zeroIs C.P V (.bool false)) (hks : ∀ q ∈ ks, SmP q) (hp : SmP p)
    (hrest : SOps C ops rest (st.put t (.v (.bool (decide (p ∈ ks))))) R)
    (hg : st.wants ops g = some true := by rfl) (ht : Nat.blt t st.n = true := by rfl) : SOps C ops (⟨some t, .lookup T xo ko false, ty, pos, aft, g⟩ :: rest) st R :=
  SOps.val rfl hg ht (fun base a w F hs => by
    have h1 := hs.val hx
    have h2 := rep_pair (hs.val hk)
    generalize hv : a.eval xo = v at h1
    cases h1 with
    | mp =>
      obtain ⟨ents, clock, hb, hE⟩ := (hs.heap _ (List.mem_of_getElem? hi)).2.2
      simp only at hb
      obtain ⟨l, hl⟩ := hT.key p hp
      rcases set_find hT (show EntsRep w F ents (setE ks) from hE) hks hp with ⟨m, h3⟩ | ⟨m, j, h3⟩
      · refine ⟨.bool false, ?_, by rw [decide_eq_false m]; exact .v trivial⟩
        simp only [execOp, hv, h2, Instr.lookup, Sem.run_bind, run_underlying hT.map, Result.andThen_ok, MapKept.run_getObj_map hb, Sem.run_pure, hT.law.check w _ hl, h3, run_zeroValue hz, pure_bind]
        rfl
      · refine ⟨.bool true, ?_, by rw [decide_eq_true m]; exact .v trivial⟩
        simp only [execOp, hv, h2, Instr.lookup, Sem.run_bind, run_underlying hT.map, Result.andThen_ok, MapKept.run_getObj_map hb, Sem.run_pure, hT.law.check w _ hl, h3, pure_bind]
        rfl) hrest
theorem run_setNew {P : Program} {w : World} {F : Nat → Prop} {T K V b : Nat} (hT : pairB P T K V) {ents : Array MapEntry} {clock : Nat} (hb : w.heap[b]? = some (.map ents clock)) {ks : List (Nat × Nat)} (hE : EntsRep w F ents (setE ks)) (hks : ∀ q ∈ ks, SmP q) {p : Nat × Nat} (hp : SmP p) (hn : p ∉ ks) :
    ∃ ents' clock', (Instr.mapUpdate T (.map (some b)) (pairV p) (.bool true)).run P w = .ok () (World.setObj' w b (.map ents' clock')) ∧ ∀ w', (∀ u d, Rep w F u d → Rep w' F u d) → EntsRep w' F ents' (setE (ks ++ [p])) := by
  obtain ⟨l, hl⟩ := hT.key p hp
  rcases set_find hT hE hks hp with ⟨m, h3⟩ | ⟨m, _⟩
  · refine ⟨ents.push { key := pairV p, val := .bool true, born := clock }, clock + 1, ?_, fun w' hm => ?_⟩
    · simp only [Instr.mapUpdate, Sem.run_bind, run_underlying hT.map, Result.andThen_ok, MapKept.run_getObj_map hb, hT.law.check w _ hl, h3, MapKept.run_setObj_map _ hb, Sem.run_pure, pure_bind]
      rfl
    · have hlen : ents.size = (setE ks).length := hE.1
      rw [show setE (ks ++ [p]) = setE ks ++ [(pairV p, DV.v (.bool true))] from by simp [setE]]
      refine ⟨by simp [hlen], fun q x hq => ?_⟩
      rw [List.getElem?_append] at hq
      split at hq
      · rename_i hlt
        obtain ⟨e, he, hke, hr⟩ := hE.2 q x hq
        exact ⟨e, by rw [Array.getElem?_push, if_neg (by rw [hlen]; omega)]; exact he, hke, hm _ _ hr⟩
      · rename_i hlt
        match hqq : q - (setE ks).length, hq with
        | 0, hq =>
          simp at hq
          subst hq
          have : q = ents.size := by rw [hlen]; omega
          exact ⟨_, by rw [Array.getElem?_push, if_pos this], rfl, .v (x := .bool true) trivial⟩
        | m + 1, hq => simp at hq
  · exact absurd m hn
theorem set_write {base : Base} {a : Act} {w : World} {F : Nat → Prop} (hs : SimF C.E base F st a w) {i b : Nat} {ks : List (Nat × Nat)} (hi : st.heap[i]? = some (b, .map (setE ks))) {T K V : Nat} (hT : pairB C.P T K V) (hks : ∀ q ∈ ks, SmP q) {p : Nat × Nat} (hp : SmP p) (hn : p ∉ ks) :
    ∃ w', (Instr.mapUpdate T (.map (some b)) (pairV p) (.bool true)).run C.P w = .ok () w' ∧ SimF C.E base F ⟨st.n, st.slots, st.heap.set i (b, .map (setE (ks ++ [p])))⟩ a w' := by
  obtain ⟨kk1, hbF, ents, clock, hb, hE⟩ := hs.heap _ (List.mem_of_getElem? hi)
  have hE : EntsRep w F ents (setE ks) := hE
  simp only at hb
  obtain ⟨ents', clock', m1, m2⟩ := run_setNew hT hb hE hks hp hn
  have hlt := (Array.getElem?_eq_some_iff.1 hb).1
  have hst : Step (· = b) w (World.setObj' w b (.map ents' clock')) := by
    refine ⟨rfl, rfl, rfl, by simp [World.setObj'], fun c _ hc => ?_, fun c q hq => ?_⟩
    · simp only [World.setObj', Array.getElem?_setIfInBounds]; rw [if_neg (fun e => hc e.symm)]
    · unfold World.shape? at *
      by_cases e : c = b
      · subst e; rw [hb] at hq; cases hq
      · simp only [World.setObj', Array.getElem?_setIfInBounds]; rw [if_neg (fun e' => e e'.symm)]; exact hq
  exact ⟨_, m1, hs.write hi hst ⟨ents', clock', by simp [World.setObj', hlt], m2 _ (fun u d hr => hr.mono (fun c hc => hst.block c (hs.lt c hc).1 (fun e => hbF (e ▸ hc))) hst.shape (fun _ h => h))⟩⟩
theorem SOps.insertPair (i : Nat) {T K V b : Nat} {xo ko yo : Operand} {ks : List (Nat × Nat)} {p : Nat × Nat} (hx : st.val xo = some (.mp b)) (hi : st.heap[i]? = some (b, .map (setE ks))) (hk : st.val ko = some (pairD p)) (hy : st.val yo = some (.v (.bool true))) (hT : pairB C.P T K V) (hks : ∀ q ∈ ks, SmP q) (hp : SmP p) (hn : p ∉ ks)
    (hrest : SOps C ops rest ⟨st.n, st.slots, st.heap.set i (b, .map (setE (ks ++ [p])))⟩ R)
    (hg : st.wants ops g = some true := by rfl) : SOps C ops (⟨none, .insert T xo ko yo, ty, pos, aft, g⟩ :: rest) st R := by
  refine SOps.op (R1 := (· = ⟨st.n, st.slots, st.heap.set i (b, .map (setE (ks ++ [p])))⟩)) hg ?_ (fun st' e => e ▸ hrest)
  intro base ok a w F hs K' Q hK
  have h1 := hs.val hx
  have h2 := rep_pair (hs.val hk)
  have h3 := (hs.val hy).inv_v.1
  generalize hv : a.eval xo = x at h1
  cases h1 with
  | mp =>
    obtain ⟨w', m1, m2⟩ := set_write hs hi hT hks hp hn
    unfold Oper.wp
    rw [show (execOp a.eval ⟨none, .insert T xo ko yo, ty, pos, aft, g⟩).run C.P w = .ok .skip w' from by
      rw [show execOp a.eval ⟨none, .insert T xo ko yo, ty, pos, aft, g⟩ = (do Instr.mapUpdate T (a.eval xo) (a.eval ko) (a.eval yo); pure .skip) from rfl, hv, h2, h3]
      simp only [Sem.run_bind, m1, Result.andThen_ok, Sem.run_pure], Oper.upon_skip]
    exact hK _ _ _ rfl ⟨F, m2⟩
theorem SOps.updatePair (i : Nat) {T K V b : Nat} {xo ko yo : Operand} {ks : List (Nat × Nat)} {p : Nat × Nat} (hx : st.val xo = some (.mp b)) (hi : st.heap[i]? = some (b, .map (setE ks))) (hk : st.val ko = some (pairD p)) (hy : st.val yo = some (.v (.bool true))) (hT : pairB C.P T K V) (hks : ∀ q ∈ ks, SmP q) (hp : SmP p) (hn : p ∉ ks)
    (hrest : SOps C ops rest ⟨st.n, st.slots, st.heap.set i (b, .map (setE (ks ++ [p])))⟩ R)
    (hg : st.wants ops g = some true := by rfl) : SOps C ops (⟨none, .mapUpdate T xo ko yo, ty, pos, aft, g⟩ :: rest) st R := by
  refine SOps.op (R1 := (· = ⟨st.n, st.slots, st.heap.set i (b, .map (setE (ks ++ [p])))⟩)) hg ?_ (fun st' e => e ▸ hrest)
  intro base ok a w F hs K' Q hK
  have h1 := hs.val hx
  have h2 := rep_pair (hs.val hk)
  have h3 := (hs.val hy).inv_v.1
  generalize hv : a.eval xo = x at h1
  cases h1 with
  | mp =>
    obtain ⟨w', m1, m2⟩ := set_write hs hi hT hks hp hn
    unfold Oper.wp
    rw [show (execOp a.eval ⟨none, .mapUpdate T xo ko yo, ty, pos, aft, g⟩).run C.P w = .ok .skip w' from by
      rw [show execOp a.eval ⟨none, .mapUpdate T xo ko yo, ty, pos, aft, g⟩ = (do Instr.mapUpdate T (a.eval xo) (a.eval ko) (a.eval yo); pure .skip) from rfl, hv, h2, h3]
      simp only [Sem.run_bind, m1, Result.andThen_ok, Sem.run_pure], Oper.upon_skip]
    exact hK _ _ _ rfl ⟨F, m2⟩
end Go.GH
namespace Go.GH
open Go
variable {α : Type} {C : Ctx} {ops : Array Oper} {st : St} {rest : List Oper} {R : St → Prop} {t : Tmp} {ty : TypeId} {pos : String} {aft : Array Edge} {g : Option (Nat × Bool)}

theorem SOps.loadF (i k j : Nat) {T b o elem sz : Nat} {xo : Operand} {f : α → List DV} {xs : List α} {d : DV} (hx : st.val xo = some (.ref b o)) (hT : flatB C.P T = true)
    (hi : st.heap[i]? = some (b, .row elem sz (xs.map f))) (ho : o = k * sz + j) (hk : k < xs.length) (hd : (f (xs[k]))[j]? = some d) (hrest : SOps C ops rest (st.put t d) R)
    (hg : st.wants ops g = some true := by rfl) (ht : Nat.blt t st.n = true := by rfl) : SOps C ops (⟨some t, .load T xo, ty, pos, aft, g⟩ :: rest) st R :=
  SOps.loadRef i k j hx hT hi ho (by rw [List.getElem?_map, List.getElem?_eq_getElem hk]; rfl) hd hrest hg ht
theorem SOps.buildArrM {T n e sz : TypeId} {z : Value} {parts : Array (Nat × Operand)} {qs : List (Nat × Nat × DV)} {ds : List DV} (hT : arrayB C.P T n e sz = true) (hz : zeroIs C.P T z) (hq : st.parts ((List.range n).map (fun i => (i * sz, sz))) parts.toList = some qs)
    (hf : dfill (z.cells.toList.map DV.v) qs = some ds) (hrest : SOps C ops rest (st.put t (.agg ds)) R) (h1 : qs.all (fun q => (ecells q.2.2).all DV.one) = true := by rfl) (hb : zcellsB z = true := by rfl)
    (hg : st.wants ops g = some true := by rfl) (ht : Nat.blt t st.n = true := by rfl) : SOps C ops (⟨some t, .build T parts, ty, pos, aft, g⟩ :: rest) st R :=
  SOps.buildArr hT hz hq hf (fun q hq c hc => List.all_eq_true.1 (List.all_eq_true.1 h1 q hq) c hc) hrest hb hg ht
end Go.GH
