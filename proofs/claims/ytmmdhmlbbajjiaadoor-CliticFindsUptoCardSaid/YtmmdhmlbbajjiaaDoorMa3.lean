/-
  Part 3 of the texts behind the walks of this claim: an own layer over the kit's wp, plain laws, and walks. No conditions.
-/
import Derived.Test.YtmmdhmlbbajjiaaDoorMa2
import Derived.Test.YtmmdhmlbbajjiaaDoorProg
set_option linter.unusedVariables false
set_option linter.unusedSimpArgs false
set_option linter.deprecated false
namespace Go.GH
open Go Go.Proofs
variable {E : Env}
theorem aggB_28_2 : aggB Tryd.prog 28 2 = true := by kernel_rfl
theorem aggB_87_4 : aggB Tryd.prog 87 4 = true := by kernel_rfl
theorem boolTy_4 : boolTy Tryd.prog 4 = true := by kernel_rfl
theorem elemB_145_1_24 : elemB Tryd.prog 145 1 24 = true := by kernel_rfl
theorem elemB_3_1_8 : elemB Tryd.prog 3 1 8 = true := by kernel_rfl
theorem elemB_4_1_1 : elemB Tryd.prog 4 1 1 = true := by kernel_rfl
theorem elemB_87_4_32 : elemB Tryd.prog 87 4 32 = true := by kernel_rfl
theorem fieldB_28_0_0 : fieldB Tryd.prog 28 0 0 = true := by kernel_rfl
theorem fieldB_28_1_1 : fieldB Tryd.prog 28 1 1 = true := by kernel_rfl
theorem fieldB_87_0_0 : fieldB Tryd.prog 87 0 0 = true := by kernel_rfl
theorem fieldB_87_1_1 : fieldB Tryd.prog 87 1 1 = true := by kernel_rfl
theorem fieldB_87_2_2 : fieldB Tryd.prog 87 2 2 = true := by kernel_rfl
theorem fieldB_87_3_3 : fieldB Tryd.prog 87 3 3 = true := by kernel_rfl
theorem flatB_144 : flatB Tryd.prog 144 = true := by kernel_rfl
theorem flatB_145 : flatB Tryd.prog 145 = true := by kernel_rfl
theorem flatB_21 : flatB Tryd.prog 21 = true := by kernel_rfl
theorem flatB_26 : flatB Tryd.prog 26 = true := by kernel_rfl
theorem flatB_3 : flatB Tryd.prog 3 = true := by kernel_rfl
theorem flatB_4 : flatB Tryd.prog 4 = true := by kernel_rfl
theorem flatB_45 : flatB Tryd.prog 45 = true := by kernel_rfl
theorem flatB_9 : flatB Tryd.prog 9 = true := by kernel_rfl
theorem mapB_89 : mapB Tryd.prog 89 21 3 (.int .i32) := ⟨by kernel_rfl, by kernel_rfl⟩
theorem mixed_ : Tryd.prog.follows .mixedOrders = true := by kernel_rfl
theorem oneB_144 : oneB Tryd.prog 144 = true := by kernel_rfl
theorem oneB_145 : oneB Tryd.prog 145 = true := by kernel_rfl
theorem oneB_3 : oneB Tryd.prog 3 = true := by kernel_rfl
theorem oneB_4 : oneB Tryd.prog 4 = true := by kernel_rfl
theorem sliceB_144_145_1 : sliceB Tryd.prog 144 145 1 = true := by kernel_rfl
theorem sliceB_145_4_1 : sliceB Tryd.prog 145 4 1 = true := by kernel_rfl
theorem sliceB_22_28_2 : sliceB Tryd.prog 22 28 2 = true := by kernel_rfl
theorem sliceB_43_3_1 : sliceB Tryd.prog 43 3 1 = true := by kernel_rfl
theorem sliceB_45_87_4 : sliceB Tryd.prog 45 87 4 = true := by kernel_rfl
theorem sliceB_92_28_2 : sliceB Tryd.prog 92 28 2 = true := by kernel_rfl
theorem strB_9 : strB Tryd.prog 9 = true := by kernel_rfl
theorem zeroIs_144 : zeroIs Tryd.prog 144 (.slice none 0 0) := by unfold zeroIs; kernel_rfl
theorem zeroIs_145 : zeroIs Tryd.prog 145 (.slice none 0 0) := by unfold zeroIs; kernel_rfl
theorem zeroIs_28 : zeroIs Tryd.prog 28 (.agg #[.int .i32 0, .int .u32 0]) := by unfold zeroIs; kernel_rfl
theorem zeroIs_3 : zeroIs Tryd.prog 3 (.int .i64 0) := by unfold zeroIs; kernel_rfl
theorem zeroIs_4 : zeroIs Tryd.prog 4 (.bool false) := by unfold zeroIs; kernel_rfl
theorem zeroIs_87 : zeroIs Tryd.prog 87 (.agg #[.int .u32 0, .string .empty, .bool false, .bool false]) := by unfold zeroIs; kernel_rfl
def VS (E : Env) : Prop := ∀ s : ByteArray, GCall Tryd.prog E 79 [.v (.string s)] [] (fun d H => d = .v (.bool (utf8R s)) ∧ H = [])
theorem uValidRune (r : Int)  : GCall Tryd.prog E 56 [.v (.int .i32 r)] [] (fun d H => d = .v (.bool (runeOK r)) ∧ H = []) := by
  refine GCall.body (C := ⟨Tryd.prog, E, true⟩) Tryd.func56 rfl (fun _ => rfl) (by kernel_rfl) rfl ?_
  refine SCode.seqR ?_
  refine SOps.assign rfl ?_
  refine SOps.nil ?_
  refine SCode.seq ?_
  refine SCode.block ?_
  refine SCode.seqR ?_
  refine SOps.move rfl ?_
  refine SOps.bin rfl rfl rfl ?_
  refine SOps.move rfl ?_
  refine SOps.caseB 6 rfl (fun hb1 => ?_) (fun hb1 => ?_)
  · try simp only [nmL] at hb1
    refine SOps.move rfl ?_
    refine SOps.bin rfl rfl rfl ?_
    refine SOps.pick rfl rfl ?_
    refine SOps.assign rfl ?_
    refine SOps.nil ?_
    refine SCode.cond rfl (fun hc2 => ?_) (fun hc2 => ?_)
    · try simp only [nmL] at hc2
      refine SCode.seqR ?_
      refine SOps.assign rfl ?_
      refine SOps.nil ?_
      refine SCode.ret ?_
      exact ⟨_, Res.one (.tmp rfl), congrArg (fun b => DV.v (.bool b)) (by rw [Bool.eq_iff_iff]; simp only [runeOK, decide_eq_true_eq, Bool.false_eq_true, Bool.true_eq_false, beq_iff_eq]; first | omega | (simp; omega)), rfl⟩
    · try simp only [nmL] at hc2
      refine SCode.seqR ?_
      refine SOps.move rfl ?_
      refine SOps.bin rfl rfl rfl ?_
      refine SOps.move rfl ?_
      refine SOps.caseB 13 rfl (fun hb3 => ?_) (fun hb3 => ?_)
      · try simp only [nmL] at hb3
        refine SOps.move rfl ?_
        refine SOps.bin rfl rfl rfl ?_
        refine SOps.pick rfl rfl ?_
        refine SOps.assign rfl ?_
        refine SOps.nil ?_
        refine SCode.cond rfl (fun hc4 => ?_) (fun hc4 => ?_)
        · try simp only [nmL] at hc4
          refine SCode.seqR ?_
          refine SOps.assign rfl ?_
          refine SOps.nil ?_
          refine SCode.ret ?_
          exact ⟨_, Res.one (.tmp rfl), congrArg (fun b => DV.v (.bool b)) (by rw [Bool.eq_iff_iff]; simp only [runeOK, decide_eq_true_eq, Bool.false_eq_true, Bool.true_eq_false, beq_iff_eq]; first | omega | (simp; omega)), rfl⟩
        · try simp only [nmL] at hc4
          refine SCode.skip ?_
          show SCode _ _ _ _
          refine SCode.seqR ?_
          refine SOps.assign rfl ?_
          refine SOps.nil ?_
          refine SCode.ret ?_
          exact ⟨_, Res.one (.tmp rfl), congrArg (fun b => DV.v (.bool b)) (by rw [Bool.eq_iff_iff]; simp only [runeOK, decide_eq_true_eq, Bool.false_eq_true, Bool.true_eq_false, beq_iff_eq]; first | omega | (simp; omega)), rfl⟩
      · try simp only [nmL] at hb3
        refine SOps.skip rfl ?_
        refine SOps.skip rfl ?_
        refine SOps.pick rfl rfl ?_
        refine SOps.assign rfl ?_
        refine SOps.nil ?_
        refine SCode.cond rfl (fun h => by cases h) (fun _ => ?_)
        refine SCode.skip ?_
        show SCode _ _ _ _
        refine SCode.seqR ?_
        refine SOps.assign rfl ?_
        refine SOps.nil ?_
        refine SCode.ret ?_
        exact ⟨_, Res.one (.tmp rfl), congrArg (fun b => DV.v (.bool b)) (by rw [Bool.eq_iff_iff]; simp only [runeOK, decide_eq_true_eq, Bool.false_eq_true, Bool.true_eq_false, beq_iff_eq]; first | omega | (simp; omega)), rfl⟩
  · try simp only [nmL] at hb1
    refine SOps.skip rfl ?_
    refine SOps.skip rfl ?_
    refine SOps.pick rfl rfl ?_
    refine SOps.assign rfl ?_
    refine SOps.nil ?_
    refine SCode.cond rfl (fun h => by cases h) (fun _ => ?_)
    refine SCode.seqR ?_
    refine SOps.move rfl ?_
    refine SOps.bin rfl rfl rfl ?_
    refine SOps.move rfl ?_
    refine SOps.caseB 13 rfl (fun hb5 => ?_) (fun hb5 => ?_)
    · try simp only [nmL] at hb5
      refine SOps.move rfl ?_
      refine SOps.bin rfl rfl rfl ?_
      refine SOps.pick rfl rfl ?_
      refine SOps.assign rfl ?_
      refine SOps.nil ?_
      refine SCode.cond rfl (fun hc6 => ?_) (fun hc6 => ?_)
      · try simp only [nmL] at hc6
        refine SCode.seqR ?_
        refine SOps.assign rfl ?_
        refine SOps.nil ?_
        refine SCode.ret ?_
        exact ⟨_, Res.one (.tmp rfl), congrArg (fun b => DV.v (.bool b)) (by rw [Bool.eq_iff_iff]; simp only [runeOK, decide_eq_true_eq, Bool.false_eq_true, Bool.true_eq_false, beq_iff_eq]; first | omega | (simp; omega)), rfl⟩
      · try simp only [nmL] at hc6
        refine SCode.skip ?_
        show SCode _ _ _ _
        refine SCode.seqR ?_
        refine SOps.assign rfl ?_
        refine SOps.nil ?_
        refine SCode.ret ?_
        exact ⟨_, Res.one (.tmp rfl), congrArg (fun b => DV.v (.bool b)) (by rw [Bool.eq_iff_iff]; simp only [runeOK, decide_eq_true_eq, Bool.false_eq_true, Bool.true_eq_false, beq_iff_eq]; first | omega | (simp; omega)), rfl⟩
    · try simp only [nmL] at hb5
      refine SOps.skip rfl ?_
      refine SOps.skip rfl ?_
      refine SOps.pick rfl rfl ?_
      refine SOps.assign rfl ?_
      refine SOps.nil ?_
      refine SCode.cond rfl (fun h => by cases h) (fun _ => ?_)
      refine SCode.skip ?_
      show SCode _ _ _ _
      refine SCode.seqR ?_
      refine SOps.assign rfl ?_
      refine SOps.nil ?_
      refine SCode.ret ?_
      exact ⟨_, Res.one (.tmp rfl), congrArg (fun b => DV.v (.bool b)) (by rw [Bool.eq_iff_iff]; simp only [runeOK, decide_eq_true_eq, Bool.false_eq_true, Bool.true_eq_false, beq_iff_eq]; first | omega | (simp; omega)), rfl⟩
theorem uRuneCount (s : ByteArray)  : GCall Tryd.prog E 68 [.v (.string s)] [] (fun d H => d = .v (.int .i64 ((runes s).length : Int)) ∧ H = []) := by
  refine GCall.body (C := ⟨Tryd.prog, E, true⟩) Tryd.func68 rfl (fun _ => rfl) (by kernel_rfl) rfl ?_
  refine SCode.seqR ?_
  refine SOps.assign rfl ?_
  refine SOps.nil ?_
  refine SCode.seq ?_
  refine SCode.seqR ?_
  refine SOps.move rfl ?_
  refine SOps.rangeStr rfl strB_9 (fun b0 hb_0 => ?_)
  refine SOps.nil ?_
  refine SCode.block ?_
  refine SCode.fact (v_scal (t := 0) rfl) (fun hS => ?_)
  simp only [scal, lenB] at hS
  refine SCode.loop3 (fun (p : Nat) (n : Nat) (b : Nat) => (⟨10, [(2, .v (.int .i64 (n : Int))), (4, .it b)], [(b, .iter s p)]⟩ : St)) (fun (p : Nat) (n : Nat) (b : Nat) => n ≤ p ∧ n + (runesAt s p).length = (runes s).length) (fun (p : Nat) (n : Nat) (b : Nat) => s.size - p) (0) (0) (b0) (by exact ⟨Nat.le_refl _, by rw [Nat.zero_add]; rfl⟩) (St.Le.of ⟨(by first | rfl | (show some _ = some _; simp)), (by first | rfl | (show some _ = some _; simp)), trivial⟩ rfl (by first | rfl | (simp))) ?_
  rintro p n b ⟨hn, hl⟩
  refine SCode.seqR ?_
  refine SOps.next 0 rfl rfl (fun hn1 => ?_) (fun hn1 => ?_) (by first | omega | (simp only [lenB]; omega))
  · refine SOps.extract rfl rfl ?_
    refine SOps.nil ?_
    refine SCode.seq ?_
    refine SCode.cond rfl (fun _ => ?_) (fun h => by cases h)
    refine SCode.skip ?_
    show SCode _ _ _ _
    refine SCode.block ?_
    refine SCode.region ?_
    refine SOps.move rfl ?_
    refine SOps.addI rfl rfl (by first | omega | (simp only [lenB]; omega)) (by first | omega | (simp only [lenB]; omega)) ?_
    refine SOps.assign rfl ?_
    refine SOps.nil ?_
    exact ⟨p + (Utf8.decode s p).2, n + 1, b, by exact ⟨by have := decode_w s p; omega, by rw [← hl, runes_len_step hn1]; omega⟩, by have := decode_w s p; omega, (St.Le.of ⟨(by first | rfl | (show some _ = some _; simp)), (by first | rfl | (show some _ = some _; simp)), trivial⟩ rfl (by first | rfl | (simp)))⟩
  · refine SOps.extract rfl rfl ?_
    refine SOps.nil ?_
    refine SCode.seq ?_
    refine SCode.cond rfl (fun h => by cases h) (fun _ => ?_)
    refine SCode.exit ?_
    show SCode _ _ _ _
    refine SCode.seqR ?_
    refine SOps.move rfl ?_
    refine SOps.assign rfl ?_
    refine SOps.nil ?_
    refine SCode.drop ?_
    refine SCode.ret ?_
    exact ⟨_, Res.one (.tmp rfl), congrArg (fun n : Nat => DV.v (.int .i64 (n : Int))) (by rw [← hl, runesAt_ge hn1]; rfl), rfl⟩
theorem lHas (a : List Letter) (r : Int)  : GCall Tryd.prog E 60 [DLs a, .v (.int .i32 r)] [] (fun d H => d = .v (.bool (idx a r).isSome) ∧ H = []) := by
  refine GCall.body (C := ⟨Tryd.prog, E, true⟩) Tryd.func60 rfl (fun _ => rfl) (by kernel_rfl) rfl ?_
  refine SCode.seqR ?_
  refine SOps.assign rfl ?_
  refine SOps.nil ?_
  refine SCode.seq ?_
  refine SCode.seqR ?_
  refine SOps.move rfl ?_
  refine SOps.lenM rfl sliceB_92_28_2 ?_
  refine SOps.move rfl ?_
  refine SOps.nil ?_
  refine SCode.block ?_
  refine SCode.loop1 (fun (i : Nat) => (⟨18, [(1, .v (.int .i32 r)), (7, DLs a), (8, .v (.int .i64 (a.length : Int))), (9, .v (.int .i64 (i : Int)))], []⟩ : St)) (fun (i : Nat) => i ≤ a.length ∧ ∀ l ∈ a.take i, l.rune ≠ r) (fun (i : Nat) => a.length - i) (0) (by simp) (St.Le.of ⟨(by first | rfl | (show some _ = some _; simp)), (by first | rfl | (show some _ = some _; simp)), (by first | rfl | (show some _ = some _; simp)), (by first | rfl | (show some _ = some _; simp)), trivial⟩ rfl (by first | rfl | (simp))) ?_
  rintro i ⟨hi, hf⟩
  refine SCode.fact (isl_len (t := 7) rfl) (fun hB => ?_)
  simp only [List.length_map, lenB] at hB
  refine SCode.seqR ?_
  refine SOps.bin rfl rfl rfl ?_
  refine SOps.nil ?_
  refine SCode.seq ?_
  refine SCode.cond rfl (fun hc1 => ?_) (fun hc1 => ?_)
  · try simp only [nmL] at hc1
    refine SCode.skip ?_
    show SCode _ _ _ _
    refine SCode.seq ?_
    refine SCode.block ?_
    refine SCode.seqR ?_
    refine SOps.indexM (i) rfl rfl sliceB_92_28_2 (by omega) (by omega) ?_
    refine SOps.loadPinA rfl aggB_28_2 (Nat.le_of_ble_eq_true rfl) ?_
    refine SOps.alloc (sz := 2) zeroIs_28 (fun b0 hb_0 => ?_)
    refine SOps.storeAM 0 rfl rfl aggB_28_2 rfl ?_
    refine SOps.freezeRef (t := 6) 0 0 rfl rfl rfl rfl rfl ?_
    refine SOps.nil ?_
    refine SCode.seqR ?_
    refine SOps.fieldPin rfl fieldB_28_0_0 ?_
    refine SOps.loadPin rfl flatB_21 ?_
    refine SOps.move rfl ?_
    refine SOps.bin rfl rfl rfl ?_
    refine SOps.nil ?_
    refine SCode.cond rfl (fun hc2 => ?_) (fun hc2 => ?_)
    · try simp only [nmL] at hc2
      refine SCode.seqR ?_
      refine SOps.assign rfl ?_
      refine SOps.nil ?_
      refine SCode.ret ?_
      exact ⟨_, Res.one (.tmp rfl), congrArg (fun b => DV.v (.bool b)) (Eq.symm (by rw [idx_drop hf (by omega) hc2]; rfl)), rfl⟩
    · try simp only [nmL] at hc2
      refine SCode.skip ?_
      show SCode _ _ _ _
      refine SCode.region ?_
      refine SOps.addI rfl rfl (by omega) (by omega) ?_
      refine SOps.move rfl ?_
      refine SOps.nil ?_
      exact ⟨i + 1, by exact ⟨by omega, take_more hf (by omega) hc2⟩, by omega, (St.Le.of ⟨(by first | rfl | (show some _ = some _; simp)), (by first | rfl | (show some _ = some _; simp)), (by first | rfl | (show some _ = some _; simp)), (by first | rfl | (show some _ = some _; simp)), trivial⟩ rfl (by first | rfl | (simp)))⟩
  · try simp only [nmL] at hc1
    refine SCode.exit ?_
    show SCode _ _ _ _
    refine SCode.seqR ?_
    refine SOps.assign rfl ?_
    refine SOps.nil ?_
    refine SCode.ret ?_
    exact ⟨_, Res.one (.tmp rfl), congrArg (fun b => DV.v (.bool b)) (Eq.symm (by rw [idx_none.2 (by rw [List.take_of_length_le (by omega)] at hf; exact hf)]; rfl)), rfl⟩
def admA (a : List Letter) : Bool := decide (1 ≤ a.length) && decide (a.length ≤ 65) && properB a
theorem lAdm (a : List Letter)  : GCall Tryd.prog E 59 [DLs a] [] (fun d H => d = .v (.bool (admA a)) ∧ H = []) := by
  refine GCall.body (C := ⟨Tryd.prog, E, true⟩) Tryd.func59 rfl (fun _ => rfl) (by kernel_rfl) rfl ?_
  refine SCode.seqR ?_
  refine SOps.assign rfl ?_
  refine SOps.nil ?_
  refine SCode.seq ?_
  refine SCode.seqR ?_
  refine SOps.fact (isl_len (t := 0) rfl) (fun hB => ?_)
  simp only [List.length_map, lenB] at hB
  refine SOps.move rfl ?_
  refine SOps.lenM rfl sliceB_92_28_2 ?_
  refine SOps.bin rfl rfl rfl ?_
  refine SOps.move rfl ?_
  refine SOps.caseB 8 rfl (fun hb1 => ?_) (fun hb1 => ?_)
  · try simp only [nmL] at hb1
    refine SOps.skip rfl ?_
    refine SOps.skip rfl ?_
    refine SOps.skip rfl ?_
    refine SOps.pick rfl rfl ?_
    refine SOps.nil ?_
    refine SCode.cond rfl (fun _ => ?_) (fun h => by cases h)
    refine SCode.seqR ?_
    refine SOps.assign rfl ?_
    refine SOps.nil ?_
    refine SCode.ret ?_
    exact ⟨_, Res.one (.tmp rfl), congrArg (fun b => DV.v (.bool b)) (Eq.symm (Bool.eq_false_iff.2 (fun h => by simp only [admA, Bool.and_eq_true, decide_eq_true_eq] at h; omega))), rfl⟩
  · try simp only [nmL] at hb1
    refine SOps.move rfl ?_
    refine SOps.lenM rfl sliceB_92_28_2 ?_
    refine SOps.bin rfl rfl rfl ?_
    refine SOps.pick rfl rfl ?_
    refine SOps.nil ?_
    refine SCode.cond rfl (fun hc2 => ?_) (fun hc2 => ?_)
    · try simp only [nmL] at hc2
      refine SCode.seqR ?_
      refine SOps.assign rfl ?_
      refine SOps.nil ?_
      refine SCode.ret ?_
      exact ⟨_, Res.one (.tmp rfl), congrArg (fun b => DV.v (.bool b)) (Eq.symm (Bool.eq_false_iff.2 (fun h => by simp only [admA, Bool.and_eq_true, decide_eq_true_eq] at h; omega))), rfl⟩
    · try simp only [nmL] at hc2
      refine SCode.skip ?_
      show SCode _ _ _ _
      refine SCode.seq ?_
      refine SCode.seqR ?_
      refine SOps.move rfl ?_
      refine SOps.lenM rfl sliceB_92_28_2 ?_
      refine SOps.move rfl ?_
      refine SOps.nil ?_
      refine SCode.block ?_
      refine SCode.loop1 (fun (i : Nat) => (⟨38, [(0, DLs a), (13, DLs a), (14, .v (.int .i64 (a.length : Int))), (15, .v (.int .i64 (i : Int)))], []⟩ : St)) (fun (i : Nat) => i ≤ a.length ∧ (∀ l ∈ a.take i, goodR l.rune = true) ∧ ((a.take i).map (·.rune)).Nodup) (fun (i : Nat) => a.length - i) (0) (by simp) (St.Le.of ⟨(by first | rfl | (show some _ = some _; simp)), (by first | rfl | (show some _ = some _; simp)), (by first | rfl | (show some _ = some _; simp)), (by first | rfl | (show some _ = some _; simp)), trivial⟩ rfl (by first | rfl | (simp))) ?_
      rintro i ⟨hi, hf⟩
      refine SCode.seqR ?_
      refine SOps.bin rfl rfl rfl ?_
      refine SOps.nil ?_
      refine SCode.seq ?_
      refine SCode.cond rfl (fun hc3 => ?_) (fun hc3 => ?_)
      · try simp only [nmL] at hc3
        refine SCode.skip ?_
        show SCode _ _ _ _
        refine SCode.seq ?_
        refine SCode.block ?_
        refine SCode.seqR ?_
        refine SOps.move rfl ?_
        refine SOps.indexM (i) rfl rfl sliceB_92_28_2 (by omega) (by omega) ?_
        refine SOps.loadPinA rfl aggB_28_2 (Nat.le_of_ble_eq_true rfl) ?_
        refine SOps.alloc (sz := 2) zeroIs_28 (fun b0 hb_0 => ?_)
        refine SOps.assign rfl ?_
        refine SOps.storeAM 0 rfl rfl aggB_28_2 rfl ?_
        refine SOps.freezeRef (t := 4) 0 0 rfl rfl rfl rfl rfl ?_
        refine SOps.nil ?_
        refine SCode.seq ?_
        have hi5 : i < a.length := by omega
        refine SCode.weaken (st' := (⟨38, [(0, DLs a), (3, .v (.int .i64 (i : Int))), (4, .ipin (encL (a[i]))), (13, DLs a), (14, .v (.int .i64 (a.length : Int))), (15, .v (.int .i64 (i : Int)))], []⟩ : St)) (St.Le.of ⟨rfl, rfl, rfl, rfl, rfl, rfl, trivial⟩) ?_
        rcases (show (a[i]).rune ≤ 32 ∨ (¬ (a[i]).rune ≤ 32 ∧ runeOK (a[i]).rune = false) ∨ (¬ (a[i]).rune ≤ 32 ∧ runeOK (a[i]).rune = true) from by rcases h : runeOK (a[i]).rune with _ | _ <;> simp <;> omega) with hq | ⟨hq, hq2⟩ | ⟨hq, hq2⟩
        · refine SCode.drawPure mixed_ [(20, .ipin (encL (a[i]))), (21, .v (.int .i32 (a[i]).rune)), (22, .v (.bool true)), (23, .v (.bool true)), (24, .v (.tuple #[])), (25, .v (.tuple #[])), (26, .v (.tuple #[])), (27, .v (.tuple #[])), (28, .v (.bool true)), (29, .v (.bool true)), (30, .v (.tuple #[])), (31, .v (.tuple #[])), (32, .v (.tuple #[])), (33, .v (.tuple #[])), (34, .v (.tuple #[])), (35, .v (.tuple #[])), (36, .v (.bool true))] [20, 21, 22, 23, 24, 25, 26, 27, 28, 29, 30, 31, 32, 33, 34, 35, 36] [[.inr 4], [.inl 0], [.inl 1], [.inl 2], [.inl 3], [.inl 3], [.inl 3], [.inl 3], [.inl 3, .inl 7], [.inl 8], [.inl 9], [.inl 9], [.inl 9], [.inl 9], [.inl 9], [.inl 9], [.inl 9, .inl 15]] [[(4, .ipin (encL (a[i])))], [(20, .ipin (encL (a[i])))], [(21, .v (.int .i32 (a[i]).rune))], [(22, .v (.bool true))], [(23, .v (.bool true))], [(23, .v (.bool true))], [(23, .v (.bool true))], [(23, .v (.bool true))], [(23, .v (.bool true)), (27, .v (.tuple #[]))], [(28, .v (.bool true))], [(29, .v (.bool true))], [(29, .v (.bool true))], [(29, .v (.bool true))], [(29, .v (.bool true))], [(29, .v (.bool true))], [(29, .v (.bool true))], [(29, .v (.bool true)), (35, .v (.tuple #[]))]] rfl (by kernel_rfl) (by kernel_rfl) rfl ?_ ?_
          · refine OpsOk.cons (fun rest => ?_) ?_
            · refine SOps.fieldPin rfl fieldB_28_0_0 ?_
              exact SOps.nil (by first | rfl | simp_all)
            refine OpsOk.cons (fun rest => ?_) ?_
            · refine SOps.loadPin rfl flatB_21 ?_
              exact SOps.nil (by first | rfl | simp_all)
            refine OpsOk.cons (fun rest => ?_) ?_
            · refine SOps.bin rfl rfl rfl ?_
              exact SOps.nil (by simp only [decide_eq_true hq]; rfl)
            refine OpsOk.cons (fun rest => ?_) ?_
            · refine SOps.move rfl ?_
              exact SOps.nil (by first | rfl | simp_all)
            refine OpsOk.cons (fun rest => ?_) ?_
            · refine SOps.skip rfl ?_
              exact SOps.nil (by first | rfl | simp_all)
            refine OpsOk.cons (fun rest => ?_) ?_
            · refine SOps.skip rfl ?_
              exact SOps.nil (by first | rfl | simp_all)
            refine OpsOk.cons (fun rest => ?_) ?_
            · refine SOps.skip rfl ?_
              exact SOps.nil (by first | rfl | simp_all)
            refine OpsOk.cons (fun rest => ?_) ?_
            · refine SOps.skip rfl ?_
              exact SOps.nil (by first | rfl | simp_all)
            refine OpsOk.cons (fun rest => ?_) ?_
            · refine SOps.pick rfl rfl ?_
              exact SOps.nil (by first | rfl | simp_all)
            refine OpsOk.cons (fun rest => ?_) ?_
            · refine SOps.move rfl ?_
              exact SOps.nil (by first | rfl | simp_all)
            refine OpsOk.cons (fun rest => ?_) ?_
            · refine SOps.skip rfl ?_
              exact SOps.nil (by first | rfl | simp_all)
            refine OpsOk.cons (fun rest => ?_) ?_
            · refine SOps.skip rfl ?_
              exact SOps.nil (by first | rfl | simp_all)
            refine OpsOk.cons (fun rest => ?_) ?_
            · refine SOps.skip rfl ?_
              exact SOps.nil (by first | rfl | simp_all)
            refine OpsOk.cons (fun rest => ?_) ?_
            · refine SOps.skip rfl ?_
              exact SOps.nil (by first | rfl | simp_all)
            refine OpsOk.cons (fun rest => ?_) ?_
            · refine SOps.skip rfl ?_
              exact SOps.nil (by first | rfl | simp_all)
            refine OpsOk.cons (fun rest => ?_) ?_
            · refine SOps.skip rfl ?_
              exact SOps.nil (by first | rfl | simp_all)
            refine OpsOk.cons (fun rest => ?_) ?_
            · refine SOps.pick rfl rfl ?_
              exact SOps.nil (by first | rfl | simp_all)
            exact OpsOk.nil
          · show SCode _ _ _ _
            refine SCode.cond rfl (fun _ => ?_) (fun h => by cases h)
            refine SCode.seqR ?_
            refine SOps.assign rfl ?_
            refine SOps.nil ?_
            refine SCode.ret ?_
            exact ⟨_, Res.one (.tmp rfl), congrArg (fun b => DV.v (.bool b)) (Eq.symm (Bool.eq_false_iff.2 (fun h => by have := goodR_split.1 ((properB_iff.1 (by simp only [admA, Bool.and_eq_true] at h; exact h.2)).1 _ (List.getElem_mem (show i < a.length by omega))); omega))), rfl⟩
        · refine SCode.drawPure mixed_ [(20, .ipin (encL (a[i]))), (21, .v (.int .i32 (a[i]).rune)), (22, .v (.bool false)), (23, .v (.bool false)), (24, .ipin (encL (a[i]))), (25, .v (.int .i32 (a[i]).rune)), (26, .v (.bool false)), (27, .v (.bool true)), (28, .v (.bool true)), (29, .v (.bool true)), (30, .v (.tuple #[])), (31, .v (.tuple #[])), (32, .v (.tuple #[])), (33, .v (.tuple #[])), (34, .v (.tuple #[])), (35, .v (.tuple #[])), (36, .v (.bool true))] [20, 21, 22, 23, 24, 25, 26, 27, 28, 29, 30, 31, 32, 33, 34, 35, 36] [[.inr 4], [.inl 0], [.inl 1], [.inl 2], [.inl 3, .inr 4], [.inl 3, .inl 4], [.inl 3, .inl 5], [.inl 3, .inl 6], [.inl 3, .inl 7], [.inl 8], [.inl 9], [.inl 9], [.inl 9], [.inl 9], [.inl 9], [.inl 9], [.inl 9, .inl 15]] [[(4, .ipin (encL (a[i])))], [(20, .ipin (encL (a[i])))], [(21, .v (.int .i32 (a[i]).rune))], [(22, .v (.bool false))], [(23, .v (.bool false)), (4, .ipin (encL (a[i])))], [(23, .v (.bool false)), (24, .ipin (encL (a[i])))], [(23, .v (.bool false)), (25, .v (.int .i32 (a[i]).rune))], [(23, .v (.bool false)), (26, .v (.bool false))], [(23, .v (.bool false)), (27, .v (.bool true))], [(28, .v (.bool true))], [(29, .v (.bool true))], [(29, .v (.bool true))], [(29, .v (.bool true))], [(29, .v (.bool true))], [(29, .v (.bool true))], [(29, .v (.bool true))], [(29, .v (.bool true)), (35, .v (.tuple #[]))]] rfl (by kernel_rfl) (by kernel_rfl) rfl ?_ ?_
          · refine OpsOk.cons (fun rest => ?_) ?_
            · refine SOps.fieldPin rfl fieldB_28_0_0 ?_
              exact SOps.nil (by first | rfl | simp_all)
            refine OpsOk.cons (fun rest => ?_) ?_
            · refine SOps.loadPin rfl flatB_21 ?_
              exact SOps.nil (by first | rfl | simp_all)
            refine OpsOk.cons (fun rest => ?_) ?_
            · refine SOps.bin rfl rfl rfl ?_
              exact SOps.nil (by simp only [decide_eq_false hq]; rfl)
            refine OpsOk.cons (fun rest => ?_) ?_
            · refine SOps.move rfl ?_
              exact SOps.nil (by first | rfl | simp_all)
            refine OpsOk.cons (fun rest => ?_) ?_
            · refine SOps.fieldPin rfl fieldB_28_0_0 ?_
              exact SOps.nil (by first | rfl | simp_all)
            refine OpsOk.cons (fun rest => ?_) ?_
            · refine SOps.loadPin rfl flatB_21 ?_
              exact SOps.nil (by first | rfl | simp_all)
            refine OpsOk.cons (fun rest => ?_) ?_
            · refine SOps.callP (uValidRune _) rfl ?_
              rintro _ rfl
              exact SOps.nil (by simp only [hq2]; rfl)
            refine OpsOk.cons (fun rest => ?_) ?_
            · refine SOps.un rfl rfl ?_
              exact SOps.nil (by first | rfl | simp_all)
            refine OpsOk.cons (fun rest => ?_) ?_
            · refine SOps.pick rfl rfl ?_
              exact SOps.nil (by first | rfl | simp_all)
            refine OpsOk.cons (fun rest => ?_) ?_
            · refine SOps.move rfl ?_
              exact SOps.nil (by first | rfl | simp_all)
            refine OpsOk.cons (fun rest => ?_) ?_
            · refine SOps.skip rfl ?_
              exact SOps.nil (by first | rfl | simp_all)
            refine OpsOk.cons (fun rest => ?_) ?_
            · refine SOps.skip rfl ?_
              exact SOps.nil (by first | rfl | simp_all)
            refine OpsOk.cons (fun rest => ?_) ?_
            · refine SOps.skip rfl ?_
              exact SOps.nil (by first | rfl | simp_all)
            refine OpsOk.cons (fun rest => ?_) ?_
            · refine SOps.skip rfl ?_
              exact SOps.nil (by first | rfl | simp_all)
            refine OpsOk.cons (fun rest => ?_) ?_
            · refine SOps.skip rfl ?_
              exact SOps.nil (by first | rfl | simp_all)
            refine OpsOk.cons (fun rest => ?_) ?_
            · refine SOps.skip rfl ?_
              exact SOps.nil (by first | rfl | simp_all)
            refine OpsOk.cons (fun rest => ?_) ?_
            · refine SOps.pick rfl rfl ?_
              exact SOps.nil (by first | rfl | simp_all)
            exact OpsOk.nil
          · show SCode _ _ _ _
            refine SCode.cond rfl (fun _ => ?_) (fun h => by cases h)
            refine SCode.seqR ?_
            refine SOps.assign rfl ?_
            refine SOps.nil ?_
            refine SCode.ret ?_
            exact ⟨_, Res.one (.tmp rfl), congrArg (fun b => DV.v (.bool b)) (Eq.symm (Bool.eq_false_iff.2 (fun h => by have := goodR_split.1 ((properB_iff.1 (by simp only [admA, Bool.and_eq_true] at h; exact h.2)).1 _ (List.getElem_mem (show i < a.length by omega))); rw [this.2] at hq2; cases hq2))), rfl⟩
        · refine SCode.drawPure mixed_ [(20, .ipin (encL (a[i]))), (21, .v (.int .i32 (a[i]).rune)), (22, .v (.bool false)), (23, .v (.bool false)), (24, .ipin (encL (a[i]))), (25, .v (.int .i32 (a[i]).rune)), (26, .v (.bool true)), (27, .v (.bool false)), (28, .v (.bool false)), (29, .v (.bool false)), (30, DLs a), (31, .v (.int .i64 (i : Int))), (32, DLs (a.take i)), (33, .ipin (encL (a[i]))), (34, .v (.int .i32 (a[i]).rune)), (35, .v (.bool (idx (a.take i) (a[i]).rune).isSome)), (36, .v (.bool (idx (a.take i) (a[i]).rune).isSome))] [20, 21, 22, 23, 24, 25, 26, 27, 28, 29, 30, 31, 32, 33, 34, 35, 36] [[.inr 4], [.inl 0], [.inl 1], [.inl 2], [.inl 3, .inr 4], [.inl 3, .inl 4], [.inl 3, .inl 5], [.inl 3, .inl 6], [.inl 3, .inl 7], [.inl 8], [.inl 9, .inr 0], [.inl 9, .inr 3], [.inl 9, .inl 10, .inl 11], [.inl 9, .inr 4], [.inl 9, .inl 13], [.inl 9, .inl 12, .inl 14], [.inl 9, .inl 15]] [[(4, .ipin (encL (a[i])))], [(20, .ipin (encL (a[i])))], [(21, .v (.int .i32 (a[i]).rune))], [(22, .v (.bool false))], [(23, .v (.bool false)), (4, .ipin (encL (a[i])))], [(23, .v (.bool false)), (24, .ipin (encL (a[i])))], [(23, .v (.bool false)), (25, .v (.int .i32 (a[i]).rune))], [(23, .v (.bool false)), (26, .v (.bool true))], [(23, .v (.bool false)), (27, .v (.bool false))], [(28, .v (.bool false))], [(29, .v (.bool false)), (0, DLs a)], [(29, .v (.bool false)), (3, .v (.int .i64 (i : Int)))], [(29, .v (.bool false)), (30, DLs a), (31, .v (.int .i64 (i : Int)))], [(29, .v (.bool false)), (4, .ipin (encL (a[i])))], [(29, .v (.bool false)), (33, .ipin (encL (a[i])))], [(29, .v (.bool false)), (32, DLs (a.take i)), (34, .v (.int .i32 (a[i]).rune))], [(29, .v (.bool false)), (35, .v (.bool (idx (a.take i) (a[i]).rune).isSome))]] rfl (by kernel_rfl) (by kernel_rfl) rfl ?_ ?_
          · refine OpsOk.cons (fun rest => ?_) ?_
            · refine SOps.fieldPin rfl fieldB_28_0_0 ?_
              exact SOps.nil (by first | rfl | simp_all)
            refine OpsOk.cons (fun rest => ?_) ?_
            · refine SOps.loadPin rfl flatB_21 ?_
              exact SOps.nil (by first | rfl | simp_all)
            refine OpsOk.cons (fun rest => ?_) ?_
            · refine SOps.bin rfl rfl rfl ?_
              exact SOps.nil (by simp only [decide_eq_false hq]; rfl)
            refine OpsOk.cons (fun rest => ?_) ?_
            · refine SOps.move rfl ?_
              exact SOps.nil (by first | rfl | simp_all)
            refine OpsOk.cons (fun rest => ?_) ?_
            · refine SOps.fieldPin rfl fieldB_28_0_0 ?_
              exact SOps.nil (by first | rfl | simp_all)
            refine OpsOk.cons (fun rest => ?_) ?_
            · refine SOps.loadPin rfl flatB_21 ?_
              exact SOps.nil (by first | rfl | simp_all)
            refine OpsOk.cons (fun rest => ?_) ?_
            · refine SOps.callP (uValidRune _) rfl ?_
              rintro _ rfl
              exact SOps.nil (by simp only [hq2]; rfl)
            refine OpsOk.cons (fun rest => ?_) ?_
            · refine SOps.un rfl rfl ?_
              exact SOps.nil (by first | rfl | simp_all)
            refine OpsOk.cons (fun rest => ?_) ?_
            · refine SOps.pick rfl rfl ?_
              exact SOps.nil (by first | rfl | simp_all)
            refine OpsOk.cons (fun rest => ?_) ?_
            · refine SOps.move rfl ?_
              exact SOps.nil (by first | rfl | simp_all)
            refine OpsOk.cons (fun rest => ?_) ?_
            · refine SOps.move rfl ?_
              exact SOps.nil (by first | rfl | simp_all)
            refine OpsOk.cons (fun rest => ?_) ?_
            · refine SOps.move rfl ?_
              exact SOps.nil (by first | rfl | simp_all)
            refine OpsOk.cons (fun rest => ?_) ?_
            · refine SOps.sliceT (n1 := 0) (i) sliceB_92_28_2 rfl rfl (by omega) (by omega) ?_
              exact SOps.nil (by first | rfl | simp_all)
            refine OpsOk.cons (fun rest => ?_) ?_
            · refine SOps.fieldPin rfl fieldB_28_0_0 ?_
              exact SOps.nil (by first | rfl | simp_all)
            refine OpsOk.cons (fun rest => ?_) ?_
            · refine SOps.loadPin rfl flatB_21 ?_
              exact SOps.nil (by first | rfl | simp_all)
            refine OpsOk.cons (fun rest => ?_) ?_
            · refine SOps.callP (lHas _ _) rfl ?_
              rintro _ rfl
              exact SOps.nil (by first | rfl | simp_all)
            refine OpsOk.cons (fun rest => ?_) ?_
            · refine SOps.pick rfl rfl ?_
              exact SOps.nil (by first | rfl | simp_all)
            exact OpsOk.nil
          · show SCode _ _ _ _
            refine SCode.cond rfl (fun hc4 => ?_) (fun hc4 => ?_)
            · try simp only [nmL] at hc4
              refine SCode.seqR ?_
              refine SOps.assign rfl ?_
              refine SOps.nil ?_
              refine SCode.ret ?_
              exact ⟨_, Res.one (.tmp rfl), congrArg (fun b => DV.v (.bool b)) (Eq.symm (Bool.eq_false_iff.2 (fun h => by have := ((nodup_snoc (show i < a.length by omega)).1 (properB_take (by simp only [admA, Bool.and_eq_true] at h; exact h.2) (i + 1)).2).2; rw [this] at hc4; cases hc4))), rfl⟩
            · try simp only [nmL] at hc4
              refine SCode.skip ?_
              show SCode _ _ _ _
              refine SCode.region ?_
              refine SOps.addI rfl rfl (by omega) (by omega) ?_
              refine SOps.move rfl ?_
              refine SOps.nil ?_
              exact ⟨i + 1, by exact ⟨by omega, take_more hf.1 (by omega) (goodR_split.2 ⟨by omega, hq2⟩), (nodup_snoc (by omega)).2 ⟨hf.2, by cases h : idx (a.take i) (a[i]).rune with | none => rfl | some k => rw [h] at hc4; cases hc4⟩⟩, by omega, (St.Le.of ⟨(by first | rfl | (show some _ = some _; simp)), (by first | rfl | (show some _ = some _; simp)), (by first | rfl | (show some _ = some _; simp)), (by first | rfl | (show some _ = some _; simp)), trivial⟩ rfl (by first | rfl | (simp)))⟩
      · try simp only [nmL] at hc3
        refine SCode.exit ?_
        show SCode _ _ _ _
        refine SCode.seqR ?_
        refine SOps.assign rfl ?_
        refine SOps.nil ?_
        refine SCode.ret ?_
        exact ⟨_, Res.one (.tmp rfl), congrArg (fun b => DV.v (.bool b)) (Eq.symm (by simp only [admA, Bool.and_eq_true, decide_eq_true_eq]; exact ⟨⟨by omega, by omega⟩, properB_iff.2 ⟨by rw [List.take_of_length_le (by omega)] at hf; exact hf.1, by rw [List.take_of_length_le (by omega)] at hf; exact hf.2⟩⟩)), rfl⟩
def consS (a : List Letter) (n : Nat) (s : ByteArray) : Bool := utf8R s && decide ((runes s).length ≤ n) && (runes s).all (fun r => (idx a r).isSome)
theorem lCons (hV : VS E) (a : List Letter) (n : Nat) (s : ByteArray)  : GCall Tryd.prog E 61 [.v (.string s), .v (.int .i64 (n : Int)), .bfn 60 [DLs a]] [] (fun d H => d = .v (.bool (consS a n s)) ∧ H = []) := by
  refine GCall.body (C := ⟨Tryd.prog, E, true⟩) Tryd.func61 rfl (fun _ => rfl) (by kernel_rfl) rfl ?_
  refine SCode.seqR ?_
  refine SOps.assign rfl ?_
  refine SOps.nil ?_
  refine SCode.seq ?_
  refine SCode.seqR ?_
  refine SOps.move rfl ?_
  refine SOps.callP (hV _) rfl ?_
  rintro _ rfl
  refine SOps.un rfl rfl ?_
  refine SOps.nil ?_
  refine SCode.cond rfl (fun hc1 => ?_) (fun hc1 => ?_)
  · try simp only [nmL] at hc1
    refine SCode.seqR ?_
    refine SOps.assign rfl ?_
    refine SOps.nil ?_
    refine SCode.ret ?_
    exact ⟨_, Res.one (.tmp rfl), congrArg (fun b => DV.v (.bool b)) (Eq.symm (Bool.eq_false_iff.2 (fun h => by simp only [consS, Bool.and_eq_true] at h; rw [h.1.1] at hc1; cases hc1))), rfl⟩
  · try simp only [nmL] at hc1
    refine SCode.skip ?_
    show SCode _ _ _ _
    refine SCode.seqR ?_
    refine SOps.assign rfl ?_
    refine SOps.nil ?_
    refine SCode.seq ?_
    refine SCode.seqR ?_
    refine SOps.move rfl ?_
    refine SOps.rangeStr rfl strB_9 (fun b0 hb_0 => ?_)
    refine SOps.nil ?_
    refine SCode.block ?_
    refine SCode.fact (v_scal (t := 0) rfl) (fun hS => ?_)
    simp only [scal, lenB] at hS
    refine SCode.loop3 (fun (p : Nat) (c : Nat) (b : Nat) => (⟨29, [(1, .v (.int .i64 (n : Int))), (2, .bfn 60 [DLs a]), (7, .v (.int .i64 (c : Int))), (14, .it b)], [(b, .iter s p)]⟩ : St)) (fun (p : Nat) (c : Nat) (b : Nat) => c ≤ p ∧ c ≤ n ∧ c + (runesAt s p).length = (runes s).length ∧ (runesAt s p).all (fun r => (idx a r).isSome) = (runes s).all (fun r => (idx a r).isSome)) (fun (p : Nat) (c : Nat) (b : Nat) => s.size - p) (0) (0) (b0) (by exact ⟨Nat.le_refl _, Nat.zero_le _, by rw [Nat.zero_add]; rfl, rfl⟩) (St.Le.of ⟨(by first | rfl | (show some _ = some _; simp)), (by first | rfl | (show some _ = some _; simp)), (by first | rfl | (show some _ = some _; simp)), (by first | rfl | (show some _ = some _; simp)), trivial⟩ rfl (by first | rfl | (simp))) ?_
    rintro p c b ⟨hc, hcn, hl, hf⟩
    refine SCode.seqR ?_
    refine SOps.next 0 rfl rfl (fun hn2 => ?_) (fun hn2 => ?_) (by first | omega | (simp only [lenB]; omega))
    · refine SOps.extract rfl rfl ?_
      refine SOps.nil ?_
      refine SCode.seq ?_
      refine SCode.cond rfl (fun _ => ?_) (fun h => by cases h)
      refine SCode.skip ?_
      show SCode _ _ _ _
      refine SCode.block ?_
      refine SCode.seqR ?_
      refine SOps.extract rfl rfl ?_
      refine SOps.assign rfl ?_
      refine SOps.nil ?_
      refine SCode.seqR ?_
      refine SOps.move rfl ?_
      refine SOps.addI rfl rfl (by first | omega | (simp only [lenB]; omega)) (by first | omega | (simp only [lenB]; omega)) ?_
      refine SOps.assign rfl ?_
      refine SOps.nil ?_
      refine SCode.seqR ?_
      refine SOps.move rfl ?_
      refine SOps.move rfl ?_
      refine SOps.bin rfl rfl rfl ?_
      refine SOps.move rfl ?_
      refine SOps.caseB 23 rfl (fun hb3 => ?_) (fun hb3 => ?_)
      · try simp only [nmL] at hb3
        refine SOps.skip rfl ?_
        refine SOps.skip rfl ?_
        refine SOps.skip rfl ?_
        refine SOps.skip rfl ?_
        refine SOps.pick rfl rfl ?_
        refine SOps.nil ?_
        refine SCode.cond rfl (fun _ => ?_) (fun h => by cases h)
        refine SCode.seqR ?_
        refine SOps.assign rfl ?_
        refine SOps.nil ?_
        refine SCode.drop ?_
        refine SCode.ret ?_
        exact ⟨_, Res.one (.tmp rfl), congrArg (fun b => DV.v (.bool b)) (Eq.symm (Bool.eq_false_iff.2 (fun h => by simp only [consS, Bool.and_eq_true, decide_eq_true_eq] at h; rw [runes_len_step hn2] at hl; omega))), rfl⟩
      · try simp only [nmL] at hb3
        refine SOps.move rfl ?_
        refine SOps.move rfl ?_
        refine SOps.callB rfl (lHas _ _) rfl ?_
        rintro _ rfl
        refine SOps.un rfl rfl ?_
        refine SOps.pick rfl rfl ?_
        refine SOps.nil ?_
        refine SCode.cond rfl (fun hc4 => ?_) (fun hc4 => ?_)
        · try simp only [nmL] at hc4
          refine SCode.seqR ?_
          refine SOps.assign rfl ?_
          refine SOps.nil ?_
          refine SCode.drop ?_
          refine SCode.ret ?_
          exact ⟨_, Res.one (.tmp rfl), congrArg (fun b => DV.v (.bool b)) (Eq.symm (Bool.eq_false_iff.2 (fun h => by simp only [consS, Bool.and_eq_true] at h; rw [← hf, runes_step hn2, hc4] at h; simp at h))), rfl⟩
        · try simp only [nmL] at hc4
          refine SCode.skip ?_
          exact ⟨p + (Utf8.decode s p).2, c + 1, b, by refine ⟨by have := decode_w s p; omega, by omega, by rw [← hl, runes_len_step hn2]; omega, ?_⟩; rw [← hf, runes_step hn2, hc4]; rfl, by have := decode_w s p; omega, (St.Le.of ⟨(by first | rfl | (show some _ = some _; simp)), (by first | rfl | (show some _ = some _; simp)), (by first | rfl | (show some _ = some _; simp)), (by first | rfl | (show some _ = some _; simp)), trivial⟩ rfl (by first | rfl | (simp)))⟩
    · refine SOps.extract rfl rfl ?_
      refine SOps.nil ?_
      refine SCode.seq ?_
      refine SCode.cond rfl (fun h => by cases h) (fun _ => ?_)
      refine SCode.exit ?_
      show SCode _ _ _ _
      refine SCode.seqR ?_
      refine SOps.assign rfl ?_
      refine SOps.nil ?_
      refine SCode.drop ?_
      refine SCode.ret ?_
      exact ⟨_, Res.one (.tmp rfl), congrArg (fun b => DV.v (.bool b)) (Eq.symm (by rw [consS, hc1, ← hf, ← hl, runesAt_ge hn2]; simp; omega)), rfl⟩
theorem lIsWord (hV : VS E) (a : List Letter) (s : ByteArray)  : GCall Tryd.prog E 91 [DLs a, .v (.string s)] [] (fun d H => d = .v (.bool (consS a 40 s)) ∧ H = []) := by
  refine GCall.body (C := ⟨Tryd.prog, E, true⟩) Tryd.func91 rfl (fun _ => rfl) (by kernel_rfl) rfl ?_
  refine SCode.seqR ?_
  refine SOps.assign rfl ?_
  refine SOps.nil ?_
  refine SCode.seqR ?_
  refine SOps.move rfl ?_
  refine SOps.move rfl ?_
  refine SOps.makeFuncB rfl ?_
  refine SOps.callP (lCons hV _ 40 _) rfl ?_
  rintro _ rfl
  refine SOps.assign rfl ?_
  refine SOps.nil ?_
  refine SCode.ret ?_
  exact ⟨_, Res.one (.tmp rfl), rfl, rfl⟩
theorem pProper (a : List Letter)  : GCall Tryd.prog E 80 [DLs a] [] (fun d H => d = (if properB a then .tup [.imap ((mapOf a).map encE), .v (.bool (decide ((a.length : Int) ≤ 65)))] else .tup [.v (.map none), .v (.bool false)]) ∧ H = []) := by
  refine GCall.body (C := ⟨Tryd.prog, E, true⟩) Tryd.func80 rfl (fun _ => rfl) (by kernel_rfl) rfl ?_
  refine SCode.seqR ?_
  refine SOps.assign rfl ?_
  refine SOps.assign rfl ?_
  refine SOps.nil ?_
  refine SCode.seqR ?_
  refine SOps.move rfl ?_
  refine SOps.lenM rfl sliceB_22_28_2 ?_
  refine SOps.makeMapN mapB_89 rfl (fun b0 hb_0 => ?_)
  refine SOps.assign rfl ?_
  refine SOps.nil ?_
  refine SCode.seq ?_
  refine SCode.seqR ?_
  refine SOps.move rfl ?_
  refine SOps.lenM rfl sliceB_22_28_2 ?_
  refine SOps.move rfl ?_
  refine SOps.nil ?_
  refine SCode.block ?_
  refine SCode.loop2 (fun (i : Nat) (b : Nat) => (⟨47, [(0, DLs a), (4, .mp b), (12, DLs a), (13, .v (.int .i64 (a.length : Int))), (14, .v (.int .i64 (i : Int)))], [(b, .map ((mapOf (a.take i)).map encE))]⟩ : St)) (fun (i : Nat) (b : Nat) => i ≤ a.length ∧ (∀ l ∈ a.take i, goodR l.rune = true) ∧ ((a.take i).map (·.rune)).Nodup) (fun (i : Nat) (b : Nat) => a.length - i) (0) (b0) (by simp) (St.Le.of ⟨(by first | rfl | (show some _ = some _; simp)), (by first | rfl | (show some _ = some _; simp)), (by first | rfl | (show some _ = some _; simp)), (by first | rfl | (show some _ = some _; simp)), (by first | rfl | (show some _ = some _; simp)), trivial⟩ rfl (by first | rfl | (simp))) ?_
  rintro i b ⟨hi, hf⟩
  refine SCode.fact (isl_len (t := 0) rfl) (fun hB => ?_)
  simp only [List.length_map, lenB] at hB
  refine SCode.seqR ?_
  refine SOps.bin rfl rfl rfl ?_
  refine SOps.nil ?_
  refine SCode.seq ?_
  refine SCode.cond rfl (fun hc1 => ?_) (fun hc1 => ?_)
  · try simp only [nmL] at hc1
    refine SCode.skip ?_
    show SCode _ _ _ _
    refine SCode.seq ?_
    refine SCode.block ?_
    refine SCode.seqR ?_
    refine SOps.move rfl ?_
    refine SOps.indexM (i) rfl rfl sliceB_22_28_2 (by omega) (by omega) ?_
    refine SOps.loadPinA rfl aggB_28_2 (Nat.le_of_ble_eq_true rfl) ?_
    refine SOps.alloc (sz := 2) zeroIs_28 (fun b1 hb_1 => ?_)
    refine SOps.assign rfl ?_
    refine SOps.storeAM 0 rfl rfl aggB_28_2 rfl ?_
    refine SOps.freezeRef (t := 6) 0 0 rfl rfl rfl rfl rfl ?_
    refine SOps.nil ?_
    refine SCode.seq ?_
    refine SCode.seqR ?_
    refine SOps.move rfl ?_
    refine SOps.fieldPin rfl fieldB_28_0_0 ?_
    refine SOps.loadPin rfl flatB_21 ?_
    refine SOps.lookupOM 0 (idx (a.take i) (a[i]).rune) (fun i => DV.v (.int .i64 ((i : Nat) : Int))) rfl rfl rfl mapB_89 (keys_enc _) zeroIs_3 (lookup_mapOf _ _) (fun y2 hy2 => ?_) (fun hy2 => ?_)
    · refine SOps.move rfl ?_
      refine SOps.extract rfl rfl ?_
      refine SOps.extract rfl rfl ?_
      refine SOps.assign rfl ?_
      refine SOps.assign rfl ?_
      refine SOps.nil ?_
      refine SCode.seqR ?_
      refine SOps.move rfl ?_
      refine SOps.move rfl ?_
      refine SOps.skip rfl ?_
      refine SOps.skip rfl ?_
      refine SOps.skip rfl ?_
      refine SOps.pick rfl rfl ?_
      refine SOps.move rfl ?_
      refine SOps.skip rfl ?_
      refine SOps.skip rfl ?_
      refine SOps.skip rfl ?_
      refine SOps.skip rfl ?_
      refine SOps.pick rfl rfl ?_
      refine SOps.nil ?_
      refine SCode.cond rfl (fun _ => ?_) (fun h => by cases h)
      refine SCode.seqR ?_
      refine SOps.assign rfl ?_
      refine SOps.assign rfl ?_
      refine SOps.nil ?_
      refine SCode.drop ?_
      refine SCode.ret ?_
      exact ⟨_, Res.two (.tmp rfl) (.tmp rfl), by rw [if_neg (fun h => by have := ((nodup_snoc (show i < a.length by omega)).1 (properB_take h (i + 1)).2).2; rw [this] at hy2; cases hy2)], rfl⟩
    · refine SOps.move rfl ?_
      refine SOps.extract rfl rfl ?_
      refine SOps.extract rfl rfl ?_
      refine SOps.assign rfl ?_
      refine SOps.assign rfl ?_
      refine SOps.nil ?_
      refine SCode.seqR ?_
      refine SOps.move rfl ?_
      refine SOps.move rfl ?_
      refine SOps.fieldPin rfl fieldB_28_0_0 ?_
      refine SOps.loadPin rfl flatB_21 ?_
      refine SOps.bin rfl rfl rfl ?_
      refine SOps.pick rfl rfl ?_
      refine SOps.move rfl ?_
      refine SOps.caseB 32 rfl (fun hb3 => ?_) (fun hb3 => ?_)
      · try simp only [nmL] at hb3
        refine SOps.skip rfl ?_
        refine SOps.skip rfl ?_
        refine SOps.skip rfl ?_
        refine SOps.skip rfl ?_
        refine SOps.pick rfl rfl ?_
        refine SOps.nil ?_
        refine SCode.cond rfl (fun _ => ?_) (fun h => by cases h)
        refine SCode.seqR ?_
        refine SOps.assign rfl ?_
        refine SOps.assign rfl ?_
        refine SOps.nil ?_
        refine SCode.drop ?_
        refine SCode.ret ?_
        exact ⟨_, Res.two (.tmp rfl) (.tmp rfl), by rw [if_neg (fun h => by have := goodR_split.1 ((properB_iff.1 h).1 _ (List.getElem_mem (show i < a.length by omega))); omega)], rfl⟩
      · try simp only [nmL] at hb3
        refine SOps.fieldPin rfl fieldB_28_0_0 ?_
        refine SOps.loadPin rfl flatB_21 ?_
        refine SOps.callP (uValidRune _) rfl ?_
        rintro _ rfl
        refine SOps.un rfl rfl ?_
        refine SOps.pick rfl rfl ?_
        refine SOps.nil ?_
        refine SCode.cond rfl (fun hc4 => ?_) (fun hc4 => ?_)
        · try simp only [nmL] at hc4
          refine SCode.seqR ?_
          refine SOps.assign rfl ?_
          refine SOps.assign rfl ?_
          refine SOps.nil ?_
          refine SCode.drop ?_
          refine SCode.ret ?_
          exact ⟨_, Res.two (.tmp rfl) (.tmp rfl), by rw [if_neg (fun h => by have := goodR_split.1 ((properB_iff.1 h).1 _ (List.getElem_mem (show i < a.length by omega))); rw [this.2] at hc4; cases hc4)], rfl⟩
        · try simp only [nmL] at hc4
          refine SCode.skip ?_
          show SCode _ _ _ _
          refine SCode.region ?_
          refine SOps.move rfl ?_
          refine SOps.fieldPin rfl fieldB_28_0_0 ?_
          refine SOps.loadPin rfl flatB_21 ?_
          refine SOps.move rfl ?_
          refine SOps.mapUpdate 0 rfl rfl rfl rfl mapB_89 rfl (keys_enc _) ?_
          refine SOps.nil ?_
          show SCode _ _ _ _
          refine SCode.region ?_
          refine SOps.addI rfl rfl (by omega) (by omega) ?_
          refine SOps.move rfl ?_
          refine SOps.nil ?_
          exact ⟨i + 1, b, ⟨by omega, take_more hf.1 (by omega) (goodR_split.2 ⟨by omega, hc4⟩), (nodup_snoc (by omega)).2 ⟨hf.2, hy2⟩⟩, by omega, St.Le.of ⟨rfl, rfl, rfl, rfl, rfl, trivial⟩ rfl (congrArg (fun x => [(b, DO.map x)]) (by rw [mapOf_snoc (by omega)]; exact (upd_enc _ _ _ (by rw [findE_mapOf]; exact hy2)).symm))⟩
  · try simp only [nmL] at hc1
    refine SCode.exit ?_
    show SCode _ _ _ _
    refine SCode.seqR ?_
    refine SOps.freezeMap (t := 4) 0 rfl rfl rfl ?_
    refine SOps.move rfl ?_
    refine SOps.move rfl ?_
    refine SOps.lenM rfl sliceB_22_28_2 ?_
    refine SOps.bin rfl rfl rfl ?_
    refine SOps.assign rfl ?_
    refine SOps.assign rfl ?_
    refine SOps.nil ?_
    refine SCode.drop ?_
    refine SCode.ret ?_
    rw [List.take_of_length_le (by omega)] at hf ⊢
    exact ⟨_, Res.two (.tmp rfl) (.tmp rfl), by rw [if_pos (properB_iff.2 hf)], rfl⟩
theorem pOver (hV : VS E) (a : List Letter) (s : ByteArray) (hs : s.size ≤ 1048576) : GCall Tryd.prog E 81 [DMap a, .v (.string s)] [] (fun d H => d = (if overA a s then .tup [DNats (idxs a s), .v (.bool true)] else .tup [.v (.slice none 0 0), .v (.bool false)]) ∧ H = []) := by
  refine GCall.body (C := ⟨Tryd.prog, E, true⟩) Tryd.func81 rfl (fun _ => rfl) (by kernel_rfl) rfl ?_
  refine SCode.seqR ?_
  refine SOps.assign rfl ?_
  refine SOps.assign rfl ?_
  refine SOps.nil ?_
  refine SCode.seq ?_
  refine SCode.seqR ?_
  refine SOps.move rfl ?_
  refine SOps.callP (hV _) rfl ?_
  rintro _ rfl
  refine SOps.un rfl rfl ?_
  refine SOps.nil ?_
  refine SCode.cond rfl (fun hc1 => ?_) (fun hc1 => ?_)
  · try simp only [nmL] at hc1
    refine SCode.seqR ?_
    refine SOps.assign rfl ?_
    refine SOps.assign rfl ?_
    refine SOps.nil ?_
    refine SCode.ret ?_
    have hov : overA a s = false := Bool.eq_false_iff.2 (fun h => by simp only [overA, Bool.and_eq_true] at h; rw [h.1] at hc1; cases hc1)
    exact ⟨_, Res.two (.tmp rfl) (.tmp rfl), by rw [hov]; rfl, rfl⟩
  · try simp only [nmL] at hc1
    refine SCode.skip ?_
    show SCode _ _ _ _
    refine SCode.seqR ?_
    refine SOps.assign rfl ?_
    refine SOps.nil ?_
    refine SCode.seq ?_
    refine SCode.seqR ?_
    refine SOps.move rfl ?_
    refine SOps.rangeStr rfl strB_9 (fun b0 hb_0 => ?_)
    refine SOps.nil ?_
    refine SCode.block ?_
    refine SCode.loop4 (fun (p : Nat) (b : Nat) (l : List Nat) (c : Nat) => (⟨32, [(0, DMap a), (6, accD 1 c (l.map encN)), (15, .it b)], [(b, .iter s p)] ++ (accH 3 1 c (l.map encN) ++ [])⟩ : St)) (fun (p : Nat) (b : Nat) (l : List Nat) (c : Nat) => l.length ≤ p ∧ (runesAt s p).all (fun r => (idx a r).isSome) = (runes s).all (fun r => (idx a r).isSome) ∧ l ++ (runesAt s p).map (fun r => (idx a r).getD 0) = idxs a s) (fun (p : Nat) (b : Nat) (l : List Nat) (c : Nat) => s.size - p) (0) (b0) ([]) (0) (by exact ⟨Nat.le_refl _, rfl, rfl⟩) (St.Le.of ⟨(by first | rfl | (show some _ = some _; simp)), (by first | rfl | (show some _ = some _; simp)), (by first | rfl | (show some _ = some _; simp)), trivial⟩ rfl (by first | rfl | (simp))) ?_
    rintro p b l c ⟨hln, ho, hl⟩
    refine SCode.seqR ?_
    refine SOps.next 0 rfl rfl (fun hn2 => ?_) (fun hn2 => ?_) (by first | omega | (simp only [lenB]; omega))
    · refine SOps.extract rfl rfl ?_
      refine SOps.nil ?_
      refine SCode.seq ?_
      refine SCode.cond rfl (fun _ => ?_) (fun h => by cases h)
      refine SCode.skip ?_
      show SCode _ _ _ _
      refine SCode.block ?_
      refine SCode.seqR ?_
      refine SOps.extract rfl rfl ?_
      refine SOps.assign rfl ?_
      refine SOps.nil ?_
      refine SCode.seqR ?_
      refine SOps.move rfl ?_
      refine SOps.move rfl ?_
      refine SOps.lookupIM (idx a ((Utf8.decode s p).1 : Int)) (fun i => DV.v (.int .i64 ((i : Nat) : Int))) rfl rfl mapB_89 (keys_enc _) zeroIs_3 (lookup_mapOf _ _) (fun y3 hy3 => ?_) (fun hy3 => ?_)
      · refine SOps.move rfl ?_
        refine SOps.extract rfl rfl ?_
        refine SOps.extract rfl rfl ?_
        refine SOps.assign rfl ?_
        refine SOps.assign rfl ?_
        refine SOps.nil ?_
        refine SCode.seq ?_
        refine SCode.seqR ?_
        refine SOps.move rfl ?_
        refine SOps.un rfl rfl ?_
        refine SOps.nil ?_
        refine SCode.cond rfl (fun h => by cases h) (fun _ => ?_)
        refine SCode.skip ?_
        show SCode _ _ _ _
        refine SCode.region ?_
        refine SOps.move rfl ?_
        refine SOps.move rfl ?_
        refine SOps.litF rfl sliceB_43_3_1 zeroIs_3 rfl ?_
        refine SOps.appendAcc [_] [] sliceB_43_3_1 elemB_3_1_8 rfl rfl rfl SrcD.isl (by simp) (by first | (simp [lenB] <;> (first | omega | (simp only [lenB]; omega))) | (simp only [lenB]; (first | omega | (simp only [lenB]; omega)))) (by first | (simp <;> (first | omega | (simp only [lenB]; omega))) | (first | omega | (simp only [lenB]; omega))) (fun b1 => ?_)
        refine SOps.assign rfl ?_
        refine SOps.nil ?_
        exact ⟨p + (Utf8.decode s p).2, b, l ++ [y3], b1, ⟨by have := decode_w s p; simp; omega, by rw [← ho, runes_step hn2, hy3]; rfl, by rw [← hl, runesAt_lt hn2]; simp [hy3]⟩, by have := decode_w s p; omega, St.Le.of ⟨rfl, (by show some _ = some _; rw [List.map_append]; rfl), rfl, trivial⟩ rfl (by rw [List.map_append]; rfl)⟩
      · refine SOps.move rfl ?_
        refine SOps.extract rfl rfl ?_
        refine SOps.extract rfl rfl ?_
        refine SOps.assign rfl ?_
        refine SOps.assign rfl ?_
        refine SOps.nil ?_
        refine SCode.seq ?_
        refine SCode.seqR ?_
        refine SOps.move rfl ?_
        refine SOps.un rfl rfl ?_
        refine SOps.nil ?_
        refine SCode.cond rfl (fun _ => ?_) (fun h => by cases h)
        refine SCode.seqR ?_
        refine SOps.assign rfl ?_
        refine SOps.assign rfl ?_
        refine SOps.nil ?_
        refine SCode.drop ?_
        refine SCode.ret ?_
        have hov : overA a s = false := Bool.eq_false_iff.2 (fun h => by simp only [overA, Bool.and_eq_true] at h; rw [← ho, runes_step hn2, hy3] at h; simp at h)
        exact ⟨_, Res.two (.tmp rfl) (.tmp rfl), by rw [hov]; rfl, rfl⟩
    · refine SOps.extract rfl rfl ?_
      refine SOps.nil ?_
      refine SCode.seq ?_
      refine SCode.cond rfl (fun h => by cases h) (fun _ => ?_)
      refine SCode.exit ?_
      show SCode _ _ _ _
      refine SCode.seqR ?_
      refine SOps.freezeAcc (t := 6) [_] [] rfl rfl rfl ?_
      refine SOps.move rfl ?_
      refine SOps.assign rfl ?_
      refine SOps.assign rfl ?_
      refine SOps.nil ?_
      refine SCode.drop ?_
      refine SCode.ret ?_
      have hov : overA a s = true := by rw [overA, hc1, ← ho, runesAt_ge hn2]; rfl
      obtain rfl : l = idxs a s := by rw [← hl, runesAt_ge hn2]; simp
      exact ⟨_, Res.two (.tmp rfl) (.tmp rfl), by rw [hov]; rfl, rfl⟩
theorem pValid (hV : VS E) (a : List Letter) (p : List Item) (hp : ∀ x ∈ p, x.lets.size ≤ 1048576) : GCall Tryd.prog E 62 [DLs a, DIts p] [] (fun d H => d = .v (.bool (validPat a p)) ∧ H = []) := by
  refine GCall.body (C := ⟨Tryd.prog, E, true⟩) Tryd.func62 rfl (fun _ => rfl) (by kernel_rfl) rfl ?_
  refine SCode.seqR ?_
  refine SOps.assign rfl ?_
  refine SOps.nil ?_
  refine SCode.seqR ?_
  refine SOps.move rfl ?_
  by_cases hpr : properB a = true
  · refine SOps.callP (pProper _) rfl ?_
    rintro _ rfl
    rw [if_pos hpr]
    refine SOps.move rfl ?_
    refine SOps.extract rfl rfl ?_
    refine SOps.extract rfl rfl ?_
    refine SOps.assign rfl ?_
    refine SOps.assign rfl ?_
    refine SOps.nil ?_
    refine SCode.seq ?_
    refine SCode.seqR ?_
    refine SOps.fact (isl_len (t := 1) rfl) (fun hB => ?_)
    simp only [List.length_map, lenB] at hB
    refine SOps.move rfl ?_
    refine SOps.un rfl rfl ?_
    refine SOps.move rfl ?_
    refine SOps.caseB 18 rfl (fun hb1 => ?_) (fun hb1 => ?_)
    · try simp only [nmL] at hb1
      refine SOps.skip rfl ?_
      refine SOps.skip rfl ?_
      refine SOps.skip rfl ?_
      refine SOps.pick rfl rfl ?_
      refine SOps.nil ?_
      refine SCode.cond rfl (fun _ => ?_) (fun h => by cases h)
      refine SCode.seqR ?_
      refine SOps.assign rfl ?_
      refine SOps.nil ?_
      refine SCode.ret ?_
      exact ⟨_, Res.one (.tmp rfl), congrArg (fun b => DV.v (.bool b)) (Eq.symm (Bool.eq_false_iff.2 (fun h => by simp only [validPat, Bool.and_eq_true, decide_eq_true_eq] at h; omega))), rfl⟩
    · try simp only [nmL] at hb1
      refine SOps.move rfl ?_
      refine SOps.lenM rfl sliceB_45_87_4 ?_
      refine SOps.bin rfl rfl rfl ?_
      refine SOps.pick rfl rfl ?_
      refine SOps.nil ?_
      refine SCode.cond rfl (fun hc2 => ?_) (fun hc2 => ?_)
      · try simp only [nmL] at hc2
        refine SCode.seqR ?_
        refine SOps.assign rfl ?_
        refine SOps.nil ?_
        refine SCode.ret ?_
        exact ⟨_, Res.one (.tmp rfl), congrArg (fun b => DV.v (.bool b)) (Eq.symm (Bool.eq_false_iff.2 (fun h => by simp only [validPat, Bool.and_eq_true, decide_eq_true_eq] at h; omega))), rfl⟩
      · try simp only [nmL] at hc2
        refine SCode.skip ?_
        show SCode _ _ _ _
        refine SCode.seq ?_
        refine SCode.seqR ?_
        refine SOps.move rfl ?_
        refine SOps.lenM rfl sliceB_45_87_4 ?_
        refine SOps.move rfl ?_
        refine SOps.nil ?_
        refine SCode.block ?_
        refine SCode.loop1 (fun (i : Nat) => (⟨39, [(5, DMap a), (23, DIts p), (24, .v (.int .i64 (p.length : Int))), (25, .v (.int .i64 (i : Int)))], []⟩ : St)) (fun (i : Nat) => i ≤ p.length ∧ ∀ x ∈ p.take i, overA a x.lets = true) (fun (i : Nat) => p.length - i) (0) (by simp) (St.Le.of ⟨(by first | rfl | (show some _ = some _; simp)), (by first | rfl | (show some _ = some _; simp)), (by first | rfl | (show some _ = some _; simp)), (by first | rfl | (show some _ = some _; simp)), trivial⟩ rfl (by first | rfl | (simp))) ?_
        rintro i ⟨hi, hf⟩
        refine SCode.seqR ?_
        refine SOps.bin rfl rfl rfl ?_
        refine SOps.nil ?_
        refine SCode.seq ?_
        refine SCode.cond rfl (fun hc3 => ?_) (fun hc3 => ?_)
        · try simp only [nmL] at hc3
          refine SCode.skip ?_
          show SCode _ _ _ _
          refine SCode.seq ?_
          refine SCode.block ?_
          refine SCode.seqR ?_
          refine SOps.indexM (i) rfl rfl sliceB_45_87_4 (by first | omega | (simp only [lenB]; omega)) (by first | omega | (simp only [lenB]; omega)) ?_
          refine SOps.loadPinA rfl aggB_87_4 (Nat.le_of_ble_eq_true rfl) ?_
          refine SOps.alloc (sz := 4) zeroIs_87 (fun b0 hb_0 => ?_)
          refine SOps.storeAM 0 rfl rfl aggB_87_4 rfl ?_
          refine SOps.freezeRef (t := 8) 0 0 rfl rfl rfl rfl rfl ?_
          refine SOps.nil ?_
          refine SCode.seqR ?_
          refine SOps.move rfl ?_
          refine SOps.fieldPin rfl fieldB_87_1_1 ?_
          refine SOps.loadPin rfl flatB_9 ?_
          have hz := hp _ (List.getElem_mem (show i < p.length by omega))
          rcases hov : overA a (p[i]).lets with _ | _
          · refine SOps.callP (pOver hV a _ hz) rfl ?_
            rintro _ rfl
            rw [hov]
            show SOps _ _ _ ⟨_, (33, .tup [.v (.slice none 0 0), .v (.bool false)]) :: _, _⟩ _
            refine SOps.move rfl ?_
            refine SOps.extract rfl rfl ?_
            refine SOps.extract rfl rfl ?_
            refine SOps.assign rfl ?_
            refine SOps.assign rfl ?_
            refine SOps.nil ?_
            refine SCode.seqR ?_
            refine SOps.move rfl ?_
            refine SOps.un rfl rfl ?_
            refine SOps.nil ?_
            refine SCode.cond rfl (fun _ => ?_) (fun h => by cases h)
            refine SCode.seqR ?_
            refine SOps.assign rfl ?_
            refine SOps.nil ?_
            refine SCode.ret ?_
            exact ⟨_, Res.one (.tmp rfl), congrArg (fun b => DV.v (.bool b)) (Eq.symm (Bool.eq_false_iff.2 (fun h => by simp only [validPat, Bool.and_eq_true, List.all_eq_true] at h; rw [h.2 _ (List.getElem_mem (show i < p.length by omega))] at hov; cases hov))), rfl⟩
          · refine SOps.callP (pOver hV a _ hz) rfl ?_
            rintro _ rfl
            rw [hov]
            show SOps _ _ _ ⟨_, (33, .tup [DNats _, .v (.bool true)]) :: _, _⟩ _
            refine SOps.move rfl ?_
            refine SOps.extract rfl rfl ?_
            refine SOps.extract rfl rfl ?_
            refine SOps.assign rfl ?_
            refine SOps.assign rfl ?_
            refine SOps.nil ?_
            refine SCode.seqR ?_
            refine SOps.move rfl ?_
            refine SOps.un rfl rfl ?_
            refine SOps.nil ?_
            refine SCode.cond rfl (fun h => by cases h) (fun _ => ?_)
            refine SCode.skip ?_
            show SCode _ _ _ _
            refine SCode.region ?_
            refine SOps.addI rfl rfl (by first | omega | (simp only [lenB]; omega)) (by first | omega | (simp only [lenB]; omega)) ?_
            refine SOps.move rfl ?_
            refine SOps.nil ?_
            exact ⟨i + 1, by exact ⟨by omega, take_more hf (by omega) hov⟩, by omega, (St.Le.of ⟨(by first | rfl | (show some _ = some _; simp)), (by first | rfl | (show some _ = some _; simp)), (by first | rfl | (show some _ = some _; simp)), (by first | rfl | (show some _ = some _; simp)), trivial⟩ rfl (by first | rfl | (simp)))⟩
        · try simp only [nmL] at hc3
          refine SCode.exit ?_
          show SCode _ _ _ _
          refine SCode.seqR ?_
          refine SOps.assign rfl ?_
          refine SOps.nil ?_
          refine SCode.ret ?_
          exact ⟨_, Res.one (.tmp rfl), congrArg (fun b => DV.v (.bool b)) (Eq.symm (by simp only [validPat, hpr, Bool.true_and, Bool.and_eq_true, decide_eq_true_eq, List.all_eq_true]; exact ⟨⟨by omega, by omega⟩, all_of (by omega) hf⟩)), rfl⟩
  · refine SOps.callP (pProper _) rfl ?_
    rintro _ rfl
    rw [if_neg hpr]
    refine SOps.move rfl ?_
    refine SOps.extract rfl rfl ?_
    refine SOps.extract rfl rfl ?_
    refine SOps.assign rfl ?_
    refine SOps.assign rfl ?_
    refine SOps.nil ?_
    refine SCode.seq ?_
    refine SCode.seqR ?_
    refine SOps.fact (isl_len (t := 1) rfl) (fun hB => ?_)
    simp only [List.length_map, lenB] at hB
    refine SOps.move rfl ?_
    refine SOps.un rfl rfl ?_
    refine SOps.move rfl ?_
    refine SOps.skip rfl ?_
    refine SOps.skip rfl ?_
    refine SOps.skip rfl ?_
    refine SOps.pick rfl rfl ?_
    refine SOps.nil ?_
    refine SCode.cond rfl (fun _ => ?_) (fun h => by cases h)
    refine SCode.seqR ?_
    refine SOps.assign rfl ?_
    refine SOps.nil ?_
    refine SCode.ret ?_
    exact ⟨_, Res.one (.tmp rfl), congrArg (fun b => DV.v (.bool b)) (Eq.symm (Bool.eq_false_iff.2 (fun h => by simp only [validPat, Bool.and_eq_true] at h; exact hpr h.1.1.1))), rfl⟩
theorem pRead (hV : VS E) (a : List Letter) (p : List Item) (s : ByteArray) (hp : ∀ x ∈ p, x.lets.size ≤ 1048576) (hs : s.size ≤ 1048576) : GCall Tryd.prog E 103 [DLs a, DIts p, .v (.string s)] [] (fun d H => d = (if (validPat a p && overA a s) then .tup [DNats (idxs a s), .v (.bool true)] else .tup [.v (.slice none 0 0), .v (.bool false)]) ∧ H = []) := by
  refine GCall.body (C := ⟨Tryd.prog, E, true⟩) Tryd.func103 rfl (fun _ => rfl) (by kernel_rfl) rfl ?_
  refine SCode.seqR ?_
  refine SOps.assign rfl ?_
  refine SOps.assign rfl ?_
  refine SOps.nil ?_
  refine SCode.seq ?_
  refine SCode.seqR ?_
  refine SOps.move rfl ?_
  refine SOps.move rfl ?_
  refine SOps.callP (pValid hV _ _ (by assumption)) rfl ?_
  rintro _ rfl
  refine SOps.un rfl rfl ?_
  refine SOps.nil ?_
  refine SCode.cond rfl (fun hc1 => ?_) (fun hc1 => ?_)
  · try simp only [nmL] at hc1
    have hvp : validPat a p = false := hc1
    refine SCode.seqR ?_
    refine SOps.assign rfl ?_
    refine SOps.assign rfl ?_
    refine SOps.nil ?_
    refine SCode.ret ?_
    exact ⟨_, Res.two (.tmp rfl) (.tmp rfl), by rw [hvp]; rfl, rfl⟩
  · try simp only [nmL] at hc1
    have hvp : validPat a p = true := hc1
    have hpr : properB a = true := by simp only [validPat, Bool.and_eq_true] at hvp; exact hvp.1.1.1
    refine SCode.skip ?_
    show SCode _ _ _ _
    refine SCode.seqR ?_
    refine SOps.move rfl ?_
    refine SOps.callP (pProper _) rfl ?_
    rintro _ rfl; rw [if_pos hpr]
    refine SOps.move rfl ?_
    refine SOps.extract rfl rfl ?_
    refine SOps.extract rfl rfl ?_
    refine SOps.assign rfl ?_
    refine SOps.assign rfl ?_
    refine SOps.nil ?_
    refine SCode.seqR ?_
    refine SOps.move rfl ?_
    refine SOps.move rfl ?_
    refine SOps.callP (pOver hV a _ hs) rfl ?_
    rintro _ rfl
    rcases hov : overA a s with _ | _
    · show SOps _ _ _ ⟨_, (21, .tup [.v (.slice none 0 0), .v (.bool false)]) :: _, _⟩ _
      refine SOps.extract rfl rfl ?_
      refine SOps.extract rfl rfl ?_
      refine SOps.assign rfl ?_
      refine SOps.assign rfl ?_
      refine SOps.nil ?_
      refine SCode.ret ?_
      exact ⟨_, Res.two (.tmp rfl) (.tmp rfl), by rw [hvp]; rfl, rfl⟩
    · show SOps _ _ _ ⟨_, (21, .tup [DNats _, .v (.bool true)]) :: _, _⟩ _
      refine SOps.extract rfl rfl ?_
      refine SOps.extract rfl rfl ?_
      refine SOps.assign rfl ?_
      refine SOps.assign rfl ?_
      refine SOps.nil ?_
      refine SCode.ret ?_
      exact ⟨_, Res.two (.tmp rfl) (.tmp rfl), by rw [hvp]; rfl, rfl⟩
theorem pAdmits (x : Item) (l : Letter)  : GCall Tryd.prog E 110 [.agg (encIt x), .agg (encL l)] [] (fun d H => d = .v (.bool (admB x l)) ∧ H = []) := by
  refine GCall.body (C := ⟨Tryd.prog, E, true⟩) Tryd.func110 rfl (fun _ => rfl) (by kernel_rfl) rfl ?_
  refine SCode.seqR ?_
  refine SOps.boxAM rfl rfl ?_
  refine SOps.boxAM rfl rfl ?_
  refine SOps.assign rfl ?_
  refine SOps.nil ?_
  refine SCode.seqR ?_
  refine SOps.fieldPin rfl fieldB_28_1_1 ?_
  refine SOps.loadPin rfl flatB_26 ?_
  refine SOps.fieldPin rfl fieldB_87_0_0 ?_
  refine SOps.loadPin rfl flatB_26 ?_
  refine SOps.bits rfl rfl rfl ?_
  refine SOps.fieldPin rfl fieldB_87_0_0 ?_
  refine SOps.loadPin rfl flatB_26 ?_
  refine SOps.bin rfl rfl rfl ?_
  refine SOps.assign rfl ?_
  refine SOps.nil ?_
  refine SCode.seq ?_
  refine SCode.seqR ?_
  refine SOps.move rfl ?_
  refine SOps.move rfl ?_
  refine SOps.caseB 17 rfl (fun hb1 => ?_) (fun hb1 => ?_)
  · try simp only [nmL] at hb1
    refine SOps.fieldPin rfl fieldB_87_1_1 ?_
    refine SOps.loadPin rfl flatB_9 ?_
    refine SOps.bin rfl rfl rfl ?_
    refine SOps.pick rfl rfl ?_
    refine SOps.nil ?_
    refine SCode.cond rfl (fun hc2 => ?_) (fun hc2 => ?_)
    · try simp only [nmL] at hc2
      refine SCode.seqR ?_
      refine SOps.assign rfl ?_
      refine SOps.nil ?_
      refine SCode.seqR ?_
      refine SOps.fieldPin rfl fieldB_87_1_1 ?_
      refine SOps.loadPin rfl flatB_9 ?_
      refine SOps.rangeStr rfl strB_9 (fun b0 hb_0 => ?_)
      refine SOps.nil ?_
      refine SCode.block ?_
      refine SCode.fact (v_scal (t := 23) rfl) (fun hS => ?_)
      simp only [scal, lenB] at hS
      refine SCode.loop3 (fun (p : Nat) (f : Bool) (b : Nat) => (⟨39, [(2, .ipin (encIt x)), (3, .ipin (encL l)), (5, .v (.bool f)), (24, .it b)], [(b, .iter x.lets p)]⟩ : St)) (fun (p : Nat) (f : Bool) (b : Nat) => (f || (runesAt x.lets p).any (fun c => c == l.rune)) = listed x.lets l.rune) (fun (p : Nat) (f : Bool) (b : Nat) => x.lets.size - p) (0) (false) (b0) (by rfl) (St.Le.of ⟨(by first | rfl | (show some _ = some _; simp)), (by first | rfl | (show some _ = some _; simp)), (by first | rfl | (show some _ = some _; simp)), (by first | rfl | (show some _ = some _; simp)), trivial⟩ rfl (by first | rfl | (simp))) ?_
      rintro p f b hf
      refine SCode.seqR ?_
      refine SOps.next 0 rfl rfl (fun hn3 => ?_) (fun hn3 => ?_) (by first | omega | (simp only [lenB]; omega))
      · refine SOps.extract rfl rfl ?_
        refine SOps.nil ?_
        refine SCode.seq ?_
        refine SCode.cond rfl (fun _ => ?_) (fun h => by cases h)
        refine SCode.skip ?_
        show SCode _ _ _ _
        refine SCode.block ?_
        refine SCode.seqR ?_
        refine SOps.extract rfl rfl ?_
        refine SOps.assign rfl ?_
        refine SOps.nil ?_
        refine SCode.region ?_
        refine SOps.move rfl ?_
        refine SOps.move rfl ?_
        refine SOps.caseB 29 rfl (fun hb4 => ?_) (fun hb4 => ?_)
        · try simp only [nmL] at hb4
          refine SOps.skip rfl ?_
          refine SOps.skip rfl ?_
          refine SOps.skip rfl ?_
          refine SOps.skip rfl ?_
          refine SOps.pick rfl rfl ?_
          refine SOps.assign rfl ?_
          refine SOps.nil ?_
          first
            | exact ⟨p + (Utf8.decode x.lets p).2, true, b, by rw [← hf, hb4]; rfl, by have := decode_w x.lets p; omega, St.Le.of ⟨rfl, rfl, (by rw [hb4]; rfl), rfl, trivial⟩⟩
            | exact ⟨p + (Utf8.decode x.lets p).2, _, b, by rw [← hf, hb4, runesAt_lt hn3]; simp only [List.any_cons, Bool.false_or] <;> rfl, by have := decode_w x.lets p; omega, St.Le.of ⟨rfl, rfl, rfl, rfl, trivial⟩⟩
        · try simp only [nmL] at hb4
          refine SOps.move rfl ?_
          refine SOps.fieldPin rfl fieldB_28_0_0 ?_
          refine SOps.loadPin rfl flatB_21 ?_
          refine SOps.bin rfl rfl rfl ?_
          refine SOps.pick rfl rfl ?_
          refine SOps.assign rfl ?_
          refine SOps.nil ?_
          first
            | exact ⟨p + (Utf8.decode x.lets p).2, true, b, by rw [← hf, hb4]; rfl, by have := decode_w x.lets p; omega, St.Le.of ⟨rfl, rfl, (by rw [hb4]; rfl), rfl, trivial⟩⟩
            | exact ⟨p + (Utf8.decode x.lets p).2, _, b, by rw [← hf, hb4, runesAt_lt hn3]; simp only [List.any_cons, Bool.false_or] <;> rfl, by have := decode_w x.lets p; omega, St.Le.of ⟨rfl, rfl, rfl, rfl, trivial⟩⟩
      · refine SOps.extract rfl rfl ?_
        refine SOps.nil ?_
        refine SCode.seq ?_
        refine SCode.cond rfl (fun h => by cases h) (fun _ => ?_)
        refine SCode.exit ?_
        show SCode _ _ _ _
        refine SCode.seqR ?_
        refine SOps.move rfl ?_
        refine SOps.fieldPin rfl fieldB_87_2_2 ?_
        refine SOps.loadPin rfl flatB_4 ?_
        refine SOps.boolNe rfl rfl boolTy_4 ?_
        refine SOps.assign rfl ?_
        refine SOps.nil ?_
        refine SCode.drop ?_
        refine SCode.ret ?_
        exact ⟨_, Res.one (.tmp rfl), congrArg (fun b => DV.v (.bool b)) (by rw [runesAt_ge hn3] at hf; simp only [List.any_nil, Bool.or_false] at hf; rw [hf, admB, show hasC l.cls x.mask = true from beq_iff_eq.2 hb1, decide_eq_false hc2] <;> rfl), rfl⟩
    · try simp only [nmL] at hc2
      refine SCode.skip ?_
      show SCode _ _ _ _
      refine SCode.seqR ?_
      refine SOps.move rfl ?_
      refine SOps.fieldPin rfl fieldB_87_2_2 ?_
      refine SOps.loadPin rfl flatB_4 ?_
      refine SOps.boolNe rfl rfl boolTy_4 ?_
      refine SOps.assign rfl ?_
      refine SOps.nil ?_
      refine SCode.ret ?_
      exact ⟨_, Res.one (.tmp rfl), congrArg (fun b => DV.v (.bool b)) (by rw [admB, show hasC l.cls x.mask = true from beq_iff_eq.2 hb1]; simp_all), rfl⟩
  · try simp only [nmL] at hb1
    refine SOps.skip rfl ?_
    refine SOps.skip rfl ?_
    refine SOps.skip rfl ?_
    refine SOps.pick rfl rfl ?_
    refine SOps.nil ?_
    refine SCode.cond rfl (fun h => by cases h) (fun _ => ?_)
    refine SCode.skip ?_
    show SCode _ _ _ _
    refine SCode.seqR ?_
    refine SOps.move rfl ?_
    refine SOps.fieldPin rfl fieldB_87_2_2 ?_
    refine SOps.loadPin rfl flatB_4 ?_
    refine SOps.boolNe rfl rfl boolTy_4 ?_
    refine SOps.assign rfl ?_
    refine SOps.nil ?_
    refine SCode.ret ?_
    exact ⟨_, Res.one (.tmp rfl), congrArg (fun b => DV.v (.bool b)) (by rw [admB, show hasC l.cls x.mask = false from beq_eq_false_iff_ne.2 hb1, beq_eq_false_iff_ne.2 hb1] <;> rfl), rfl⟩
theorem pClosed (p : List Item) (s : Nat) (hp : p.length < 8) (hs : s < 256) : GCall Tryd.prog E 109 [DIts p, .v (.int .u8 ((s : Nat) : Int))] [] (fun d H => d = .v (.int .u8 ((closedN p s : Nat) : Int)) ∧ H = []) := by
  refine GCall.body (C := ⟨Tryd.prog, E, true⟩) Tryd.func109 rfl (fun _ => rfl) (by kernel_rfl) rfl ?_
  refine SCode.seqR ?_
  refine SOps.assign rfl ?_
  refine SOps.nil ?_
  refine SCode.seq ?_
  refine SCode.seqR ?_
  refine SOps.move rfl ?_
  refine SOps.lenM rfl sliceB_45_87_4 ?_
  refine SOps.move rfl ?_
  refine SOps.nil ?_
  refine SCode.block ?_
  refine SCode.loop2 (fun (i : Nat) (c : Nat) => (⟨30, [(1, .v (.int .u8 ((c : Nat) : Int))), (7, DIts p), (8, .v (.int .i64 (p.length : Int))), (9, .v (.int .i64 (i : Int)))], []⟩ : St)) (fun (i : Nat) (c : Nat) => i ≤ p.length ∧ c < 256 ∧ closedF (p.drop i) i c = closedN p s) (fun (i : Nat) (c : Nat) => p.length - i) (0) (s) (by exact ⟨Nat.zero_le _, hs, rfl⟩) (St.Le.of ⟨(by first | rfl | (show some _ = some _; simp)), (by first | rfl | (show some _ = some _; simp)), (by first | rfl | (show some _ = some _; simp)), (by first | rfl | (show some _ = some _; simp)), trivial⟩ rfl (by first | rfl | (simp))) ?_
  rintro i c ⟨hi, hcs, hf⟩
  refine SCode.seqR ?_
  refine SOps.bin rfl rfl rfl ?_
  refine SOps.nil ?_
  refine SCode.seq ?_
  refine SCode.cond rfl (fun hc1 => ?_) (fun hc1 => ?_)
  · try simp only [nmL] at hc1
    refine SCode.skip ?_
    show SCode _ _ _ _
    refine SCode.seq ?_
    refine SCode.block ?_
    refine SCode.seqR ?_
    refine SOps.move rfl ?_
    refine SOps.indexM (i) rfl rfl sliceB_45_87_4 (by omega) (by omega) ?_
    refine SOps.loadPinA rfl aggB_87_4 (Nat.le_of_ble_eq_true rfl) ?_
    refine SOps.alloc (sz := 4) zeroIs_87 (fun b0 hb_0 => ?_)
    refine SOps.assign rfl ?_
    refine SOps.storeAM 0 rfl rfl aggB_87_4 rfl ?_
    refine SOps.freezeRef (t := 6) 0 0 rfl rfl rfl rfl rfl ?_
    refine SOps.nil ?_
    refine SCode.seqR ?_
    have hdr := drop_cons (show i < p.length by omega)
    refine SOps.fieldPin rfl fieldB_87_3_3 ?_
    refine SOps.loadPin rfl flatB_4 ?_
    refine SOps.move rfl ?_
    refine SOps.caseB 16 rfl (fun hb2 => ?_) (fun hb2 => ?_)
    · try simp only [nmL] at hb2
      refine SOps.move rfl ?_
      refine SOps.move rfl ?_
      refine SOps.shrN (k := i) rfl rfl (by omega) (by omega) (by omega) ?_
      refine SOps.andN (y := 1) rfl rfl (by first | omega | (exact Nat.lt_of_le_of_lt (by rw [Nat.shiftRight_eq_div_pow]; exact Nat.div_le_self ..) (by omega)) | exact two_lt (by omega)) (by first | omega | (exact Nat.lt_of_le_of_lt (by rw [Nat.shiftRight_eq_div_pow]; exact Nat.div_le_self ..) (by omega)) | exact two_lt (by omega)) ?_
      refine SOps.bin rfl rfl rfl ?_
      refine SOps.pick rfl rfl ?_
      refine SOps.nil ?_
      refine SCode.cond rfl (fun hc3 => ?_) (fun hc3 => ?_)
      · try simp only [nmL] at hc3
        refine SCode.region ?_
        refine SOps.move rfl ?_
        refine SOps.move rfl ?_
        refine SOps.addI rfl rfl (by omega) (by omega) ?_
        refine SOps.shlN (k := (i + 1)) rfl rfl (by omega) (by omega) ?_
        refine SOps.orN rfl rfl (by first | omega | (exact Nat.lt_of_le_of_lt (by rw [Nat.shiftRight_eq_div_pow]; exact Nat.div_le_self ..) (by omega)) | exact two_lt (by omega)) (by first | omega | (exact Nat.lt_of_le_of_lt (by rw [Nat.shiftRight_eq_div_pow]; exact Nat.div_le_self ..) (by omega)) | exact two_lt (by omega)) ?_
        refine SOps.assign rfl ?_
        refine SOps.nil ?_
        show SCode _ _ _ _
        refine SCode.region ?_
        refine SOps.addI rfl rfl (by omega) (by omega) ?_
        refine SOps.move rfl ?_
        refine SOps.nil ?_
        first
          | exact ⟨i + 1, c ||| 2 ^ (i + 1), ⟨by omega, or_lt hcs (by omega), by rw [← hf, hdr]; simp only [closedF]; rw [if_pos (by rw [hb2, bit1i.1 hc3]; rfl)]⟩, by omega, St.Le.of ⟨rfl, rfl, rfl, rfl, trivial⟩⟩
          | exact ⟨i + 1, c, ⟨by omega, hcs, by rw [← hf, hdr]; simp only [closedF]; rw [if_neg (by rw [hb2]; simp; exact Bool.eq_false_iff.2 (fun h => hc3 (bit1i.2 h)))]⟩, by omega, St.Le.of ⟨rfl, rfl, rfl, rfl, trivial⟩⟩
          | exact ⟨i + 1, c, ⟨by omega, hcs, by rw [← hf, hdr]; simp only [closedF]; rw [if_neg (by rw [hb2]; simp)]⟩, by omega, St.Le.of ⟨rfl, rfl, rfl, rfl, trivial⟩⟩
      · try simp only [nmL] at hc3
        refine SCode.skip ?_
        show SCode _ _ _ _
        refine SCode.region ?_
        refine SOps.addI rfl rfl (by omega) (by omega) ?_
        refine SOps.move rfl ?_
        refine SOps.nil ?_
        first
          | exact ⟨i + 1, c ||| 2 ^ (i + 1), ⟨by omega, or_lt hcs (by omega), by rw [← hf, hdr]; simp only [closedF]; rw [if_pos (by rw [hb2, bit1i.1 hc3]; rfl)]⟩, by omega, St.Le.of ⟨rfl, rfl, rfl, rfl, trivial⟩⟩
          | exact ⟨i + 1, c, ⟨by omega, hcs, by rw [← hf, hdr]; simp only [closedF]; rw [if_neg (by rw [hb2]; simp; exact Bool.eq_false_iff.2 (fun h => hc3 (bit1i.2 h)))]⟩, by omega, St.Le.of ⟨rfl, rfl, rfl, rfl, trivial⟩⟩
          | exact ⟨i + 1, c, ⟨by omega, hcs, by rw [← hf, hdr]; simp only [closedF]; rw [if_neg (by rw [hb2]; simp)]⟩, by omega, St.Le.of ⟨rfl, rfl, rfl, rfl, trivial⟩⟩
    · try simp only [nmL] at hb2
      refine SOps.skip rfl ?_
      refine SOps.skip rfl ?_
      refine SOps.skip rfl ?_
      refine SOps.skip rfl ?_
      refine SOps.skip rfl ?_
      refine SOps.pick rfl rfl ?_
      refine SOps.nil ?_
      refine SCode.cond rfl (fun h => by cases h) (fun _ => ?_)
      refine SCode.skip ?_
      show SCode _ _ _ _
      refine SCode.region ?_
      refine SOps.addI rfl rfl (by omega) (by omega) ?_
      refine SOps.move rfl ?_
      refine SOps.nil ?_
      first
        | exact ⟨i + 1, c ||| 2 ^ (i + 1), ⟨by omega, or_lt hcs (by omega), by rw [← hf, hdr]; simp only [closedF]; rw [if_pos (by rw [hb2, bit1i.1 hc3]; rfl)]⟩, by omega, St.Le.of ⟨rfl, rfl, rfl, rfl, trivial⟩⟩
        | exact ⟨i + 1, c, ⟨by omega, hcs, by rw [← hf, hdr]; simp only [closedF]; rw [if_neg (by rw [hb2]; simp; exact Bool.eq_false_iff.2 (fun h => hc3 (bit1i.2 h)))]⟩, by omega, St.Le.of ⟨rfl, rfl, rfl, rfl, trivial⟩⟩
        | exact ⟨i + 1, c, ⟨by omega, hcs, by rw [← hf, hdr]; simp only [closedF]; rw [if_neg (by rw [hb2]; simp)]⟩, by omega, St.Le.of ⟨rfl, rfl, rfl, rfl, trivial⟩⟩
  · try simp only [nmL] at hc1
    refine SCode.exit ?_
    show SCode _ _ _ _
    refine SCode.seqR ?_
    refine SOps.move rfl ?_
    refine SOps.assign rfl ?_
    refine SOps.nil ?_
    refine SCode.ret ?_
    exact ⟨_, Res.one (.tmp rfl), congrArg (fun n : Nat => DV.v (.int .u8 (n : Int))) (by rw [← hf, List.drop_eq_nil_of_le (by omega)]; rfl), rfl⟩
def atL (a : List Letter) (c : Nat) : Letter := a.getD c ⟨0, 0⟩
theorem atL_lt {a : List Letter} {c : Nat} (h : c < a.length) : atL a c = a[c] := by simp [atL, h]
def admF (a : List Letter) (x : Item) (c : Nat) : Bool := admB x (atL a c)
def tbl (a : List Letter) (p : List Item) : List (List Bool) := p.map (fun x => a.map (admB x))
def encRow (l : List Bool) : List DV := [DBools l]
abbrev DTbl (t : List (List Bool)) : DV := .isl false 1 (t.map encRow)
theorem tbl_len (a : List Letter) (p : List Item) : (tbl a p).length = p.length := by simp [tbl]
theorem tbl_row {a : List Letter} {p : List Item} {i : Nat} (h : i < (tbl a p).length) : ((tbl a p)[i]).length = a.length := by simp [tbl]
theorem tbl_at {a : List Letter} {p : List Item} {i c : Nat} (h : i < (tbl a p).length) (h2 : c < ((tbl a p)[i]).length) (hi : i < p.length) (hc : c < a.length) : ((tbl a p)[i])[c] = admF a (p[i]) c := by
  simp [tbl, admF, atL_lt hc]
theorem pNext (a : List Letter) (p : List Item) (s c : Nat) (hp : p.length < 8) (hs : s < 256) (hc : c < a.length) : GCall Tryd.prog E 111 [.v (.int .u8 ((s : Nat) : Int)), .v (.int .i64 (c : Int)), .ipin [DIts p], .ipin [DTbl (tbl a p)]] [] (fun d H => d = .v (.int .u8 ((stepN p (fun x => admF a x c) s : Nat) : Int)) ∧ H = []) := by
  refine GCall.body (C := ⟨Tryd.prog, E, true⟩) Tryd.func111 rfl (fun _ => rfl) (by kernel_rfl) rfl ?_
  refine SCode.seqR ?_
  refine SOps.assign rfl ?_
  refine SOps.nil ?_
  refine SCode.seqR ?_
  refine SOps.assign rfl ?_
  refine SOps.nil ?_
  refine SCode.seq ?_
  refine SCode.seqR ?_
  refine SOps.loadPin rfl flatB_45 ?_
  refine SOps.lenM rfl sliceB_45_87_4 ?_
  refine SOps.move rfl ?_
  refine SOps.nil ?_
  refine SCode.block ?_
  refine SCode.loop2 (fun (i : Nat) (n : Nat) => (⟨47, [(0, .v (.int .u8 ((s : Nat) : Int))), (1, .v (.int .i64 (c : Int))), (2, .ipin [DIts p]), (3, .ipin [DTbl (tbl a p)]), (7, .v (.int .u8 ((n : Nat) : Int))), (10, DIts p), (11, .v (.int .i64 (p.length : Int))), (12, .v (.int .i64 (i : Int)))], []⟩ : St)) (fun (i : Nat) (n : Nat) => i ≤ p.length ∧ n < 256 ∧ nextF (fun x => admF a x c) s (p.drop i) i n = nextF (fun x => admF a x c) s p 0 0) (fun (i : Nat) (n : Nat) => p.length - i) (0) (0) (by exact ⟨Nat.zero_le _, by decide, rfl⟩) (St.Le.of ⟨(by first | rfl | (show some _ = some _; simp)), (by first | rfl | (show some _ = some _; simp)), (by first | rfl | (show some _ = some _; simp)), (by first | rfl | (show some _ = some _; simp)), (by first | rfl | (show some _ = some _; simp)), (by first | rfl | (show some _ = some _; simp)), (by first | rfl | (show some _ = some _; simp)), (by first | rfl | (show some _ = some _; simp)), trivial⟩ rfl (by first | rfl | (simp))) ?_
  rintro i n ⟨hi, hn, hf⟩
  refine SCode.seqR ?_
  refine SOps.bin rfl rfl rfl ?_
  refine SOps.nil ?_
  refine SCode.seq ?_
  refine SCode.cond rfl (fun hc1 => ?_) (fun hc1 => ?_)
  · try simp only [nmL] at hc1
    refine SCode.skip ?_
    show SCode _ _ _ _
    refine SCode.seq ?_
    refine SCode.block ?_
    refine SCode.seqR ?_
    have hdr := drop_cons (show i < p.length by omega)
    refine SOps.move rfl ?_
    refine SOps.indexM (i) rfl rfl sliceB_45_87_4 (by first | omega | (rw [tbl_len]; omega) | (rw [tbl_row]; omega)) (by first | omega | (rw [tbl_len]; omega) | (rw [tbl_row]; omega)) ?_
    refine SOps.loadPinA rfl aggB_87_4 (Nat.le_of_ble_eq_true rfl) ?_
    refine SOps.alloc (sz := 4) zeroIs_87 (fun b0 hb_0 => ?_)
    refine SOps.assign rfl ?_
    refine SOps.storeAM 0 rfl rfl aggB_87_4 rfl ?_
    refine SOps.freezeRef (t := 9) 0 0 rfl rfl rfl rfl rfl ?_
    refine SOps.nil ?_
    refine SCode.seq ?_
    refine SCode.seqR ?_
    refine SOps.move rfl ?_
    refine SOps.move rfl ?_
    refine SOps.shrN (k := i) rfl rfl (by first | omega | (rw [tbl_len]; omega) | (rw [tbl_row]; omega)) (by first | omega | (rw [tbl_len]; omega) | (rw [tbl_row]; omega)) (by first | omega | (rw [tbl_len]; omega) | (rw [tbl_row]; omega)) ?_
    refine SOps.andN (y := 1) rfl rfl (by first | omega | (exact Nat.lt_of_le_of_lt (by rw [Nat.shiftRight_eq_div_pow]; exact Nat.div_le_self ..) (by omega)) | exact two_lt (by omega)) (by first | omega | (exact Nat.lt_of_le_of_lt (by rw [Nat.shiftRight_eq_div_pow]; exact Nat.div_le_self ..) (by omega)) | exact two_lt (by omega)) ?_
    refine SOps.bin rfl rfl rfl ?_
    refine SOps.move rfl ?_
    refine SOps.caseB 22 rfl (fun hb2 => ?_) (fun hb2 => ?_)
    · try simp only [nmL] at hb2
      refine SOps.skip rfl ?_
      refine SOps.skip rfl ?_
      refine SOps.skip rfl ?_
      refine SOps.skip rfl ?_
      refine SOps.skip rfl ?_
      refine SOps.skip rfl ?_
      refine SOps.skip rfl ?_
      refine SOps.skip rfl ?_
      refine SOps.pick rfl rfl ?_
      refine SOps.nil ?_
      refine SCode.cond rfl (fun _ => ?_) (fun h => by cases h)
      refine SCode.exit ?_
      show SCode _ _ _ _
      refine SCode.region ?_
      refine SOps.addI rfl rfl (by first | omega | (rw [tbl_len]; omega) | (rw [tbl_row]; omega)) (by first | omega | (rw [tbl_len]; omega) | (rw [tbl_row]; omega)) ?_
      refine SOps.move rfl ?_
      refine SOps.nil ?_
      first
        | exact ⟨i + 1, n, ⟨by omega, hn, by rw [← hf, hdr]; simp only [nextF]; rw [if_neg (by rw [bit0i.1 hb2]; simp)]⟩, by omega, St.Le.of ⟨rfl, rfl, rfl, rfl, rfl, rfl, rfl, rfl, trivial⟩⟩
        | exact ⟨i + 1, n, ⟨by omega, hn, by rw [← hf, hdr]; simp only [nextF]; rw [if_neg (by rw [tbl_at _ _ (by omega) hc] at hc3; rw [hc3]; simp)]⟩, by omega, St.Le.of ⟨rfl, rfl, rfl, rfl, rfl, rfl, rfl, rfl, trivial⟩⟩
        | exact ⟨i + 1, n ||| 2 ^ i, ⟨by omega, or_lt hn (by omega), by rw [← hf, hdr]; simp only [nextF]; rw [if_pos (by rw [tbl_at _ _ (by omega) hc] at hc3; simp only [Bool.and_eq_true]; exact ⟨by cases h : s.testBit i with | true => rfl | false => exact absurd (bit0i.2 h) hb2, hc3⟩), if_pos hc4]⟩, by omega, St.Le.of ⟨rfl, rfl, rfl, rfl, rfl, rfl, rfl, rfl, trivial⟩⟩
        | exact ⟨i + 1, n ||| 2 ^ (i + 1), ⟨by omega, or_lt hn (by omega), by rw [← hf, hdr]; simp only [nextF]; rw [if_pos (by rw [tbl_at _ _ (by omega) hc] at hc3; simp only [Bool.and_eq_true]; exact ⟨by cases h : s.testBit i with | true => rfl | false => exact absurd (bit0i.2 h) hb2, hc3⟩), if_neg (by rw [hc4]; simp)]⟩, by omega, St.Le.of ⟨rfl, rfl, rfl, rfl, rfl, rfl, rfl, rfl, trivial⟩⟩
    · try simp only [nmL] at hb2
      refine SOps.loadPin rfl flatB_144 ?_
      refine SOps.move rfl ?_
      refine SOps.indexM (i) rfl rfl sliceB_144_145_1 (by first | omega | (rw [tbl_len]; omega) | (rw [tbl_row]; omega)) (by first | omega | (rw [tbl_len]; omega) | (rw [tbl_row]; omega)) ?_
      refine SOps.loadPin rfl flatB_145 ?_
      refine SOps.move rfl ?_
      refine SOps.indexM (c) rfl rfl sliceB_145_4_1 (by first | omega | (rw [tbl_len]; omega) | (rw [tbl_row]; omega)) (by first | omega | (rw [tbl_len]; omega) | (rw [tbl_row]; omega)) ?_
      refine SOps.loadPin rfl flatB_4 ?_
      refine SOps.un rfl rfl ?_
      refine SOps.pick rfl rfl ?_
      refine SOps.nil ?_
      refine SCode.cond rfl (fun hc3 => ?_) (fun hc3 => ?_)
      · try simp only [nmL] at hc3
        refine SCode.exit ?_
        show SCode _ _ _ _
        refine SCode.region ?_
        refine SOps.addI rfl rfl (by first | omega | (rw [tbl_len]; omega) | (rw [tbl_row]; omega)) (by first | omega | (rw [tbl_len]; omega) | (rw [tbl_row]; omega)) ?_
        refine SOps.move rfl ?_
        refine SOps.nil ?_
        first
          | exact ⟨i + 1, n, ⟨by omega, hn, by rw [← hf, hdr]; simp only [nextF]; rw [if_neg (by rw [bit0i.1 hb2]; simp)]⟩, by omega, St.Le.of ⟨rfl, rfl, rfl, rfl, rfl, rfl, rfl, rfl, trivial⟩⟩
          | exact ⟨i + 1, n, ⟨by omega, hn, by rw [← hf, hdr]; simp only [nextF]; rw [if_neg (by rw [tbl_at _ _ (by omega) hc] at hc3; rw [hc3]; simp)]⟩, by omega, St.Le.of ⟨rfl, rfl, rfl, rfl, rfl, rfl, rfl, rfl, trivial⟩⟩
          | exact ⟨i + 1, n ||| 2 ^ i, ⟨by omega, or_lt hn (by omega), by rw [← hf, hdr]; simp only [nextF]; rw [if_pos (by rw [tbl_at _ _ (by omega) hc] at hc3; simp only [Bool.and_eq_true]; exact ⟨by cases h : s.testBit i with | true => rfl | false => exact absurd (bit0i.2 h) hb2, hc3⟩), if_pos hc4]⟩, by omega, St.Le.of ⟨rfl, rfl, rfl, rfl, rfl, rfl, rfl, rfl, trivial⟩⟩
          | exact ⟨i + 1, n ||| 2 ^ (i + 1), ⟨by omega, or_lt hn (by omega), by rw [← hf, hdr]; simp only [nextF]; rw [if_pos (by rw [tbl_at _ _ (by omega) hc] at hc3; simp only [Bool.and_eq_true]; exact ⟨by cases h : s.testBit i with | true => rfl | false => exact absurd (bit0i.2 h) hb2, hc3⟩), if_neg (by rw [hc4]; simp)]⟩, by omega, St.Le.of ⟨rfl, rfl, rfl, rfl, rfl, rfl, rfl, rfl, trivial⟩⟩
      · try simp only [nmL] at hc3
        refine SCode.skip ?_
        show SCode _ _ _ _
        refine SCode.seqR ?_
        refine SOps.fieldPin rfl fieldB_87_3_3 ?_
        refine SOps.loadPin rfl flatB_4 ?_
        refine SOps.nil ?_
        refine SCode.cond rfl (fun hc4 => ?_) (fun hc4 => ?_)
        · try simp only [nmL] at hc4
          refine SCode.region ?_
          refine SOps.move rfl ?_
          refine SOps.move rfl ?_
          refine SOps.shlN (k := i) rfl rfl (by first | omega | (rw [tbl_len]; omega) | (rw [tbl_row]; omega)) (by first | omega | (rw [tbl_len]; omega) | (rw [tbl_row]; omega)) ?_
          refine SOps.orN rfl rfl (by first | omega | (exact Nat.lt_of_le_of_lt (by rw [Nat.shiftRight_eq_div_pow]; exact Nat.div_le_self ..) (by omega)) | exact two_lt (by omega)) (by first | omega | (exact Nat.lt_of_le_of_lt (by rw [Nat.shiftRight_eq_div_pow]; exact Nat.div_le_self ..) (by omega)) | exact two_lt (by omega)) ?_
          refine SOps.assign rfl ?_
          refine SOps.nil ?_
          show SCode _ _ _ _
          refine SCode.region ?_
          refine SOps.addI rfl rfl (by first | omega | (rw [tbl_len]; omega) | (rw [tbl_row]; omega)) (by first | omega | (rw [tbl_len]; omega) | (rw [tbl_row]; omega)) ?_
          refine SOps.move rfl ?_
          refine SOps.nil ?_
          first
            | exact ⟨i + 1, n, ⟨by omega, hn, by rw [← hf, hdr]; simp only [nextF]; rw [if_neg (by rw [bit0i.1 hb2]; simp)]⟩, by omega, St.Le.of ⟨rfl, rfl, rfl, rfl, rfl, rfl, rfl, rfl, trivial⟩⟩
            | exact ⟨i + 1, n, ⟨by omega, hn, by rw [← hf, hdr]; simp only [nextF]; rw [if_neg (by rw [tbl_at _ _ (by omega) hc] at hc3; rw [hc3]; simp)]⟩, by omega, St.Le.of ⟨rfl, rfl, rfl, rfl, rfl, rfl, rfl, rfl, trivial⟩⟩
            | exact ⟨i + 1, n ||| 2 ^ i, ⟨by omega, or_lt hn (by omega), by rw [← hf, hdr]; simp only [nextF]; rw [if_pos (by rw [tbl_at _ _ (by omega) hc] at hc3; simp only [Bool.and_eq_true]; exact ⟨by cases h : s.testBit i with | true => rfl | false => exact absurd (bit0i.2 h) hb2, hc3⟩), if_pos hc4]⟩, by omega, St.Le.of ⟨rfl, rfl, rfl, rfl, rfl, rfl, rfl, rfl, trivial⟩⟩
            | exact ⟨i + 1, n ||| 2 ^ (i + 1), ⟨by omega, or_lt hn (by omega), by rw [← hf, hdr]; simp only [nextF]; rw [if_pos (by rw [tbl_at _ _ (by omega) hc] at hc3; simp only [Bool.and_eq_true]; exact ⟨by cases h : s.testBit i with | true => rfl | false => exact absurd (bit0i.2 h) hb2, hc3⟩), if_neg (by rw [hc4]; simp)]⟩, by omega, St.Le.of ⟨rfl, rfl, rfl, rfl, rfl, rfl, rfl, rfl, trivial⟩⟩
        · try simp only [nmL] at hc4
          refine SCode.region ?_
          refine SOps.move rfl ?_
          refine SOps.move rfl ?_
          refine SOps.addI rfl rfl (by first | omega | (rw [tbl_len]; omega) | (rw [tbl_row]; omega)) (by first | omega | (rw [tbl_len]; omega) | (rw [tbl_row]; omega)) ?_
          refine SOps.shlN (k := (i + 1)) rfl rfl (by first | omega | (rw [tbl_len]; omega) | (rw [tbl_row]; omega)) (by first | omega | (rw [tbl_len]; omega) | (rw [tbl_row]; omega)) ?_
          refine SOps.orN rfl rfl (by first | omega | (exact Nat.lt_of_le_of_lt (by rw [Nat.shiftRight_eq_div_pow]; exact Nat.div_le_self ..) (by omega)) | exact two_lt (by omega)) (by first | omega | (exact Nat.lt_of_le_of_lt (by rw [Nat.shiftRight_eq_div_pow]; exact Nat.div_le_self ..) (by omega)) | exact two_lt (by omega)) ?_
          refine SOps.assign rfl ?_
          refine SOps.nil ?_
          show SCode _ _ _ _
          refine SCode.region ?_
          refine SOps.addI rfl rfl (by first | omega | (rw [tbl_len]; omega) | (rw [tbl_row]; omega)) (by first | omega | (rw [tbl_len]; omega) | (rw [tbl_row]; omega)) ?_
          refine SOps.move rfl ?_
          refine SOps.nil ?_
          first
            | exact ⟨i + 1, n, ⟨by omega, hn, by rw [← hf, hdr]; simp only [nextF]; rw [if_neg (by rw [bit0i.1 hb2]; simp)]⟩, by omega, St.Le.of ⟨rfl, rfl, rfl, rfl, rfl, rfl, rfl, rfl, trivial⟩⟩
            | exact ⟨i + 1, n, ⟨by omega, hn, by rw [← hf, hdr]; simp only [nextF]; rw [if_neg (by rw [tbl_at _ _ (by omega) hc] at hc3; rw [hc3]; simp)]⟩, by omega, St.Le.of ⟨rfl, rfl, rfl, rfl, rfl, rfl, rfl, rfl, trivial⟩⟩
            | exact ⟨i + 1, n ||| 2 ^ i, ⟨by omega, or_lt hn (by omega), by rw [← hf, hdr]; simp only [nextF]; rw [if_pos (by rw [tbl_at _ _ (by omega) hc] at hc3; simp only [Bool.and_eq_true]; exact ⟨by cases h : s.testBit i with | true => rfl | false => exact absurd (bit0i.2 h) hb2, hc3⟩), if_pos hc4]⟩, by omega, St.Le.of ⟨rfl, rfl, rfl, rfl, rfl, rfl, rfl, rfl, trivial⟩⟩
            | exact ⟨i + 1, n ||| 2 ^ (i + 1), ⟨by omega, or_lt hn (by omega), by rw [← hf, hdr]; simp only [nextF]; rw [if_pos (by rw [tbl_at _ _ (by omega) hc] at hc3; simp only [Bool.and_eq_true]; exact ⟨by cases h : s.testBit i with | true => rfl | false => exact absurd (bit0i.2 h) hb2, hc3⟩), if_neg (by rw [hc4]; simp)]⟩, by omega, St.Le.of ⟨rfl, rfl, rfl, rfl, rfl, rfl, rfl, rfl, trivial⟩⟩
  · try simp only [nmL] at hc1
    refine SCode.exit ?_
    show SCode _ _ _ _
    refine SCode.seqR ?_
    refine SOps.loadPin rfl flatB_45 ?_
    refine SOps.move rfl ?_
    refine SOps.callP (pClosed _ _ (by omega) (by omega)) rfl ?_
    rintro _ rfl
    refine SOps.assign rfl ?_
    refine SOps.nil ?_
    refine SCode.ret ?_
    exact ⟨_, Res.one (.tmp rfl), congrArg (fun n : Nat => DV.v (.int .u8 (n : Int))) (by rw [stepN, ← hf, List.drop_eq_nil_of_le (by omega)]; rfl), rfl⟩
def dv1 (d : DV) : List DV := [d]
def rowsI (T : List (List Bool)) (i : Nat) : List DV := (T.take i).map (fun r => DBools r) ++ List.replicate (T.length - i) (.v (.slice none 0 0))
theorem rowsI_zero (T : List (List Bool)) : rowsI T 0 = List.replicate T.length (.v (.slice none 0 0)) := by simp [rowsI]
theorem rowsI_len {T : List (List Bool)} {i : Nat} (h : i ≤ T.length) : (rowsI T i).length = T.length := by simp [rowsI]; omega
theorem rowsI_set {T : List (List Bool)} {i : Nat} (h : i < T.length) : (rowsI T i).set i (DBools (T[i])) = rowsI T (i + 1) := by
  unfold rowsI
  have e : T.length - i = (T.length - (i + 1)) + 1 := by omega
  rw [List.set_append_right _ _ (by simp; omega), e, List.replicate_succ]
  have e2 : i - ((T.take i).map (fun r => DBools r)).length = 0 := by simp; omega
  rw [e2, List.set_cons_zero, List.take_add_one, List.getElem?_eq_getElem h, List.map_append, List.append_assoc]
  rfl
theorem rowsI_full (T : List (List Bool)) : (rowsI T T.length).map dv1 = T.map encRow := by
  simp [rowsI, dv1, encRow, Function.comp_def]
def rowJ (l : List Bool) (j : Nat) : List Bool := l.take j ++ List.replicate (l.length - j) false
theorem rowJ_zero (l : List Bool) : rowJ l 0 = List.replicate l.length false := by simp [rowJ]
theorem rowJ_len {l : List Bool} {j : Nat} (h : j ≤ l.length) : (rowJ l j).length = l.length := by simp [rowJ]; omega
theorem rowJ_set {l : List Bool} {j : Nat} (h : j < l.length) : (rowJ l j).set j (l[j]) = rowJ l (j + 1) := by
  unfold rowJ
  have e : l.length - j = (l.length - (j + 1)) + 1 := by omega
  rw [List.set_append_right _ _ (by simp; omega), e, List.replicate_succ]
  have e2 : j - (l.take j).length = 0 := by simp; omega
  rw [e2, List.set_cons_zero, List.take_add_one, List.getElem?_eq_getElem h, List.append_assoc]
  rfl
theorem rowJ_full (l : List Bool) : rowJ l l.length = l := by simp [rowJ]
theorem pMachine (a : List Letter) (p : List Item) (hp : p.length < 8) (ha : a.length ≤ 1048576) : GCall Tryd.prog E 108 [DLs a, DIts p] [] (fun d H => d = .fn 111 [.ipin [DIts p], .ipin [DTbl (tbl a p)]] ∧ H = []) := by
  refine GCall.body (C := ⟨Tryd.prog, E, true⟩) Tryd.func108 rfl (fun _ => rfl) (by kernel_rfl) rfl ?_
  refine SCode.seqR ?_
  refine SOps.boxF rfl rfl rfl ?_
  refine SOps.assign rfl ?_
  refine SOps.nil ?_
  refine SCode.seqR ?_
  refine SOps.loadPin rfl flatB_45 ?_
  refine SOps.lenM rfl sliceB_45_87_4 ?_
  refine SOps.makeK (f := dv1) (p.length) (.v (.slice none 0 0)) sliceB_144_145_1 elemB_145_1_24 zeroIs_145 rfl rfl (by first | omega | (rw [rowsI_len (by rw [tbl_len]; omega), tbl_len]; omega) | (rw [List.length_set, rowsI_len (by rw [tbl_len]; omega), tbl_len]; omega) | (rw [rowJ_len (by simp; omega)]; simp; omega) | (simp; omega)) (by first | omega | (rw [rowsI_len (by rw [tbl_len]; omega), tbl_len]; omega) | (rw [List.length_set, rowsI_len (by rw [tbl_len]; omega), tbl_len]; omega) | (rw [rowJ_len (by simp; omega)]; simp; omega) | (simp; omega)) rfl (by first | omega | (rw [rowsI_len (by rw [tbl_len]; omega), tbl_len]; omega) | (rw [List.length_set, rowsI_len (by rw [tbl_len]; omega), tbl_len]; omega) | (rw [rowJ_len (by simp; omega)]; simp; omega) | (simp; omega)) (by simp only [lenB]; omega) (fun b0 hb_0 => ?_)
  refine SOps.alloc (sz := 1) zeroIs_144 (fun b1 hb_1 => ?_)
  refine SOps.storeM 0 rfl rfl oneB_144 rfl ?_
  refine SOps.nil ?_
  refine SCode.seq ?_
  refine SCode.seqR ?_
  refine SOps.loadPin rfl flatB_45 ?_
  refine SOps.lenM rfl sliceB_45_87_4 ?_
  refine SOps.move rfl ?_
  refine SOps.nil ?_
  refine SCode.block ?_
  refine SCode.loop1 (fun (i : Nat) => (⟨45, [(0, DLs a), (3, .ipin [DIts p]), (5, .ref b1 0), (13, DIts p), (14, .v (.int .i64 (p.length : Int))), (15, .v (.int .i64 (i : Int)))], [(b1, .row 144 1 [[.sl b0 1 0 p.length]]), (b0, .row 145 1 ((rowsI (tbl a p) i).map dv1))]⟩ : St)) (fun (i : Nat) => i ≤ p.length) (fun (i : Nat) => p.length - i) (0) (by exact Nat.zero_le _) (St.Le.of ⟨rfl, rfl, rfl, rfl, rfl, rfl, trivial⟩ rfl (by rw [rowsI_zero, tbl_len]; rfl)) ?_
  rintro i hi
  refine SCode.seqR ?_
  refine SOps.bin rfl rfl rfl ?_
  refine SOps.nil ?_
  refine SCode.seq ?_
  refine SCode.cond rfl (fun hc1 => ?_) (fun hc1 => ?_)
  · try simp only [nmL] at hc1
    refine SCode.skip ?_
    show SCode _ _ _ _
    refine SCode.seq ?_
    refine SCode.block ?_
    refine SCode.seqR ?_
    refine SOps.move rfl ?_
    refine SOps.indexM (i) rfl rfl sliceB_45_87_4 (by first | omega | (rw [rowsI_len (by rw [tbl_len]; omega), tbl_len]; omega) | (rw [List.length_set, rowsI_len (by rw [tbl_len]; omega), tbl_len]; omega) | (rw [rowJ_len (by simp; omega)]; simp; omega) | (simp; omega)) (by first | omega | (rw [rowsI_len (by rw [tbl_len]; omega), tbl_len]; omega) | (rw [List.length_set, rowsI_len (by rw [tbl_len]; omega), tbl_len]; omega) | (rw [rowJ_len (by simp; omega)]; simp; omega) | (simp; omega)) ?_
    refine SOps.loadPinA rfl aggB_87_4 (Nat.le_of_ble_eq_true rfl) ?_
    refine SOps.alloc (sz := 4) zeroIs_87 (fun b2 hb_2 => ?_)
    refine SOps.assign rfl ?_
    refine SOps.storeAM 0 rfl rfl aggB_87_4 rfl ?_
    refine SOps.freezeRef (t := 7) 0 0 rfl rfl rfl rfl rfl ?_
    refine SOps.nil ?_
    refine SCode.seq ?_
    have hi3 : i < p.length := by omega
    refine SCode.weaken (st' := (⟨45, [(0, DLs a), (3, .ipin [DIts p]), (5, .ref b1 0), (6, .v (.int .i64 (i : Int))), (7, .ipin (encIt (p[i]))), (13, DIts p), (14, .v (.int .i64 (p.length : Int))), (15, .v (.int .i64 (i : Int)))], [(b1, .row 144 1 [[.sl b0 1 0 p.length]]), (b0, .row 145 1 ((rowsI (tbl a p) i).map dv1))]⟩ : St)) (St.Le.of ⟨rfl, rfl, rfl, rfl, rfl, rfl, rfl, rfl, trivial⟩) ?_
    refine SCode.drawMix 8 [4, 5, 6] mixed_ [fun b => some (20, .sl b0 1 0 p.length), fun b => some (21, .v (.int .i64 (i : Int))), fun b => some (22, DLs a), fun b => some (23, .v (.int .i64 (a.length : Int))), fun b => some (24, .sl b 1 0 a.length), fun b => some (25, .ref b0 ((0 + i) * 1)), fun b => none] [some 20, some 21, some 22, some 23, some 24, some 25, none] [[.inr 5], [.inr 6], [.inr 0], [.inl 2], [.inl 3], [.inl 0, .inl 1], [.inl 5, .inl 4]] [fun b => [(5, .ref b1 0)], fun b => [(6, .v (.int .i64 (i : Int)))], fun b => [(0, DLs a)], fun b => [(22, DLs a)], fun b => [(23, .v (.int .i64 (a.length : Int)))], fun b => [(20, .sl b0 1 0 p.length), (21, .v (.int .i64 (i : Int)))], fun b => [(25, .ref b0 ((0 + i) * 1)), (24, .sl b 1 0 a.length)]] (fun b c => match c with | 0 => [(b1, .row 144 1 [[.sl b0 1 0 p.length]]), (b0, .row 145 1 ((rowsI (tbl a p) i).map dv1))] | 1 => [(b, .row 4 1 ((List.replicate a.length false).map encB)), (b1, .row 144 1 [[.sl b0 1 0 p.length]]), (b0, .row 145 1 ((rowsI (tbl a p) i).map dv1))] | 2 => [(b, .row 4 1 ((List.replicate a.length false).map encB)), (b1, .row 144 1 [[.sl b0 1 0 p.length]]), (b0, .row 145 1 ((rowsI (tbl a p) i).map dv1))] | _ => [(b, .row 4 1 ((List.replicate a.length false).map encB)), (b1, .row 144 1 [[.sl b0 1 0 p.length]]), (b0, .row 145 1 (((rowsI (tbl a p) i).set i (.sl b 1 0 a.length)).map dv1))]) [(false, false, [0, 1]), (false, false, [0, 1]), (false, false, [0]), (false, false, [0]), (true, true, [0]), (true, false, [1]), (true, false, [2])] (by kernel_rfl) (fun _ => rfl) rfl (fun _ => rfl) (fun _ => rfl) (cohOne 4 rfl (fun j r hj => by match j, hj with | 0, hj => exact .inl (by simp at hj; subst hj; intros; rfl) | 1, hj => exact .inl (by simp at hj; subst hj; intros; rfl) | 2, hj => exact .inl (by simp at hj; subst hj; intros; rfl) | 3, hj => exact .inl (by simp at hj; subst hj; intros; rfl) | 4, hj => exact .inr (.inl rfl) | 5, hj => exact .inl (by simp at hj; subst hj; intros; rfl) | 6, hj => exact .inl (by simp at hj; subst hj; intros; rfl) | q + 7, hj => simp at hj)) ?_ ?_
    · refine MixOk.cons ?_ ?_
      · refine StgOk.cons (fun b rest => ?_) ?_
        · refine SOps.loadRef 0 0 0 rfl flatB_144 rfl rfl rfl rfl ?_
          exact SOps.nil ⟨b, fun _ => rfl, by first | rfl | simp_all⟩
        refine StgOk.cons (fun b rest => ?_) ?_
        · refine SOps.loadRef 1 0 0 rfl flatB_144 rfl rfl rfl rfl ?_
          exact SOps.nil ⟨b, fun _ => rfl, by first | rfl | simp_all⟩
        exact StgOk.nil
      refine MixOk.cons ?_ ?_
      · refine StgOk.cons (fun b rest => ?_) ?_
        · refine SOps.move rfl ?_
          exact SOps.nil ⟨b, fun _ => rfl, by first | rfl | simp_all⟩
        refine StgOk.cons (fun b rest => ?_) ?_
        · refine SOps.move rfl ?_
          exact SOps.nil ⟨b, fun _ => rfl, by first | rfl | simp_all⟩
        exact StgOk.nil
      refine MixOk.cons ?_ ?_
      · refine StgOk.cons (fun b rest => ?_) ?_
        · refine SOps.move rfl ?_
          exact SOps.nil ⟨b, fun _ => rfl, by first | rfl | simp_all⟩
        exact StgOk.nil
      refine MixOk.cons ?_ ?_
      · refine StgOk.cons (fun b rest => ?_) ?_
        · refine SOps.lenM rfl sliceB_22_28_2 ?_
          exact SOps.nil ⟨b, fun _ => rfl, by first | rfl | simp_all⟩
        exact StgOk.nil
      refine MixOk.cons ?_ ?_
      · refine StgOk.cons (fun b rest => ?_) ?_
        · refine SOps.makeK (f := encB) (a.length) (false) sliceB_145_4_1 elemB_4_1_1 zeroIs_4 rfl rfl (by first | omega | (rw [rowsI_len (by rw [tbl_len]; omega), tbl_len]; omega) | (rw [List.length_set, rowsI_len (by rw [tbl_len]; omega), tbl_len]; omega) | (rw [rowJ_len (by simp; omega)]; simp; omega) | (simp; omega)) (by first | omega | (rw [rowsI_len (by rw [tbl_len]; omega), tbl_len]; omega) | (rw [List.length_set, rowsI_len (by rw [tbl_len]; omega), tbl_len]; omega) | (rw [rowJ_len (by simp; omega)]; simp; omega) | (simp; omega)) rfl (by first | omega | (rw [rowsI_len (by rw [tbl_len]; omega), tbl_len]; omega) | (rw [List.length_set, rowsI_len (by rw [tbl_len]; omega), tbl_len]; omega) | (rw [rowJ_len (by simp; omega)]; simp; omega) | (simp; omega)) (by simp only [lenB]; omega) (fun b3 hb_3 => ?_)
          exact SOps.nil ⟨b3, (fun h => by cases h), rfl⟩
        exact StgOk.nil
      refine MixOk.cons ?_ ?_
      · refine StgOk.cons (fun b rest => ?_) ?_
        · refine SOps.indexS (i) rfl rfl sliceB_144_145_1 (by first | omega | (rw [rowsI_len (by rw [tbl_len]; omega), tbl_len]; omega) | (rw [List.length_set, rowsI_len (by rw [tbl_len]; omega), tbl_len]; omega) | (rw [rowJ_len (by simp; omega)]; simp; omega) | (simp; omega)) (by first | omega | (rw [rowsI_len (by rw [tbl_len]; omega), tbl_len]; omega) | (rw [List.length_set, rowsI_len (by rw [tbl_len]; omega), tbl_len]; omega) | (rw [rowJ_len (by simp; omega)]; simp; omega) | (simp; omega)) ?_
          exact SOps.nil ⟨b, fun _ => rfl, by first | rfl | simp_all⟩
        exact StgOk.nil
      refine MixOk.cons ?_ ?_
      · refine StgOk.cons (fun b rest => ?_) ?_
        · refine SOps.storeK 2 (i) rfl rfl oneB_145 rfl (by first | omega | (rw [rowsI_len (by rw [tbl_len]; omega), tbl_len]; omega) | (rw [List.length_set, rowsI_len (by rw [tbl_len]; omega), tbl_len]; omega) | (rw [rowJ_len (by simp; omega)]; simp; omega) | (simp; omega)) (by first | omega | (rw [rowsI_len (by rw [tbl_len]; omega), tbl_len]; omega) | (rw [List.length_set, rowsI_len (by rw [tbl_len]; omega), tbl_len]; omega) | (rw [rowJ_len (by simp; omega)]; simp; omega) | (simp; omega)) rfl (fun _ => rfl) ?_
          exact SOps.nil ⟨b, fun _ => rfl, by first | rfl | simp_all⟩
        exact StgOk.nil
      exact MixOk.nil
    · intro bM
      show SCode _ _ _ _
      refine SCode.seqR ?_
      refine SOps.move rfl ?_
      refine SOps.lenM rfl sliceB_22_28_2 ?_
      refine SOps.move rfl ?_
      refine SOps.nil ?_
      refine SCode.block ?_
      refine SCode.loop1 (fun (j : Nat) => (⟨45, [(0, DLs a), (3, .ipin [DIts p]), (5, .ref b1 0), (6, .v (.int .i64 (i : Int))), (7, .ipin (encIt (p[i]))), (13, DIts p), (14, .v (.int .i64 (p.length : Int))), (15, .v (.int .i64 (i : Int))), (26, DLs a), (27, .v (.int .i64 (a.length : Int))), (28, .v (.int .i64 (j : Int)))], [(bM, .row 4 1 ((rowJ (a.map (admB (p[i]))) j).map encB)), (b1, .row 144 1 [[.sl b0 1 0 p.length]]), (b0, .row 145 1 (((rowsI (tbl a p) i).set i (.sl bM 1 0 a.length)).map dv1))]⟩ : St)) (fun (j : Nat) => j ≤ a.length) (fun (j : Nat) => a.length - j) (0) (by exact Nat.zero_le _) (St.Le.of ⟨rfl, rfl, rfl, rfl, rfl, rfl, rfl, rfl, rfl, rfl, rfl, trivial⟩ rfl (by rw [rowJ_zero, List.length_map]; rfl)) ?_
      rintro j hj
      refine SCode.seqR ?_
      refine SOps.bin rfl rfl rfl ?_
      refine SOps.nil ?_
      refine SCode.seq ?_
      refine SCode.cond rfl (fun hc2 => ?_) (fun hc2 => ?_)
      · try simp only [nmL] at hc2
        refine SCode.skip ?_
        show SCode _ _ _ _
        refine SCode.seq ?_
        refine SCode.block ?_
        refine SCode.seqR ?_
        refine SOps.move rfl ?_
        refine SOps.indexM (j) rfl rfl sliceB_22_28_2 (by first | omega | (rw [rowsI_len (by rw [tbl_len]; omega), tbl_len]; omega) | (rw [List.length_set, rowsI_len (by rw [tbl_len]; omega), tbl_len]; omega) | (rw [rowJ_len (by simp; omega)]; simp; omega) | (simp; omega)) (by first | omega | (rw [rowsI_len (by rw [tbl_len]; omega), tbl_len]; omega) | (rw [List.length_set, rowsI_len (by rw [tbl_len]; omega), tbl_len]; omega) | (rw [rowJ_len (by simp; omega)]; simp; omega) | (simp; omega)) ?_
        refine SOps.loadPinA rfl aggB_28_2 (Nat.le_of_ble_eq_true rfl) ?_
        refine SOps.alloc (sz := 2) zeroIs_28 (fun b4 hb_4 => ?_)
        refine SOps.assign rfl ?_
        refine SOps.storeAM 0 rfl rfl aggB_28_2 rfl ?_
        refine SOps.freezeRef (t := 9) 0 0 rfl rfl rfl rfl rfl ?_
        refine SOps.nil ?_
        have hj3 : j < a.length := by omega
        refine SCode.weaken (st' := (⟨45, [(0, DLs a), (3, .ipin [DIts p]), (5, .ref b1 0), (6, .v (.int .i64 (i : Int))), (7, .ipin (encIt (p[i]))), (8, .v (.int .i64 (j : Int))), (9, .ipin (encL (a[j]))), (13, DIts p), (14, .v (.int .i64 (p.length : Int))), (15, .v (.int .i64 (i : Int))), (26, DLs a), (27, .v (.int .i64 (a.length : Int))), (28, .v (.int .i64 (j : Int)))], [(bM, .row 4 1 ((rowJ (a.map (admB (p[i]))) j).map encB)), (b1, .row 144 1 [[.sl b0 1 0 p.length]]), (b0, .row 145 1 (((rowsI (tbl a p) i).set i (.sl bM 1 0 a.length)).map dv1))]⟩ : St)) (St.Le.of ⟨rfl, rfl, rfl, rfl, rfl, rfl, rfl, rfl, rfl, rfl, rfl, rfl, rfl, trivial⟩) ?_
        refine SCode.drawMix 11 [8, 9] mixed_ [fun b => some (33, .sl b0 1 0 p.length), fun b => some (34, .v (.int .i64 (i : Int))), fun b => some (35, .ref b0 ((0 + i) * 1)), fun b => some (36, .sl bM 1 0 a.length), fun b => some (37, .v (.int .i64 (j : Int))), fun b => some (38, .agg (encIt (p[i]))), fun b => some (39, .agg (encL (a[j]))), fun b => some (40, .v (.bool (admB (p[i]) (a[j])))), fun b => some (41, .ref bM ((0 + j) * 1)), fun b => none] [some 33, some 34, some 35, some 36, some 37, some 38, some 39, some 40, some 41, none] [[.inr 5], [.inr 6], [.inl 0, .inl 1], [.inl 2], [.inr 8], [.inr 7], [.inr 9], [.inl 5, .inl 6], [.inl 3, .inl 4], [.inl 8, .inl 7]] [fun b => [(5, .ref b1 0)], fun b => [(6, .v (.int .i64 (i : Int)))], fun b => [(33, .sl b0 1 0 p.length), (34, .v (.int .i64 (i : Int)))], fun b => [(35, .ref b0 ((0 + i) * 1))], fun b => [(8, .v (.int .i64 (j : Int)))], fun b => [(7, .ipin (encIt (p[i])))], fun b => [(9, .ipin (encL (a[j])))], fun b => [(38, .agg (encIt (p[i]))), (39, .agg (encL (a[j])))], fun b => [(36, .sl bM 1 0 a.length), (37, .v (.int .i64 (j : Int)))], fun b => [(41, .ref bM ((0 + j) * 1)), (40, .v (.bool (admB (p[i]) (a[j]))))]] (fun b c => match c with | 0 => [(bM, .row 4 1 ((rowJ (a.map (admB (p[i]))) j).map encB)), (b1, .row 144 1 [[.sl b0 1 0 p.length]]), (b0, .row 145 1 (((rowsI (tbl a p) i).set i (.sl bM 1 0 a.length)).map dv1))] | 1 => [(bM, .row 4 1 ((rowJ (a.map (admB (p[i]))) j).map encB)), (b1, .row 144 1 [[.sl b0 1 0 p.length]]), (b0, .row 145 1 (((rowsI (tbl a p) i).set i (.sl bM 1 0 a.length)).map dv1))] | _ => [(bM, .row 4 1 (((rowJ (a.map (admB (p[i]))) j).set j (admB (p[i]) (a[j]))).map encB)), (b1, .row 144 1 [[.sl b0 1 0 p.length]]), (b0, .row 145 1 (((rowsI (tbl a p) i).set i (.sl bM 1 0 a.length)).map dv1))]) [(false, false, [0]), (false, false, [0]), (false, false, [0]), (false, false, [0]), (false, false, [0]), (false, false, [0]), (false, false, [0]), (false, false, [0]), (true, false, [0]), (true, false, [1])] (by kernel_rfl) (fun _ => rfl) rfl (fun _ => rfl) (fun _ => rfl) (cohNone rfl) ?_ ?_
        · refine MixOk.cons ?_ ?_
          · refine StgOk.cons (fun b rest => ?_) ?_
            · refine SOps.loadRef 1 0 0 rfl flatB_144 rfl rfl rfl rfl ?_
              exact SOps.nil ⟨b, fun _ => rfl, by first | rfl | simp_all⟩
            exact StgOk.nil
          refine MixOk.cons ?_ ?_
          · refine StgOk.cons (fun b rest => ?_) ?_
            · refine SOps.move rfl ?_
              exact SOps.nil ⟨b, fun _ => rfl, by first | rfl | simp_all⟩
            exact StgOk.nil
          refine MixOk.cons ?_ ?_
          · refine StgOk.cons (fun b rest => ?_) ?_
            · refine SOps.indexS (i) rfl rfl sliceB_144_145_1 (by first | omega | (rw [rowsI_len (by rw [tbl_len]; omega), tbl_len]; omega) | (rw [List.length_set, rowsI_len (by rw [tbl_len]; omega), tbl_len]; omega) | (rw [rowJ_len (by simp; omega)]; simp; omega) | (simp; omega)) (by first | omega | (rw [rowsI_len (by rw [tbl_len]; omega), tbl_len]; omega) | (rw [List.length_set, rowsI_len (by rw [tbl_len]; omega), tbl_len]; omega) | (rw [rowJ_len (by simp; omega)]; simp; omega) | (simp; omega)) ?_
              exact SOps.nil ⟨b, fun _ => rfl, by first | rfl | simp_all⟩
            exact StgOk.nil
          refine MixOk.cons ?_ ?_
          · refine StgOk.cons (fun b rest => ?_) ?_
            · refine SOps.loadK (d := .sl bM 1 0 a.length) 2 (i) rfl flatB_145 rfl (by omega) (by first | omega | (rw [rowsI_len (by rw [tbl_len]; omega), tbl_len]; omega) | (rw [List.length_set, rowsI_len (by rw [tbl_len]; omega), tbl_len]; omega) | (rw [rowJ_len (by simp; omega)]; simp; omega) | (simp; omega)) (by simp [dv1]) ?_
              exact SOps.nil ⟨b, fun _ => rfl, by first | rfl | simp_all⟩
            exact StgOk.nil
          refine MixOk.cons ?_ ?_
          · refine StgOk.cons (fun b rest => ?_) ?_
            · refine SOps.move rfl ?_
              exact SOps.nil ⟨b, fun _ => rfl, by first | rfl | simp_all⟩
            exact StgOk.nil
          refine MixOk.cons ?_ ?_
          · refine StgOk.cons (fun b rest => ?_) ?_
            · refine SOps.loadPinA rfl aggB_87_4 (Nat.le_of_ble_eq_true rfl) ?_
              exact SOps.nil ⟨b, fun _ => rfl, by first | rfl | simp_all⟩
            exact StgOk.nil
          refine MixOk.cons ?_ ?_
          · refine StgOk.cons (fun b rest => ?_) ?_
            · refine SOps.loadPinA rfl aggB_28_2 (Nat.le_of_ble_eq_true rfl) ?_
              exact SOps.nil ⟨b, fun _ => rfl, by first | rfl | simp_all⟩
            exact StgOk.nil
          refine MixOk.cons ?_ ?_
          · refine StgOk.cons (fun b rest => ?_) ?_
            · refine SOps.callP (pAdmits _ _) rfl ?_
              rintro _ rfl
              exact SOps.nil ⟨b, fun _ => rfl, by first | rfl | simp_all⟩
            exact StgOk.nil
          refine MixOk.cons ?_ ?_
          · refine StgOk.cons (fun b rest => ?_) ?_
            · refine SOps.indexS (j) rfl rfl sliceB_145_4_1 (by first | omega | (rw [rowsI_len (by rw [tbl_len]; omega), tbl_len]; omega) | (rw [List.length_set, rowsI_len (by rw [tbl_len]; omega), tbl_len]; omega) | (rw [rowJ_len (by simp; omega)]; simp; omega) | (simp; omega)) (by first | omega | (rw [rowsI_len (by rw [tbl_len]; omega), tbl_len]; omega) | (rw [List.length_set, rowsI_len (by rw [tbl_len]; omega), tbl_len]; omega) | (rw [rowJ_len (by simp; omega)]; simp; omega) | (simp; omega)) ?_
              exact SOps.nil ⟨b, fun _ => rfl, by first | rfl | simp_all⟩
            exact StgOk.nil
          refine MixOk.cons ?_ ?_
          · refine StgOk.cons (fun b rest => ?_) ?_
            · refine SOps.storeK 0 (j) rfl rfl oneB_4 rfl (by first | omega | (rw [rowsI_len (by rw [tbl_len]; omega), tbl_len]; omega) | (rw [List.length_set, rowsI_len (by rw [tbl_len]; omega), tbl_len]; omega) | (rw [rowJ_len (by simp; omega)]; simp; omega) | (simp; omega)) (by first | omega | (rw [rowsI_len (by rw [tbl_len]; omega), tbl_len]; omega) | (rw [List.length_set, rowsI_len (by rw [tbl_len]; omega), tbl_len]; omega) | (rw [rowJ_len (by simp; omega)]; simp; omega) | (simp; omega)) rfl (fun _ => rfl) ?_
              exact SOps.nil ⟨b, fun _ => rfl, by first | rfl | simp_all⟩
            exact StgOk.nil
          exact MixOk.nil
        · intro bN
          show SCode _ _ _ _
          refine SCode.region ?_
          refine SOps.addI rfl rfl (by first | omega | (rw [rowsI_len (by rw [tbl_len]; omega), tbl_len]; omega) | (rw [List.length_set, rowsI_len (by rw [tbl_len]; omega), tbl_len]; omega) | (rw [rowJ_len (by simp; omega)]; simp; omega) | (simp; omega)) (by first | omega | (rw [rowsI_len (by rw [tbl_len]; omega), tbl_len]; omega) | (rw [List.length_set, rowsI_len (by rw [tbl_len]; omega), tbl_len]; omega) | (rw [rowJ_len (by simp; omega)]; simp; omega) | (simp; omega)) ?_
          refine SOps.move rfl ?_
          refine SOps.nil ?_
          exact ⟨j + 1, by omega, by omega, St.Le.of ⟨rfl, rfl, rfl, rfl, rfl, rfl, rfl, rfl, rfl, rfl, rfl, trivial⟩ rfl (by rw [← rowJ_set (show j < (a.map (admB (p[i]))).length by simp; omega)]; simp only [List.getElem_map]; rfl)⟩
      · try simp only [nmL] at hc2
        refine SCode.exit ?_
        show SCode _ _ _ _
        refine SCode.region ?_
        have hil : i < (tbl a p).length := by rw [tbl_len]; omega
        obtain rfl : j = a.length := by omega
        have hrow : rowJ (a.map (admB (p[i]))) a.length = (tbl a p)[i] := by rw [show a.length = (a.map (admB (p[i]))).length by simp, rowJ_full]; simp [tbl]
        have hset2 : ((((rowsI (tbl a p) i).set i (.sl bM 1 0 a.length)).map dv1).set i (([.sl bM 1 0 a.length] : List DV).set 0 (.isl false 1 ((rowJ (a.map (admB (p[i]))) a.length).map encB)))) = (rowsI (tbl a p) (i + 1)).map dv1 := by rw [hrow, ← rowsI_set hil, List.map_set, List.map_set, List.set_set]; rfl
        refine SOps.freezeIn 0 1 i 0 rfl rfl rfl (row := [.sl bM 1 0 a.length]) (by simp [dv1, List.getElem?_set, rowsI_len (Nat.le_of_lt hil), hil]) (by simp [rowJ]) ?_
        refine SOps.addI rfl rfl (by first | omega | (rw [rowsI_len (by rw [tbl_len]; omega), tbl_len]; omega) | (rw [List.length_set, rowsI_len (by rw [tbl_len]; omega), tbl_len]; omega) | (rw [rowJ_len (by simp; omega)]; simp; omega) | (simp; omega)) (by first | omega | (rw [rowsI_len (by rw [tbl_len]; omega), tbl_len]; omega) | (rw [List.length_set, rowsI_len (by rw [tbl_len]; omega), tbl_len]; omega) | (rw [rowJ_len (by simp; omega)]; simp; omega) | (simp; omega)) ?_
        refine SOps.move rfl ?_
        refine SOps.nil ?_
        exact ⟨i + 1, by omega, by omega, St.Le.of ⟨rfl, rfl, rfl, rfl, rfl, rfl, trivial⟩ rfl (by rw [hset2]; rfl)⟩
  · try simp only [nmL] at hc1
    refine SCode.exit ?_
    show SCode _ _ _ _
    refine SCode.seqR ?_
    obtain rfl : i = p.length := by omega
    refine SOps.freezeIn 1 0 0 0 rfl rfl rfl rfl (by simp [rowsI_len, tbl_len]) ?_
    refine SOps.freezeRef (t := 5) 0 0 rfl rfl rfl rfl rfl ?_
    refine SOps.reSlot (t := 5) rfl (show _ = .ipin [DTbl (tbl a p)] from by show DV.ipin [.isl false 1 ((rowsI (tbl a p) p.length).map dv1)] = .ipin [.isl false 1 ((tbl a p).map encRow)]; rw [← rowsI_full, tbl_len]) ?_
    refine SOps.makeFunc rfl ?_
    refine SOps.assign rfl ?_
    refine SOps.nil ?_
    refine SCode.drop ?_
    refine SCode.ret ?_
    exact ⟨_, Res.one (.tmp rfl), rfl, rfl⟩
theorem lensF_cons {β : Type} (f : Item → β → Bool) (p : List Item) (c : β) (w : List β) (i s : Nat) : lensF f p (c :: w) i s = (if s.testBit p.length then [i] else []) ++ if s = 0 then [] else lensF f p w (i + 1) (stepN p (fun x => f x c) s) := rfl
theorem lensF_nil {β : Type} (f : Item → β → Bool) (p : List Item) (i s : Nat) : lensF f p [] i s = if s.testBit p.length then [i] else [] := rfl
theorem pLengths (a : List Letter) (p : List Item) (l : List Nat) (hp : p.length < 8) (ha : a.length ≤ 1048576) (hl : l.length ≤ 1048576) (hlt : ∀ c ∈ l, c < a.length) : GCall Tryd.prog E 104 [DLs a, DIts p, DNats l] [] (fun d H => d = DNats (lens (admF a) p l) ∧ H = []) := by
  refine GCall.body (C := ⟨Tryd.prog, E, true⟩) Tryd.func104 rfl (fun _ => rfl) (by kernel_rfl) rfl ?_
  refine SCode.seqR ?_
  refine SOps.assign rfl ?_
  refine SOps.nil ?_
  refine SCode.seqR ?_
  refine SOps.assign rfl ?_
  refine SOps.nil ?_
  refine SCode.seqR ?_
  refine SOps.move rfl ?_
  refine SOps.move rfl ?_
  refine SOps.callP (pMachine _ _ (by omega) (by omega)) rfl ?_
  rintro _ rfl
  refine SOps.assign rfl ?_
  refine SOps.nil ?_
  refine SCode.seqR ?_
  refine SOps.move rfl ?_
  refine SOps.callP (pClosed _ 1 (by omega) (by decide)) rfl ?_
  rintro _ rfl
  refine SOps.assign rfl ?_
  refine SOps.nil ?_
  refine SCode.seqR ?_
  refine SOps.assign rfl ?_
  refine SOps.nil ?_
  refine SCode.block ?_
  refine SCode.loop4 (fun (i : Nat) (s : Nat) (out : List Nat) (k : Nat) => (⟨44, [(0, DLs a), (1, DIts p), (2, DNats l), (7, accD 1 k (out.map encN)), (8, .fn 111 [.ipin [DIts p], .ipin [DTbl (tbl a p)]]), (9, .v (.int .u8 ((s : Nat) : Int))), (10, .v (.int .i64 (i : Int)))], accH 3 1 k (out.map encN) ++ []⟩ : St)) (fun (i : Nat) (s : Nat) (out : List Nat) (k : Nat) => i ≤ l.length ∧ out.length ≤ i ∧ s < 256 ∧ out ++ lensF (admF a) p (l.drop i) i s = lens (admF a) p l) (fun (i : Nat) (s : Nat) (out : List Nat) (k : Nat) => l.length + 1 - i) (0) (closedN p 1) ([]) (0) (by exact ⟨Nat.zero_le _, Nat.le_refl _, closedN_lt (by omega) (by decide), rfl⟩) (St.Le.of ⟨(by first | rfl | (show some _ = some _; simp)), (by first | rfl | (show some _ = some _; simp)), (by first | rfl | (show some _ = some _; simp)), (by first | rfl | (show some _ = some _; simp)), (by first | rfl | (show some _ = some _; simp)), (by first | rfl | (show some _ = some _; simp)), (by first | rfl | (show some _ = some _; simp)), trivial⟩ rfl (by first | rfl | (simp))) ?_
  rintro i s out k ⟨hi, ho, hs, hf⟩
  refine SCode.seq ?_
  refine SCode.block ?_
  refine SCode.seq ?_
  refine SCode.seqR ?_
  refine SOps.move rfl ?_
  refine SOps.move rfl ?_
  refine SOps.lenM rfl sliceB_45_87_4 ?_
  refine SOps.shrN (k := p.length) rfl rfl (by first | omega | (simp only [lenB]; omega)) (by first | omega | (simp only [lenB]; omega)) (by first | omega | (simp only [lenB]; omega)) ?_
  refine SOps.andN (y := 1) rfl rfl (by first | omega | (exact Nat.lt_of_le_of_lt (by rw [Nat.shiftRight_eq_div_pow]; exact Nat.div_le_self ..) (by omega)) | exact two_lt (by omega)) (by first | omega | (exact Nat.lt_of_le_of_lt (by rw [Nat.shiftRight_eq_div_pow]; exact Nat.div_le_self ..) (by omega)) | exact two_lt (by omega)) ?_
  refine SOps.bin rfl rfl rfl ?_
  refine SOps.nil ?_
  refine SCode.cond rfl (fun hc1 => ?_) (fun hc1 => ?_)
  · try simp only [nmL] at hc1
    refine SCode.region ?_
    refine SOps.move rfl ?_
    refine SOps.move rfl ?_
    refine SOps.litF rfl sliceB_43_3_1 zeroIs_3 rfl ?_
    refine SOps.appendAcc [] [] sliceB_43_3_1 elemB_3_1_8 rfl rfl rfl SrcD.isl (by simp) (by first | (simp [lenB] <;> (first | omega | (simp only [lenB]; omega))) | (simp only [lenB]; (first | omega | (simp only [lenB]; omega)))) (by first | (simp <;> (first | omega | (simp only [lenB]; omega))) | (first | omega | (simp only [lenB]; omega))) (fun b0 => ?_)
    refine SOps.assign rfl ?_
    refine SOps.nil ?_
    show SCode _ _ _ _
    refine SCode.seq ?_
    refine SCode.seqR ?_
    refine SOps.move rfl ?_
    refine SOps.move rfl ?_
    refine SOps.lenM rfl sliceB_43_3_1 ?_
    refine SOps.bin rfl rfl rfl ?_
    refine SOps.move rfl ?_
    refine SOps.caseB 32 rfl (fun hb2 => ?_) (fun hb2 => ?_)
    · try simp only [nmL] at hb2
      refine SOps.skip rfl ?_
      refine SOps.skip rfl ?_
      refine SOps.pick rfl rfl ?_
      refine SOps.nil ?_
      refine SCode.cond rfl (fun _ => ?_) (fun h => by cases h)
      refine SCode.seqR ?_
      refine SOps.freezeAcc (t := 7) [] [] rfl rfl rfl ?_
      refine SOps.move rfl ?_
      refine SOps.assign rfl ?_
      refine SOps.nil ?_
      refine SCode.ret ?_
      have hfin : out ++ [i] = lens (admF a) p l := by rw [← hf, List.drop_eq_nil_of_le (show l.length ≤ i by omega), lensF_nil, if_pos (bit1i.1 hc1)]
      exact ⟨_, Res.one (.tmp rfl), by rw [← hfin]; exact congrArg (DV.isl false 1) (by rw [List.map_append]; rfl), rfl⟩
    · try simp only [nmL] at hb2
      refine SOps.move rfl ?_
      refine SOps.bin rfl rfl rfl ?_
      refine SOps.pick rfl rfl ?_
      refine SOps.nil ?_
      refine SCode.cond rfl (fun hc3 => ?_) (fun hc3 => ?_)
      · try simp only [nmL] at hc3
        refine SCode.seqR ?_
        refine SOps.freezeAcc (t := 7) [] [] rfl rfl rfl ?_
        refine SOps.move rfl ?_
        refine SOps.assign rfl ?_
        refine SOps.nil ?_
        refine SCode.ret ?_
        have hfin : out ++ [i] = lens (admF a) p l := by rcases hd : l.drop i with _ | ⟨c0, w0⟩; (rw [← hf, hd, lensF_nil, if_pos (bit1i.1 hc1)]); (rw [← hf, hd, lensF_cons, if_pos (bit1i.1 hc1), if_pos (show s = 0 by omega)]; simp)
        exact ⟨_, Res.one (.tmp rfl), by rw [← hfin]; exact congrArg (DV.isl false 1) (by rw [List.map_append]; rfl), rfl⟩
      · try simp only [nmL] at hc3
        refine SCode.skip ?_
        show SCode _ _ _ _
        refine SCode.region ?_
        have hi6 : i < l.length := by omega
        have hc6 := hlt _ (List.getElem_mem hi6)
        refine SOps.move rfl ?_
        refine SOps.move rfl ?_
        refine SOps.move rfl ?_
        refine SOps.move rfl ?_
        refine SOps.indexM (i) rfl rfl sliceB_43_3_1 (by first | omega | (simp only [lenB]; omega)) (by first | omega | (simp only [lenB]; omega)) ?_
        refine SOps.loadPin rfl flatB_3 ?_
        refine SOps.callFn (ds := [_, _]) rfl (pNext a p _ (l[i]) (by omega) (by omega) hc6) rfl ?_
        rintro _ _ ⟨rfl, rfl⟩
        refine SOps.assign rfl ?_
        refine SOps.nil ?_
        show SCode _ _ _ _
        refine SCode.region ?_
        refine SOps.move rfl ?_
        refine SOps.addI rfl rfl (by first | omega | (simp only [lenB]; omega)) (by first | omega | (simp only [lenB]; omega)) ?_
        refine SOps.assign rfl ?_
        refine SOps.nil ?_
        first
          | (have hi5 : i < l.length := (by omega); exact ⟨i + 1, stepN p (fun x => admF a x (l[i])) s, out ++ [i], b0, ⟨by omega, (by first | omega | (simp; omega)), stepN_lt _ (by omega), by rw [← hf, List.drop_eq_getElem_cons hi5, lensF_cons, if_pos (bit1i.1 hc1), if_neg (show ¬ s = 0 by omega)]; simp⟩, by omega, St.Le.of ⟨rfl, rfl, rfl, (by show some _ = some _; rw [List.map_append]; rfl), rfl, rfl, rfl, trivial⟩ rfl (by rw [List.map_append]; rfl)⟩)
          | (have hi5 : i < l.length := (by omega); exact ⟨i + 1, stepN p (fun x => admF a x (l[i])) s, out, k, ⟨by omega, (by first | omega | (simp; omega)), stepN_lt _ (by omega), by rw [← hf, List.drop_eq_getElem_cons hi5, lensF_cons, if_neg (fun h => hc1 (bit1i.2 h)), if_neg (show ¬ s = 0 by omega)]; simp⟩, by omega, St.Le.of ⟨rfl, rfl, rfl, (rfl), rfl, rfl, rfl, trivial⟩ rfl (by rfl)⟩)
  · try simp only [nmL] at hc1
    refine SCode.skip ?_
    show SCode _ _ _ _
    refine SCode.seq ?_
    refine SCode.seqR ?_
    refine SOps.move rfl ?_
    refine SOps.move rfl ?_
    refine SOps.lenM rfl sliceB_43_3_1 ?_
    refine SOps.bin rfl rfl rfl ?_
    refine SOps.move rfl ?_
    refine SOps.caseB 32 rfl (fun hb4 => ?_) (fun hb4 => ?_)
    · try simp only [nmL] at hb4
      refine SOps.skip rfl ?_
      refine SOps.skip rfl ?_
      refine SOps.pick rfl rfl ?_
      refine SOps.nil ?_
      refine SCode.cond rfl (fun _ => ?_) (fun h => by cases h)
      refine SCode.seqR ?_
      refine SOps.freezeAcc (t := 7) [] [] rfl rfl rfl ?_
      refine SOps.move rfl ?_
      refine SOps.assign rfl ?_
      refine SOps.nil ?_
      refine SCode.ret ?_
      have hfin : out = lens (admF a) p l := by rw [← hf, List.drop_eq_nil_of_le (show l.length ≤ i by omega), lensF_nil, if_neg (fun h => hc1 (bit1i.2 h))] <;> simp
      exact ⟨_, Res.one (.tmp rfl), by rw [← hfin], rfl⟩
    · try simp only [nmL] at hb4
      refine SOps.move rfl ?_
      refine SOps.bin rfl rfl rfl ?_
      refine SOps.pick rfl rfl ?_
      refine SOps.nil ?_
      refine SCode.cond rfl (fun hc5 => ?_) (fun hc5 => ?_)
      · try simp only [nmL] at hc5
        refine SCode.seqR ?_
        refine SOps.freezeAcc (t := 7) [] [] rfl rfl rfl ?_
        refine SOps.move rfl ?_
        refine SOps.assign rfl ?_
        refine SOps.nil ?_
        refine SCode.ret ?_
        have hfin : out = lens (admF a) p l := by rcases hd : l.drop i with _ | ⟨c0, w0⟩; (rw [← hf, hd, lensF_nil, if_neg (fun h => hc1 (bit1i.2 h))] <;> simp); (rw [← hf, hd, lensF_cons, if_neg (fun h => hc1 (bit1i.2 h)), if_pos (show s = 0 by omega)]; simp)
        exact ⟨_, Res.one (.tmp rfl), by rw [← hfin], rfl⟩
      · try simp only [nmL] at hc5
        refine SCode.skip ?_
        show SCode _ _ _ _
        refine SCode.region ?_
        have hi6 : i < l.length := by omega
        have hc6 := hlt _ (List.getElem_mem hi6)
        refine SOps.move rfl ?_
        refine SOps.move rfl ?_
        refine SOps.move rfl ?_
        refine SOps.move rfl ?_
        refine SOps.indexM (i) rfl rfl sliceB_43_3_1 (by first | omega | (simp only [lenB]; omega)) (by first | omega | (simp only [lenB]; omega)) ?_
        refine SOps.loadPin rfl flatB_3 ?_
        refine SOps.callFn (ds := [_, _]) rfl (pNext a p _ (l[i]) (by omega) (by omega) hc6) rfl ?_
        rintro _ _ ⟨rfl, rfl⟩
        refine SOps.assign rfl ?_
        refine SOps.nil ?_
        show SCode _ _ _ _
        refine SCode.region ?_
        refine SOps.move rfl ?_
        refine SOps.addI rfl rfl (by first | omega | (simp only [lenB]; omega)) (by first | omega | (simp only [lenB]; omega)) ?_
        refine SOps.assign rfl ?_
        refine SOps.nil ?_
        first
          | (have hi5 : i < l.length := (by omega); exact ⟨i + 1, stepN p (fun x => admF a x (l[i])) s, out ++ [i], b0, ⟨by omega, (by first | omega | (simp; omega)), stepN_lt _ (by omega), by rw [← hf, List.drop_eq_getElem_cons hi5, lensF_cons, if_pos (bit1i.1 hc1), if_neg (show ¬ s = 0 by omega)]; simp⟩, by omega, St.Le.of ⟨rfl, rfl, rfl, (by show some _ = some _; rw [List.map_append]; rfl), rfl, rfl, rfl, trivial⟩ rfl (by rw [List.map_append]; rfl)⟩)
          | (have hi5 : i < l.length := (by omega); exact ⟨i + 1, stepN p (fun x => admF a x (l[i])) s, out, k, ⟨by omega, (by first | omega | (simp; omega)), stepN_lt _ (by omega), by rw [← hf, List.drop_eq_getElem_cons hi5, lensF_cons, if_neg (fun h => hc1 (bit1i.2 h)), if_neg (show ¬ s = 0 by omega)]; simp⟩, by omega, St.Le.of ⟨rfl, rfl, rfl, (rfl), rfl, rfl, rfl, trivial⟩ rfl (by rfl)⟩)
theorem GCall.nilI {P : Program} {E : Env} {f : FuncId} {ds : List DV} {c : Bool} {sz : Nat} {es : List (List DV)} (h : GCall P E f ds [] (fun d H => d = (if c then .isl false sz es else .v (.slice none 0 0)) ∧ H = [])) : GCall P E f ds [] (fun d H => d = .isl false sz (if c then es else []) ∧ H = []) :=
  ⟨h.1, fun w F vs h1 h2 h3 h4 h5 h6 => (h.2 w F vs h1 h2 h3 h4 h5 h6).mono (fun e w' ⟨u, d, H', F', k1, ⟨k2, k3⟩, k4, k5, k6, k7⟩ => by
    subst k3
    refine ⟨u, .isl false sz (if c then es else []), [], F', k1, ⟨rfl, rfl⟩, k4, k5, ?_, k7⟩
    rw [k2] at k6
    cases c with
    | true => exact k6
    | false => exact nil_isl k6)⟩
theorem idxs_lt {a : List Letter} {s : ByteArray} (h : overA a s = true) : ∀ c ∈ idxs a s, c < a.length := by
  intro c hc
  obtain ⟨r, hr, rfl⟩ := List.mem_map.1 hc
  simp only [overA, Bool.and_eq_true, List.all_eq_true] at h
  obtain ⟨k, hk⟩ := Option.isSome_iff_exists.1 (h.2 r hr)
  rw [hk]
  exact idx_lt hk
theorem idxs_len (a : List Letter) (s : ByteArray) : (idxs a s).length ≤ s.size := by
  have := runes_len s
  simpa [idxs] using this
theorem lens_last {β : Type} (f : Item → β → Bool) (p : List Item) (w : List β) : lens f p w = ((List.range w.length).filter (fun n => M f p (w.take n))) ++ if M f p w then [w.length] else [] := by
  rw [lens_eq, List.range_succ, List.filter_append, List.filter_cons, List.filter_nil, List.take_of_length_le (Nat.le_refl _)]
theorem lens_lt {β : Type} (f : Item → β → Bool) (p : List Item) (w : List β) {n : Nat} (h : n ∈ (List.range w.length).filter (fun n => M f p (w.take n))) : n < w.length := List.mem_range.1 (List.mem_filter.1 h).1
theorem lens_iff {β : Type} (f : Item → β → Bool) (p : List Item) (w : List β) (h : 0 < (lens f p w).length) : (lens f p w)[(lens f p w).length - 1]'(by omega) = w.length ↔ M f p w = true := by
  rcases hm : M f p w with _ | _
  · have e := lens_last f p w
    rw [hm] at e
    simp only [Bool.false_eq_true, if_false, List.append_nil] at e
    have := lens_lt f p w (n := (lens f p w)[(lens f p w).length - 1]'(by omega)) (by rw [← e]; exact List.getElem_mem _)
    constructor
    · intro h2; omega
    · intro h2; cases h2
  · have e := lens_last f p w
    rw [hm] at e
    simp only [if_true] at e
    simp [e]
theorem lens_pos {β : Type} (f : Item → β → Bool) (p : List Item) (w : List β) (h : M f p w = true) : 0 < (lens f p w).length := by
  rw [lens_last, h]; simp
def matchesP (a : List Letter) (p : List Item) (s : ByteArray) : Bool := validPat a p && overA a s && M (admF a) p (idxs a s)
def prefixesP (a : List Letter) (p : List Item) (s : ByteArray) : List Nat := if validPat a p && overA a s then lens (admF a) p (idxs a s) else []
theorem validPat_len {a : List Letter} {p : List Item} (h : validPat a p = true) : a.length ≤ 65 ∧ p.length ≤ 3 := by
  simp only [validPat, Bool.and_eq_true, decide_eq_true_eq] at h; omega
theorem pMatches (hV : VS E) (a : List Letter) (p : List Item) (s : ByteArray) (hp : ∀ x ∈ p, x.lets.size ≤ 1048576) (hs : s.size ≤ 1048576) : GCall Tryd.prog E 100 [DLs a, DIts p, .v (.string s)] [] (fun d H => d = .v (.bool (matchesP a p s)) ∧ H = []) := by
  refine GCall.body (C := ⟨Tryd.prog, E, true⟩) Tryd.func100 rfl (fun _ => rfl) (by kernel_rfl) rfl ?_
  refine SCode.seqR ?_
  refine SOps.assign rfl ?_
  refine SOps.nil ?_
  refine SCode.seqR ?_
  refine SOps.move rfl ?_
  refine SOps.move rfl ?_
  refine SOps.move rfl ?_
  refine SOps.callP (pRead hV a p s hp hs) rfl ?_
  rintro _ rfl
  rcases hva : (validPat a p && overA a s) with _ | _
  · show SOps _ _ _ ⟨_, (14, .tup [.v (.slice none 0 0), .v (.bool false)]) :: _, _⟩ _
    refine SOps.move rfl ?_
    refine SOps.extract rfl rfl ?_
    refine SOps.extract rfl rfl ?_
    refine SOps.assign rfl ?_
    refine SOps.assign rfl ?_
    refine SOps.nil ?_
    refine SCode.seq ?_
    refine SCode.seqR ?_
    refine SOps.move rfl ?_
    refine SOps.un rfl rfl ?_
    refine SOps.nil ?_
    refine SCode.cond rfl (fun _ => ?_) (fun h => by cases h)
    refine SCode.seqR ?_
    refine SOps.assign rfl ?_
    refine SOps.nil ?_
    refine SCode.ret ?_
    exact ⟨_, Res.one (.tmp rfl), congrArg (fun b => DV.v (.bool b)) (by rw [matchesP, hva]; rfl), rfl⟩
  · have hva2 := (Bool.and_eq_true _ _).mp hva
    have hvl := validPat_len hva2.1
    have hil := idxs_len a s
    have hlt := idxs_lt hva2.2
    show SOps _ _ _ ⟨_, (14, .tup [DNats (idxs a s), .v (.bool true)]) :: _, _⟩ _
    refine SOps.move rfl ?_
    refine SOps.extract rfl rfl ?_
    refine SOps.extract rfl rfl ?_
    refine SOps.assign rfl ?_
    refine SOps.assign rfl ?_
    refine SOps.nil ?_
    refine SCode.seq ?_
    refine SCode.seqR ?_
    refine SOps.move rfl ?_
    refine SOps.un rfl rfl ?_
    refine SOps.nil ?_
    refine SCode.cond rfl (fun h => by cases h) (fun _ => ?_)
    refine SCode.skip ?_
    show SCode _ _ _ _
    refine SCode.seqR ?_
    refine SOps.move rfl ?_
    refine SOps.move rfl ?_
    refine SOps.move rfl ?_
    refine SOps.callP (pLengths _ _ _ (by omega) (by omega) (by omega) (by assumption)) rfl ?_
    rintro _ rfl
    refine SOps.assign rfl ?_
    refine SOps.nil ?_
    refine SCode.seqR ?_
    refine SOps.fact (isl_len (t := 9) rfl) (fun hB => ?_)
    simp only [List.length_map, lenB] at hB
    refine SOps.move rfl ?_
    refine SOps.lenM rfl sliceB_43_3_1 ?_
    refine SOps.bin rfl rfl rfl ?_
    refine SOps.move rfl ?_
    refine SOps.caseB 26 rfl (fun hb1 => ?_) (fun hb1 => ?_)
    · try simp only [nmL] at hb1
      refine SOps.move rfl ?_
      refine SOps.move rfl ?_
      refine SOps.lenM rfl sliceB_43_3_1 ?_
      refine SOps.subI rfl rfl (by first | omega | (simp only [lenB]; omega)) (by first | omega | (simp only [lenB]; omega)) ?_
      refine SOps.indexM ((lens (admF a) p (idxs a s)).length - 1) rfl rfl sliceB_43_3_1 (by first | omega | (simp only [lenB]; omega)) (by first | omega | (simp only [lenB]; omega)) ?_
      refine SOps.loadPin rfl flatB_3 ?_
      refine SOps.move rfl ?_
      refine SOps.lenM rfl sliceB_43_3_1 ?_
      refine SOps.bin rfl rfl rfl ?_
      refine SOps.pick rfl rfl ?_
      refine SOps.assign rfl ?_
      refine SOps.nil ?_
      refine SCode.ret ?_
      exact ⟨_, Res.one (.tmp rfl), congrArg (fun b => DV.v (.bool b)) (by rw [matchesP, hva, Bool.true_and, Bool.eq_iff_iff, beq_iff_eq, ← lens_iff (admF a) p _ (by omega)]; exact Int.ofNat_inj), rfl⟩
    · try simp only [nmL] at hb1
      refine SOps.skip rfl ?_
      refine SOps.skip rfl ?_
      refine SOps.skip rfl ?_
      refine SOps.skip rfl ?_
      refine SOps.skip rfl ?_
      refine SOps.skip rfl ?_
      refine SOps.skip rfl ?_
      refine SOps.skip rfl ?_
      refine SOps.skip rfl ?_
      refine SOps.pick rfl rfl ?_
      refine SOps.assign rfl ?_
      refine SOps.nil ?_
      refine SCode.ret ?_
      exact ⟨_, Res.one (.tmp rfl), congrArg (fun b => DV.v (.bool b)) (by rw [matchesP, hva, Bool.true_and]; exact (Bool.eq_false_iff.2 (fun h => by have := lens_pos _ _ _ h; omega)).symm), rfl⟩
theorem pPrefixes0 (hV : VS E) (a : List Letter) (p : List Item) (s : ByteArray) (hp : ∀ x ∈ p, x.lets.size ≤ 1048576) (hs : s.size ≤ 1048576) : GCall Tryd.prog E 102 [DLs a, DIts p, .v (.string s)] [] (fun d H => d = (if (validPat a p && overA a s) then DNats (lens (admF a) p (idxs a s)) else .v (.slice none 0 0)) ∧ H = []) := by
  refine GCall.body (C := ⟨Tryd.prog, E, true⟩) Tryd.func102 rfl (fun _ => rfl) (by kernel_rfl) rfl ?_
  refine SCode.seqR ?_
  refine SOps.assign rfl ?_
  refine SOps.nil ?_
  refine SCode.seqR ?_
  refine SOps.move rfl ?_
  refine SOps.move rfl ?_
  refine SOps.move rfl ?_
  refine SOps.callP (pRead hV a p s hp hs) rfl ?_
  rintro _ rfl
  rcases hva : (validPat a p && overA a s) with _ | _
  · show SOps _ _ _ ⟨_, (13, .tup [.v (.slice none 0 0), .v (.bool false)]) :: _, _⟩ _
    refine SOps.move rfl ?_
    refine SOps.extract rfl rfl ?_
    refine SOps.extract rfl rfl ?_
    refine SOps.assign rfl ?_
    refine SOps.assign rfl ?_
    refine SOps.nil ?_
    refine SCode.seq ?_
    refine SCode.seqR ?_
    refine SOps.move rfl ?_
    refine SOps.un rfl rfl ?_
    refine SOps.nil ?_
    refine SCode.cond rfl (fun _ => ?_) (fun h => by cases h)
    refine SCode.seqR ?_
    refine SOps.assign rfl ?_
    refine SOps.nil ?_
    refine SCode.ret ?_
    exact ⟨_, Res.one (.tmp rfl), by first | rfl | (rw [hva]; rfl), rfl⟩
  · have hva2 := (Bool.and_eq_true _ _).mp hva
    have hvl := validPat_len hva2.1
    have hil := idxs_len a s
    have hlt := idxs_lt hva2.2
    show SOps _ _ _ ⟨_, (13, .tup [DNats (idxs a s), .v (.bool true)]) :: _, _⟩ _
    refine SOps.move rfl ?_
    refine SOps.extract rfl rfl ?_
    refine SOps.extract rfl rfl ?_
    refine SOps.assign rfl ?_
    refine SOps.assign rfl ?_
    refine SOps.nil ?_
    refine SCode.seq ?_
    refine SCode.seqR ?_
    refine SOps.move rfl ?_
    refine SOps.un rfl rfl ?_
    refine SOps.nil ?_
    refine SCode.cond rfl (fun h => by cases h) (fun _ => ?_)
    refine SCode.skip ?_
    show SCode _ _ _ _
    refine SCode.seqR ?_
    refine SOps.move rfl ?_
    refine SOps.move rfl ?_
    refine SOps.move rfl ?_
    refine SOps.callP (pLengths _ _ _ (by omega) (by omega) (by omega) (by assumption)) rfl ?_
    rintro _ rfl
    refine SOps.assign rfl ?_
    refine SOps.nil ?_
    refine SCode.ret ?_
    exact ⟨_, Res.one (.tmp rfl), by first | rfl | (rw [hva]; rfl), rfl⟩
theorem pPrefixes (hV : VS E) (a : List Letter) (p : List Item) (s : ByteArray) (hp : ∀ x ∈ p, x.lets.size ≤ 1048576) (hs : s.size ≤ 1048576) : GCall Tryd.prog E 102 [DLs a, DIts p, .v (.string s)] [] (fun d H => d = DNats (prefixesP a p s) ∧ H = []) :=
  (pPrefixes0 hV a p s hp hs).nilI.mono (fun d H h => ⟨h.1.trans (by unfold prefixesP; split <;> rfl), h.2⟩)
theorem pOverO (hV : VS E) (a : List Letter) (s : ByteArray) (hs : s.size ≤ 1048576) : GCall Tryd.prog E 81 [DMap a, .v (.string s)] [] (fun d H => (overA a s = true → ∃ c, d = .tup [accD 1 c ((idxs a s).map encN), .v (.bool true)] ∧ H = accH 3 1 c ((idxs a s).map encN)) ∧ (overA a s = false → d = .tup [.v (.slice none 0 0), .v (.bool false)] ∧ H = [])) := by
  refine GCall.body (C := ⟨Tryd.prog, E, true⟩) Tryd.func81 rfl (fun _ => rfl) (by kernel_rfl) rfl ?_
  refine SCode.seqR ?_
  refine SOps.assign rfl ?_
  refine SOps.assign rfl ?_
  refine SOps.nil ?_
  refine SCode.seq ?_
  refine SCode.seqR ?_
  refine SOps.move rfl ?_
  refine SOps.callP (hV _) rfl ?_
  rintro _ rfl
  refine SOps.un rfl rfl ?_
  refine SOps.nil ?_
  refine SCode.cond rfl (fun hc1 => ?_) (fun hc1 => ?_)
  · try simp only [nmL] at hc1
    refine SCode.seqR ?_
    refine SOps.assign rfl ?_
    refine SOps.assign rfl ?_
    refine SOps.nil ?_
    refine SCode.ret ?_
    have hov : overA a s = false := Bool.eq_false_iff.2 (fun h => by simp only [overA, Bool.and_eq_true] at h; rw [h.1] at hc1; cases hc1)
    exact ⟨_, Res.two (.tmp rfl) (.tmp rfl), (fun h => by rw [hov] at h; cases h), fun _ => ⟨rfl, rfl⟩⟩
  · try simp only [nmL] at hc1
    refine SCode.skip ?_
    show SCode _ _ _ _
    refine SCode.seqR ?_
    refine SOps.assign rfl ?_
    refine SOps.nil ?_
    refine SCode.seq ?_
    refine SCode.seqR ?_
    refine SOps.move rfl ?_
    refine SOps.rangeStr rfl strB_9 (fun b0 hb_0 => ?_)
    refine SOps.nil ?_
    refine SCode.block ?_
    refine SCode.loop4 (fun (p : Nat) (b : Nat) (l : List Nat) (c : Nat) => (⟨32, [(0, DMap a), (6, accD 1 c (l.map encN)), (15, .it b)], [(b, .iter s p)] ++ (accH 3 1 c (l.map encN) ++ [])⟩ : St)) (fun (p : Nat) (b : Nat) (l : List Nat) (c : Nat) => l.length ≤ p ∧ (runesAt s p).all (fun r => (idx a r).isSome) = (runes s).all (fun r => (idx a r).isSome) ∧ l ++ (runesAt s p).map (fun r => (idx a r).getD 0) = idxs a s) (fun (p : Nat) (b : Nat) (l : List Nat) (c : Nat) => s.size - p) (0) (b0) ([]) (0) (by exact ⟨Nat.le_refl _, rfl, rfl⟩) (St.Le.of ⟨(by first | rfl | (show some _ = some _; simp)), (by first | rfl | (show some _ = some _; simp)), (by first | rfl | (show some _ = some _; simp)), trivial⟩ rfl (by first | rfl | (simp))) ?_
    rintro p b l c ⟨hln, ho, hl⟩
    refine SCode.seqR ?_
    refine SOps.next 0 rfl rfl (fun hn2 => ?_) (fun hn2 => ?_) (by first | omega | (simp only [lenB]; omega))
    · refine SOps.extract rfl rfl ?_
      refine SOps.nil ?_
      refine SCode.seq ?_
      refine SCode.cond rfl (fun _ => ?_) (fun h => by cases h)
      refine SCode.skip ?_
      show SCode _ _ _ _
      refine SCode.block ?_
      refine SCode.seqR ?_
      refine SOps.extract rfl rfl ?_
      refine SOps.assign rfl ?_
      refine SOps.nil ?_
      refine SCode.seqR ?_
      refine SOps.move rfl ?_
      refine SOps.move rfl ?_
      refine SOps.lookupIM (idx a ((Utf8.decode s p).1 : Int)) (fun i => DV.v (.int .i64 ((i : Nat) : Int))) rfl rfl mapB_89 (keys_enc _) zeroIs_3 (lookup_mapOf _ _) (fun y3 hy3 => ?_) (fun hy3 => ?_)
      · refine SOps.move rfl ?_
        refine SOps.extract rfl rfl ?_
        refine SOps.extract rfl rfl ?_
        refine SOps.assign rfl ?_
        refine SOps.assign rfl ?_
        refine SOps.nil ?_
        refine SCode.seq ?_
        refine SCode.seqR ?_
        refine SOps.move rfl ?_
        refine SOps.un rfl rfl ?_
        refine SOps.nil ?_
        refine SCode.cond rfl (fun h => by cases h) (fun _ => ?_)
        refine SCode.skip ?_
        show SCode _ _ _ _
        refine SCode.region ?_
        refine SOps.move rfl ?_
        refine SOps.move rfl ?_
        refine SOps.litF rfl sliceB_43_3_1 zeroIs_3 rfl ?_
        refine SOps.appendAcc [_] [] sliceB_43_3_1 elemB_3_1_8 rfl rfl rfl SrcD.isl (by simp) (by first | (simp [lenB] <;> (first | omega | (simp only [lenB]; omega))) | (simp only [lenB]; (first | omega | (simp only [lenB]; omega)))) (by first | (simp <;> (first | omega | (simp only [lenB]; omega))) | (first | omega | (simp only [lenB]; omega))) (fun b1 => ?_)
        refine SOps.assign rfl ?_
        refine SOps.nil ?_
        exact ⟨p + (Utf8.decode s p).2, b, l ++ [y3], b1, ⟨by have := decode_w s p; simp; omega, by rw [← ho, runes_step hn2, hy3]; rfl, by rw [← hl, runesAt_lt hn2]; simp [hy3]⟩, by have := decode_w s p; omega, St.Le.of ⟨rfl, (by show some _ = some _; rw [List.map_append]; rfl), rfl, trivial⟩ rfl (by rw [List.map_append]; rfl)⟩
      · refine SOps.move rfl ?_
        refine SOps.extract rfl rfl ?_
        refine SOps.extract rfl rfl ?_
        refine SOps.assign rfl ?_
        refine SOps.assign rfl ?_
        refine SOps.nil ?_
        refine SCode.seq ?_
        refine SCode.seqR ?_
        refine SOps.move rfl ?_
        refine SOps.un rfl rfl ?_
        refine SOps.nil ?_
        refine SCode.cond rfl (fun _ => ?_) (fun h => by cases h)
        refine SCode.seqR ?_
        refine SOps.assign rfl ?_
        refine SOps.assign rfl ?_
        refine SOps.nil ?_
        refine SCode.drop ?_
        refine SCode.ret ?_
        have hov : overA a s = false := Bool.eq_false_iff.2 (fun h => by simp only [overA, Bool.and_eq_true] at h; rw [← ho, runes_step hn2, hy3] at h; simp at h)
        exact ⟨_, Res.two (.tmp rfl) (.tmp rfl), (fun h => by rw [hov] at h; cases h), fun _ => ⟨rfl, rfl⟩⟩
    · refine SOps.extract rfl rfl ?_
      refine SOps.nil ?_
      refine SCode.seq ?_
      refine SCode.cond rfl (fun h => by cases h) (fun _ => ?_)
      refine SCode.exit ?_
      show SCode _ _ _ _
      refine SCode.seqR ?_
      refine SOps.move rfl ?_
      refine SOps.assign rfl ?_
      refine SOps.assign rfl ?_
      refine SOps.nil ?_
      have hov : overA a s = true := by rw [overA, hc1, ← ho, runesAt_ge hn2]; rfl
      obtain rfl : l = idxs a s := by rw [← hl, runesAt_ge hn2]; simp
      refine SCode.weaken (st' := (⟨32, [(4, accD 1 c ((idxs a s).map encN)), (5, .v (.bool true))], accH 3 1 c ((idxs a s).map encN)⟩ : St)) (St.Le.ofSub ⟨rfl, rfl, trivial⟩ (.cons _ (by rw [List.append_nil]; exact .refl _))) (SCode.ret ⟨_, Res.two (.tmp rfl) (.tmp rfl), (fun _ => ⟨c, rfl, rfl⟩), fun h => by rw [hov] at h; cases h⟩)
theorem pReadO (hV : VS E) (a : List Letter) (p : List Item) (s : ByteArray) (hp : ∀ x ∈ p, x.lets.size ≤ 1048576) (hs : s.size ≤ 1048576) : GCall Tryd.prog E 103 [DLs a, DIts p, .v (.string s)] [] (fun d H => ((validPat a p && overA a s) = true → ∃ c, d = .tup [accD 1 c ((idxs a s).map encN), .v (.bool true)] ∧ H = accH 3 1 c ((idxs a s).map encN)) ∧ ((validPat a p && overA a s) = false → d = .tup [.v (.slice none 0 0), .v (.bool false)] ∧ H = [])) := by
  refine GCall.body (C := ⟨Tryd.prog, E, true⟩) Tryd.func103 rfl (fun _ => rfl) (by kernel_rfl) rfl ?_
  refine SCode.seqR ?_
  refine SOps.assign rfl ?_
  refine SOps.assign rfl ?_
  refine SOps.nil ?_
  refine SCode.seq ?_
  refine SCode.seqR ?_
  refine SOps.move rfl ?_
  refine SOps.move rfl ?_
  refine SOps.callP (pValid hV _ _ (by assumption)) rfl ?_
  rintro _ rfl
  refine SOps.un rfl rfl ?_
  refine SOps.nil ?_
  refine SCode.cond rfl (fun hc1 => ?_) (fun hc1 => ?_)
  · try simp only [nmL] at hc1
    have hvp : validPat a p = false := hc1
    refine SCode.seqR ?_
    refine SOps.assign rfl ?_
    refine SOps.assign rfl ?_
    refine SOps.nil ?_
    refine SCode.ret ?_
    exact ⟨_, Res.two (.tmp rfl) (.tmp rfl), (fun h => by simp_all), fun _ => ⟨rfl, rfl⟩⟩
  · try simp only [nmL] at hc1
    have hvp : validPat a p = true := hc1
    have hpr : properB a = true := by simp only [validPat, Bool.and_eq_true] at hvp; exact hvp.1.1.1
    refine SCode.skip ?_
    show SCode _ _ _ _
    refine SCode.seqR ?_
    refine SOps.move rfl ?_
    refine SOps.callP (pProper _) rfl ?_
    rintro _ rfl; rw [if_pos hpr]
    refine SOps.move rfl ?_
    refine SOps.extract rfl rfl ?_
    refine SOps.extract rfl rfl ?_
    refine SOps.assign rfl ?_
    refine SOps.assign rfl ?_
    refine SOps.nil ?_
    refine SCode.seqR ?_
    refine SOps.move rfl ?_
    refine SOps.move rfl ?_
    rcases hov : overA a s with _ | _
    · refine SOps.callH [] [] [] (pOverO hV a s hs) rfl rfl (fun d H hR => ?_)
      obtain ⟨rfl, rfl⟩ := hR.2 hov
      refine SOps.extract rfl rfl ?_
      refine SOps.extract rfl rfl ?_
      refine SOps.assign rfl ?_
      refine SOps.assign rfl ?_
      refine SOps.nil ?_
      refine SCode.ret ?_
      exact ⟨_, Res.two (.tmp rfl) (.tmp rfl), (fun h => by simp_all), fun _ => ⟨rfl, rfl⟩⟩
    · refine SOps.callH [] [] [] (pOverO hV a s hs) rfl rfl (fun d H hR => ?_)
      obtain ⟨c, rfl, rfl⟩ := hR.1 hov
      refine SOps.extract rfl rfl ?_
      refine SOps.extract rfl rfl ?_
      refine SOps.assign rfl ?_
      refine SOps.assign rfl ?_
      refine SOps.nil ?_
      refine SCode.weaken (st' := (⟨24, [(6, accD 1 c ((idxs a s).map encN)), (7, .v (.bool true))], accH 3 1 c ((idxs a s).map encN)⟩ : St)) (St.Le.ofSub ⟨rfl, rfl, trivial⟩ (show List.Sublist (accH 3 1 c _) (accH 3 1 c _ ++ []) from by rw [List.append_nil]; exact .refl _)) (SCode.ret ⟨_, Res.two (.tmp rfl) (.tmp rfl), (fun _ => ⟨c, rfl, rfl⟩), fun h => by simp_all⟩)
theorem sClone0 (p : List Item) (hp0 : p = []) (hpl : p.length ≤ 1048576) : GCall Tryd.prog E 105 [DIts p] [] (fun d H => d = .isl false 4 [] ∧ H = []) := by
  refine GCall.body (C := ⟨Tryd.prog, E, true⟩) Tryd.func105 rfl (fun _ => rfl) (by kernel_rfl) rfl ?_
  refine SCode.seqR ?_
  refine SOps.assign rfl ?_
  refine SOps.nil ?_
  refine SCode.seq ?_
  refine SCode.seqR ?_
  refine SOps.move rfl ?_
  refine SOps.eqNilS Tryd.underlying45 rfl rfl (fun c0 hz0 => ?_)
  refine SOps.nil ?_
  refine SCode.cond rfl (fun hc1 => ?_) (fun hc1 => ?_)
  · try simp only [nmL] at hc1
    refine SCode.seqR ?_
    refine SOps.assign rfl ?_
    refine SOps.nil ?_
    refine SCode.nilIsl (t := 2) (sz := 4) rfl ?_
    refine SCode.ret ?_
    exact ⟨_, Res.one (.tmp rfl), rfl, rfl⟩
  · try simp only [nmL] at hc1
    refine SCode.skip ?_
    show SCode _ _ _ _
    refine SCode.seqR ?_
    refine SOps.litO sliceB_45_87_4 zeroIs_87 rfl (fun b1 hb_1 => ?_)
    refine SOps.move rfl ?_
    refine SOps.appendOwnE 0 sliceB_45_87_4 elemB_87_4_32 rfl rfl rfl (by simp) SrcD.isl (by simp [lenB]; omega) (by simp; omega) (fun bC => ?_)
    refine SOps.assign rfl ?_
    refine SOps.nil ?_
    refine SCode.slIsl (t := 2) rfl (by rw [hp0]; rfl) ?_
    refine SCode.drop ?_
    refine SCode.ret ?_
    exact ⟨_, Res.one (.tmp rfl), rfl, rfl⟩
theorem sCloneC (p : List Item) (hp0 : p ≠ []) (hpl : p.length ≤ 1048576) : GCall Tryd.prog E 105 [DIts p] [] (fun d H => ∃ b, d = .sl b 4 0 p.length ∧ H = [(b, .row 87 4 (p.map encIt))]) := by
  refine GCall.body (C := ⟨Tryd.prog, E, true⟩) Tryd.func105 rfl (fun _ => rfl) (by kernel_rfl) rfl ?_
  refine SCode.seqR ?_
  refine SOps.assign rfl ?_
  refine SOps.nil ?_
  refine SCode.seq ?_
  refine SCode.seqR ?_
  refine SOps.move rfl ?_
  refine SOps.eqNilS Tryd.underlying45 rfl rfl (fun c0 hz0 => ?_)
  refine SOps.nil ?_
  refine SCode.cond rfl (fun hc1 => ?_) (fun hc1 => ?_)
  · try simp only [nmL] at hc1
    exact absurd (List.map_eq_nil_iff.1 (hz0 hc1)) hp0
  · try simp only [nmL] at hc1
    refine SCode.skip ?_
    show SCode _ _ _ _
    refine SCode.seqR ?_
    refine SOps.litO sliceB_45_87_4 zeroIs_87 rfl (fun b1 hb_1 => ?_)
    refine SOps.move rfl ?_
    refine SOps.appendOwnE 0 sliceB_45_87_4 elemB_87_4_32 rfl rfl rfl (by simp) SrcD.isl (by simp [lenB]; omega) (by simp; omega) (fun bC => ?_)
    refine SOps.assign rfl ?_
    refine SOps.nil ?_
    refine SCode.ret ?_
    exact ⟨_, Res.one (.tmp rfl), bC, by simp, rfl⟩
theorem rev_step {α : Type} {xs ys : List α} {i : Nat} (hi : i < xs.length - 1 - i) (hl : ys.length = xs.length)
    (hf : ∀ (k : Nat) (h : k < xs.length), ys[k]? = some (if k < i ∨ xs.length - 1 - k < i then xs[xs.length - 1 - k]'(by omega) else xs[k])) :
    ∀ (k : Nat) (h : k < xs.length), ((ys.set i (ys[xs.length - 1 - i]'(by omega))).set (xs.length - 1 - i) (ys[i]'(by omega)))[k]? = some (if k < i + 1 ∨ xs.length - 1 - k < i + 1 then xs[xs.length - 1 - k]'(by omega) else xs[k]) := by
  intro k hk
  have ej : ys[xs.length - 1 - i]'(by omega) = xs[xs.length - 1 - i]'(by omega) := by
    have := hf (xs.length - 1 - i) (by omega)
    rw [if_neg (by omega), List.getElem?_eq_getElem (by omega)] at this
    exact Option.some.inj this
  have ei : ys[i]'(by omega) = xs[i]'(by omega) := by
    have := hf i (by omega)
    rw [if_neg (by omega), List.getElem?_eq_getElem (by omega)] at this
    exact Option.some.inj this
  rw [ej, ei, List.getElem?_set, List.getElem?_set]
  by_cases h1 : xs.length - 1 - i = k
  · subst h1
    rw [if_pos rfl, if_pos (by simp; omega), if_pos (by omega)]
    congr 2
    omega
  · rw [if_neg h1]
    by_cases h2 : i = k
    · subst h2
      rw [if_pos rfl, if_pos (by omega), if_pos (by omega)]
    · rw [if_neg h2, hf k hk]
      congr 1
      by_cases h3 : k < i ∨ xs.length - 1 - k < i
      · rw [if_pos h3, if_pos (by omega)]
      · rw [if_neg h3, if_neg (by omega)]
theorem rev_end {α : Type} {xs ys : List α} {i : Nat} (hi : xs.length ≤ 2 * i + 1) (hi2 : 2 * i ≤ xs.length + 1) (hl : ys.length = xs.length)
    (hf : ∀ (k : Nat) (h : k < xs.length), ys[k]? = some (if k < i ∨ xs.length - 1 - k < i then xs[xs.length - 1 - k]'(by omega) else xs[k])) : ys = xs.reverse := by
  apply List.ext_getElem?
  intro k
  by_cases hk : k < xs.length
  · rw [hf k hk, List.getElem?_reverse hk, List.getElem?_eq_getElem (by omega)]
    by_cases h : k < i ∨ xs.length - 1 - k < i
    · rw [if_pos h]
    · rw [if_neg h]
      congr 2
      omega
  · rw [List.getElem?_eq_none (by omega), List.getElem?_eq_none (by simp; omega)]
theorem sRevNC (xs : List Nat) (bk : Nat) (hx : xs.length ≤ 1048576) : GCall Tryd.prog E 107 [.sl bk 1 0 xs.length] [(bk, .row 3 1 (xs.map encN))] (fun d H => d = .v (.tuple #[]) ∧ H = [(bk, .row 3 1 (xs.reverse.map encN))]) := by
  refine GCall.body (C := ⟨Tryd.prog, E, false⟩) Tryd.func107 rfl (fun h => by cases h) (by kernel_rfl) rfl ?_
  refine SCode.seqR ?_
  refine SOps.move rfl ?_
  refine SOps.lenSl rfl sliceB_43_3_1 ?_
  refine SOps.subI rfl rfl (by first | omega | (simp only [lenB]; omega)) (by first | omega | (simp only [lenB]; omega)) ?_
  refine SOps.assign rfl ?_
  refine SOps.assign rfl ?_
  refine SOps.nil ?_
  refine SCode.block ?_
  refine SCode.loop2 (fun (i : Nat) (ys : List Nat) => (⟨28, [(0, .sl bk 1 0 xs.length), (2, .v (.int .i64 (i : Int))), (3, .v (.int .i64 ((xs.length : Int) - 1 - (i : Int))))], [(bk, .row 3 1 (ys.map encN))]⟩ : St)) (fun (i : Nat) (ys : List Nat) => 2 * i ≤ xs.length + 1 ∧ ys.length = xs.length ∧ ∀ (k : Nat) (h : k < xs.length), ys[k]? = some (if k < i ∨ xs.length - 1 - k < i then xs[xs.length - 1 - k]'(by omega) else xs[k])) (fun (i : Nat) (ys : List Nat) => xs.length - i) (0) (xs) (by exact ⟨by omega, rfl, fun k h => by rw [if_neg (by omega)]; exact List.getElem?_eq_getElem h⟩) (St.Le.of ⟨(by first | rfl | (show some _ = some _; simp)), (by first | rfl | (show some _ = some _; simp)), (by first | rfl | (show some _ = some _; simp)), trivial⟩ rfl (by first | rfl | (simp))) ?_
  rintro i ys ⟨hi, hyl, hf⟩
  refine SCode.seq ?_
  refine SCode.seqR ?_
  refine SOps.move rfl ?_
  refine SOps.move rfl ?_
  refine SOps.bin rfl rfl rfl ?_
  refine SOps.nil ?_
  refine SCode.cond rfl (fun hc1 => ?_) (fun hc1 => ?_)
  · try simp only [nmL] at hc1
    refine SCode.skip ?_
    show SCode _ _ _ _
    refine SCode.seq ?_
    refine SCode.block ?_
    have hi3 : i < xs.length - 1 - i := by omega
    have hjl : xs.length - 1 - i < ys.length := by omega
    have hil : i < ys.length := by omega
    refine SCode.weaken (st' := (⟨28, [(0, .sl bk 1 0 xs.length), (2, .v (.int .i64 (i : Int))), (3, .v (.int .i64 ((xs.length : Int) - 1 - (i : Int))))], [(bk, .row 3 1 (ys.map encN))]⟩ : St)) (St.Le.of ⟨rfl, rfl, rfl, trivial⟩) ?_
    refine SCode.drawMix 17 [12, 13, 14, 15] mixed_ [fun b => some (14, .sl bk 1 0 xs.length), fun b => some (15, .v (.int .i64 (i : Int))), fun b => some (16, .sl bk 1 0 xs.length), fun b => some (17, .v (.int .i64 ((xs.length : Int) - 1 - (i : Int)))), fun b => some (18, .sl bk 1 0 xs.length), fun b => some (19, .v (.int .i64 ((xs.length : Int) - 1 - (i : Int)))), fun b => some (20, .ref bk ((0 + (xs.length - 1 - i)) * 1)), fun b => some (21, .v (.int .i64 (((ys[xs.length - 1 - i]) : Nat) : Int))), fun b => some (22, .sl bk 1 0 xs.length), fun b => some (23, .v (.int .i64 (i : Int))), fun b => some (24, .ref bk ((0 + i) * 1)), fun b => some (25, .v (.int .i64 (((ys[i]) : Nat) : Int))), fun b => some (26, .ref bk ((0 + i) * 1)), fun b => none, fun b => some (27, .ref bk ((0 + (xs.length - 1 - i)) * 1)), fun b => none] [some 14, some 15, some 16, some 17, some 18, some 19, some 20, some 21, some 22, some 23, some 24, some 25, some 26, none, some 27, none] [[.inr 0], [.inr 2], [.inr 0], [.inr 3], [.inr 0], [.inr 3], [.inl 4, .inl 5], [.inl 6], [.inr 0], [.inr 2], [.inl 8, .inl 9], [.inl 10], [.inl 0, .inl 1], [.inl 12, .inl 7], [.inl 2, .inl 3], [.inl 14, .inl 11]] [fun b => [(0, .sl bk 1 0 xs.length)], fun b => [(2, .v (.int .i64 (i : Int)))], fun b => [(0, .sl bk 1 0 xs.length)], fun b => [(3, .v (.int .i64 ((xs.length : Int) - 1 - (i : Int))))], fun b => [(0, .sl bk 1 0 xs.length)], fun b => [(3, .v (.int .i64 ((xs.length : Int) - 1 - (i : Int))))], fun b => [(18, .sl bk 1 0 xs.length), (19, .v (.int .i64 ((xs.length : Int) - 1 - (i : Int))))], fun b => [(20, .ref bk ((0 + (xs.length - 1 - i)) * 1))], fun b => [(0, .sl bk 1 0 xs.length)], fun b => [(2, .v (.int .i64 (i : Int)))], fun b => [(22, .sl bk 1 0 xs.length), (23, .v (.int .i64 (i : Int)))], fun b => [(24, .ref bk ((0 + i) * 1))], fun b => [(14, .sl bk 1 0 xs.length), (15, .v (.int .i64 (i : Int)))], fun b => [(26, .ref bk ((0 + i) * 1)), (21, .v (.int .i64 (((ys[xs.length - 1 - i]) : Nat) : Int)))], fun b => [(16, .sl bk 1 0 xs.length), (17, .v (.int .i64 ((xs.length : Int) - 1 - (i : Int))))], fun b => [(27, .ref bk ((0 + (xs.length - 1 - i)) * 1)), (25, .v (.int .i64 (((ys[i]) : Nat) : Int)))]] (fun b c => match c with | 0 => [(bk, .row 3 1 (ys.map encN))] | 1 => [(bk, .row 3 1 (ys.map encN))] | 2 => [(bk, .row 3 1 ((ys.set i (ys[xs.length - 1 - i])).map encN))] | 3 => [(bk, .row 3 1 ((ys.set i (ys[xs.length - 1 - i])).map encN))] | _ => [(bk, .row 3 1 (((ys.set i (ys[xs.length - 1 - i])).set (xs.length - 1 - i) (ys[i])).map encN))]) [(false, false, [0]), (false, false, [0]), (false, false, [0, 1, 2]), (false, false, [0, 1, 2]), (false, false, [0]), (false, false, [0]), (false, false, [0]), (false, false, [0]), (false, false, [0]), (false, false, [0]), (false, false, [0]), (false, false, [0]), (true, false, [0]), (true, false, [1]), (true, false, [2]), (true, false, [3])] (by kernel_rfl) (fun _ => rfl) rfl (fun _ => rfl) (fun _ => rfl) (cohNone rfl) ?_ ?_
    · refine MixOk.cons ?_ ?_
      · refine StgOk.cons (fun b rest => ?_) ?_
        · refine SOps.move rfl ?_
          exact SOps.nil ⟨b, fun _ => rfl, by first | rfl | simp_all⟩
        exact StgOk.nil
      refine MixOk.cons ?_ ?_
      · refine StgOk.cons (fun b rest => ?_) ?_
        · refine SOps.move rfl ?_
          exact SOps.nil ⟨b, fun _ => rfl, by first | rfl | simp_all⟩
        exact StgOk.nil
      refine MixOk.cons ?_ ?_
      · refine StgOk.cons (fun b rest => ?_) ?_
        · refine SOps.move rfl ?_
          exact SOps.nil ⟨b, fun _ => rfl, by first | rfl | simp_all⟩
        refine StgOk.cons (fun b rest => ?_) ?_
        · refine SOps.move rfl ?_
          exact SOps.nil ⟨b, fun _ => rfl, by first | rfl | simp_all⟩
        refine StgOk.cons (fun b rest => ?_) ?_
        · refine SOps.move rfl ?_
          exact SOps.nil ⟨b, fun _ => rfl, by first | rfl | simp_all⟩
        exact StgOk.nil
      refine MixOk.cons ?_ ?_
      · refine StgOk.cons (fun b rest => ?_) ?_
        · refine SOps.move rfl ?_
          exact SOps.nil ⟨b, fun _ => rfl, by first | rfl | simp_all⟩
        refine StgOk.cons (fun b rest => ?_) ?_
        · refine SOps.move rfl ?_
          exact SOps.nil ⟨b, fun _ => rfl, by first | rfl | simp_all⟩
        refine StgOk.cons (fun b rest => ?_) ?_
        · refine SOps.move rfl ?_
          exact SOps.nil ⟨b, fun _ => rfl, by first | rfl | simp_all⟩
        exact StgOk.nil
      refine MixOk.cons ?_ ?_
      · refine StgOk.cons (fun b rest => ?_) ?_
        · refine SOps.move rfl ?_
          exact SOps.nil ⟨b, fun _ => rfl, by first | rfl | simp_all⟩
        exact StgOk.nil
      refine MixOk.cons ?_ ?_
      · refine StgOk.cons (fun b rest => ?_) ?_
        · refine SOps.move rfl ?_
          exact SOps.nil ⟨b, fun _ => rfl, by first | rfl | simp_all⟩
        exact StgOk.nil
      refine MixOk.cons ?_ ?_
      · refine StgOk.cons (fun b rest => ?_) ?_
        · refine SOps.indexS ((xs.length - 1 - i)) rfl rfl sliceB_43_3_1 (by first | omega | (simp only [lenB]; omega)) (by first | omega | (simp only [lenB]; omega)) ?_
          exact SOps.nil ⟨b, fun _ => rfl, by first | rfl | simp_all⟩
        exact StgOk.nil
      refine MixOk.cons ?_ ?_
      · refine StgOk.cons (fun b rest => ?_) ?_
        · refine SOps.loadK 0 ((xs.length - 1 - i)) rfl flatB_3 rfl (by first | omega | (simp only [lenB]; omega)) (by first | omega | (simp; omega)) rfl ?_
          exact SOps.nil ⟨b, fun _ => rfl, by first | rfl | simp_all⟩
        exact StgOk.nil
      refine MixOk.cons ?_ ?_
      · refine StgOk.cons (fun b rest => ?_) ?_
        · refine SOps.move rfl ?_
          exact SOps.nil ⟨b, fun _ => rfl, by first | rfl | simp_all⟩
        exact StgOk.nil
      refine MixOk.cons ?_ ?_
      · refine StgOk.cons (fun b rest => ?_) ?_
        · refine SOps.move rfl ?_
          exact SOps.nil ⟨b, fun _ => rfl, by first | rfl | simp_all⟩
        exact StgOk.nil
      refine MixOk.cons ?_ ?_
      · refine StgOk.cons (fun b rest => ?_) ?_
        · refine SOps.indexS (i) rfl rfl sliceB_43_3_1 (by first | omega | (simp only [lenB]; omega)) (by first | omega | (simp only [lenB]; omega)) ?_
          exact SOps.nil ⟨b, fun _ => rfl, by first | rfl | simp_all⟩
        exact StgOk.nil
      refine MixOk.cons ?_ ?_
      · refine StgOk.cons (fun b rest => ?_) ?_
        · refine SOps.loadK 0 (i) rfl flatB_3 rfl (by first | omega | (simp only [lenB]; omega)) (by first | omega | (simp; omega)) rfl ?_
          exact SOps.nil ⟨b, fun _ => rfl, by first | rfl | simp_all⟩
        exact StgOk.nil
      refine MixOk.cons ?_ ?_
      · refine StgOk.cons (fun b rest => ?_) ?_
        · refine SOps.indexS (i) rfl rfl sliceB_43_3_1 (by first | omega | (simp only [lenB]; omega)) (by first | omega | (simp only [lenB]; omega)) ?_
          exact SOps.nil ⟨b, fun _ => rfl, by first | rfl | simp_all⟩
        exact StgOk.nil
      refine MixOk.cons ?_ ?_
      · refine StgOk.cons (fun b rest => ?_) ?_
        · refine SOps.storeK 0 (i) rfl rfl oneB_3 rfl (by first | omega | (simp only [lenB]; omega)) (by first | omega | (simp; omega)) rfl (fun _ => rfl) ?_
          exact SOps.nil ⟨b, fun _ => rfl, by first | rfl | simp_all⟩
        exact StgOk.nil
      refine MixOk.cons ?_ ?_
      · refine StgOk.cons (fun b rest => ?_) ?_
        · refine SOps.indexS ((xs.length - 1 - i)) rfl rfl sliceB_43_3_1 (by first | omega | (simp only [lenB]; omega)) (by first | omega | (simp only [lenB]; omega)) ?_
          exact SOps.nil ⟨b, fun _ => rfl, by first | rfl | simp_all⟩
        exact StgOk.nil
      refine MixOk.cons ?_ ?_
      · refine StgOk.cons (fun b rest => ?_) ?_
        · refine SOps.storeK 0 ((xs.length - 1 - i)) rfl rfl oneB_3 rfl (by first | omega | (simp only [lenB]; omega)) (by first | omega | (simp; omega)) rfl (fun _ => rfl) ?_
          exact SOps.nil ⟨b, fun _ => rfl, by first | rfl | simp_all⟩
        exact StgOk.nil
      exact MixOk.nil
    · intro bM
      show SCode _ _ _ _
      refine SCode.region ?_
      refine SOps.move rfl ?_
      refine SOps.addI rfl rfl (by first | omega | (simp only [lenB]; omega)) (by first | omega | (simp only [lenB]; omega)) ?_
      refine SOps.move rfl ?_
      refine SOps.subI rfl rfl (by first | omega | (simp only [lenB]; omega)) (by first | omega | (simp only [lenB]; omega)) ?_
      refine SOps.assign rfl ?_
      refine SOps.assign rfl ?_
      refine SOps.nil ?_
      exact ⟨i + 1, ((ys.set i (ys[xs.length - 1 - i])).set (xs.length - 1 - i) (ys[i])), ⟨by omega, by simp [hyl], rev_step (by omega) hyl hf⟩, by omega, St.Le.of ⟨rfl, rfl, (by show some _ = some _; congr 3; omega), trivial⟩⟩
  · try simp only [nmL] at hc1
    refine SCode.exit ?_
    obtain rfl := rev_end (by omega) hi hyl hf
    exact ⟨_, Res.none, rfl, rfl⟩
theorem sRevN0   : GCall Tryd.prog E 107 [DNats []] [] (fun d H => d = .v (.tuple #[]) ∧ H = []) := by
  refine GCall.body (C := ⟨Tryd.prog, E, true⟩) Tryd.func107 rfl (fun _ => rfl) (by kernel_rfl) rfl ?_
  refine SCode.seqR ?_
  refine SOps.move rfl ?_
  refine SOps.lenM rfl sliceB_43_3_1 ?_
  refine SOps.subI rfl rfl (by first | omega | (simp; done) | decide) (by first | omega | (simp; done) | decide) ?_
  refine SOps.assign rfl ?_
  refine SOps.assign rfl ?_
  refine SOps.nil ?_
  refine SCode.block ?_
  refine SCode.loop1 (fun (i : Nat) => (⟨28, [(0, DNats []), (2, .v (.int .i64 0)), (3, .v (.int .i64 (((([] : List Nat).length : Nat) : Int) - 1)))], []⟩ : St)) (fun (i : Nat) => True) (fun (i : Nat) => 0) (0) (by trivial) (St.Le.of ⟨(by first | rfl | (show some _ = some _; simp)), (by first | rfl | (show some _ = some _; simp)), (by first | rfl | (show some _ = some _; simp)), trivial⟩ rfl (by first | rfl | (simp))) ?_
  rintro i -
  refine SCode.seq ?_
  refine SCode.seqR ?_
  refine SOps.move rfl ?_
  refine SOps.move rfl ?_
  refine SOps.bin rfl rfl rfl ?_
  refine SOps.nil ?_
  refine SCode.cond rfl (fun hc1 => ?_) (fun hc1 => ?_)
  · try simp only [nmL] at hc1
    exact absurd hc1 (by decide)
  · try simp only [nmL] at hc1
    refine SCode.exit ?_
    exact ⟨_, Res.none, rfl, rfl⟩
theorem sRevN (xs : List Nat) (b : Nat) (hx : xs.length ≤ 1048576) : GCall Tryd.prog E 107 [accI 1 b (xs.map encN)] (accH 3 1 b (xs.map encN)) (fun d H => d = .v (.tuple #[]) ∧ H = accH 3 1 b (xs.reverse.map encN)) := by
  cases xs with
  | nil => exact sRevN0
  | cons x xs =>
    have e : accI 1 b ((x :: xs).map encN) = .sl b 1 0 (x :: xs).length := by simp [accI]
    rw [e]
    refine GCall.mono (sRevNC (E := E) (x :: xs) b hx) (fun d H h => ⟨h.1, h.2.trans ?_⟩)
    cases hr : (x :: xs).reverse with
    | nil => simp at hr
    | cons y ys => rfl
theorem sRevTC (xs : List Item) (bk : Nat) (hx : xs.length ≤ 1048576) : GCall Tryd.prog E 106 [.sl bk 4 0 xs.length] [(bk, .row 87 4 (xs.map encIt))] (fun d H => d = .v (.tuple #[]) ∧ H = [(bk, .row 87 4 (xs.reverse.map encIt))]) := by
  refine GCall.body (C := ⟨Tryd.prog, E, false⟩) Tryd.func106 rfl (fun h => by cases h) (by kernel_rfl) rfl ?_
  refine SCode.seqR ?_
  refine SOps.move rfl ?_
  refine SOps.lenSl rfl sliceB_45_87_4 ?_
  refine SOps.subI rfl rfl (by first | omega | (simp only [lenB]; omega)) (by first | omega | (simp only [lenB]; omega)) ?_
  refine SOps.assign rfl ?_
  refine SOps.assign rfl ?_
  refine SOps.nil ?_
  refine SCode.block ?_
  refine SCode.loop2 (fun (i : Nat) (ys : List Item) => (⟨28, [(0, .sl bk 4 0 xs.length), (2, .v (.int .i64 (i : Int))), (3, .v (.int .i64 ((xs.length : Int) - 1 - (i : Int))))], [(bk, .row 87 4 (ys.map encIt))]⟩ : St)) (fun (i : Nat) (ys : List Item) => 2 * i ≤ xs.length + 1 ∧ ys.length = xs.length ∧ ∀ (k : Nat) (h : k < xs.length), ys[k]? = some (if k < i ∨ xs.length - 1 - k < i then xs[xs.length - 1 - k]'(by omega) else xs[k])) (fun (i : Nat) (ys : List Item) => xs.length - i) (0) (xs) (by exact ⟨by omega, rfl, fun k h => by rw [if_neg (by omega)]; exact List.getElem?_eq_getElem h⟩) (St.Le.of ⟨(by first | rfl | (show some _ = some _; simp)), (by first | rfl | (show some _ = some _; simp)), (by first | rfl | (show some _ = some _; simp)), trivial⟩ rfl (by first | rfl | (simp))) ?_
  rintro i ys ⟨hi, hyl, hf⟩
  refine SCode.seq ?_
  refine SCode.seqR ?_
  refine SOps.move rfl ?_
  refine SOps.move rfl ?_
  refine SOps.bin rfl rfl rfl ?_
  refine SOps.nil ?_
  refine SCode.cond rfl (fun hc1 => ?_) (fun hc1 => ?_)
  · try simp only [nmL] at hc1
    refine SCode.skip ?_
    show SCode _ _ _ _
    refine SCode.seq ?_
    refine SCode.block ?_
    have hi3 : i < xs.length - 1 - i := by omega
    have hjl : xs.length - 1 - i < ys.length := by omega
    have hil : i < ys.length := by omega
    refine SCode.weaken (st' := (⟨28, [(0, .sl bk 4 0 xs.length), (2, .v (.int .i64 (i : Int))), (3, .v (.int .i64 ((xs.length : Int) - 1 - (i : Int))))], [(bk, .row 87 4 (ys.map encIt))]⟩ : St)) (St.Le.of ⟨rfl, rfl, rfl, trivial⟩) ?_
    refine SCode.drawMix 17 [12, 13, 14, 15] mixed_ [fun b => some (14, .sl bk 4 0 xs.length), fun b => some (15, .v (.int .i64 (i : Int))), fun b => some (16, .sl bk 4 0 xs.length), fun b => some (17, .v (.int .i64 ((xs.length : Int) - 1 - (i : Int)))), fun b => some (18, .sl bk 4 0 xs.length), fun b => some (19, .v (.int .i64 ((xs.length : Int) - 1 - (i : Int)))), fun b => some (20, .ref bk ((0 + (xs.length - 1 - i)) * 4)), fun b => some (21, .agg (encIt (ys[xs.length - 1 - i]))), fun b => some (22, .sl bk 4 0 xs.length), fun b => some (23, .v (.int .i64 (i : Int))), fun b => some (24, .ref bk ((0 + i) * 4)), fun b => some (25, .agg (encIt (ys[i]))), fun b => some (26, .ref bk ((0 + i) * 4)), fun b => none, fun b => some (27, .ref bk ((0 + (xs.length - 1 - i)) * 4)), fun b => none] [some 14, some 15, some 16, some 17, some 18, some 19, some 20, some 21, some 22, some 23, some 24, some 25, some 26, none, some 27, none] [[.inr 0], [.inr 2], [.inr 0], [.inr 3], [.inr 0], [.inr 3], [.inl 4, .inl 5], [.inl 6], [.inr 0], [.inr 2], [.inl 8, .inl 9], [.inl 10], [.inl 0, .inl 1], [.inl 12, .inl 7], [.inl 2, .inl 3], [.inl 14, .inl 11]] [fun b => [(0, .sl bk 4 0 xs.length)], fun b => [(2, .v (.int .i64 (i : Int)))], fun b => [(0, .sl bk 4 0 xs.length)], fun b => [(3, .v (.int .i64 ((xs.length : Int) - 1 - (i : Int))))], fun b => [(0, .sl bk 4 0 xs.length)], fun b => [(3, .v (.int .i64 ((xs.length : Int) - 1 - (i : Int))))], fun b => [(18, .sl bk 4 0 xs.length), (19, .v (.int .i64 ((xs.length : Int) - 1 - (i : Int))))], fun b => [(20, .ref bk ((0 + (xs.length - 1 - i)) * 4))], fun b => [(0, .sl bk 4 0 xs.length)], fun b => [(2, .v (.int .i64 (i : Int)))], fun b => [(22, .sl bk 4 0 xs.length), (23, .v (.int .i64 (i : Int)))], fun b => [(24, .ref bk ((0 + i) * 4))], fun b => [(14, .sl bk 4 0 xs.length), (15, .v (.int .i64 (i : Int)))], fun b => [(26, .ref bk ((0 + i) * 4)), (21, .agg (encIt (ys[xs.length - 1 - i])))], fun b => [(16, .sl bk 4 0 xs.length), (17, .v (.int .i64 ((xs.length : Int) - 1 - (i : Int))))], fun b => [(27, .ref bk ((0 + (xs.length - 1 - i)) * 4)), (25, .agg (encIt (ys[i])))]] (fun b c => match c with | 0 => [(bk, .row 87 4 (ys.map encIt))] | 1 => [(bk, .row 87 4 (ys.map encIt))] | 2 => [(bk, .row 87 4 ((ys.set i (ys[xs.length - 1 - i])).map encIt))] | 3 => [(bk, .row 87 4 ((ys.set i (ys[xs.length - 1 - i])).map encIt))] | _ => [(bk, .row 87 4 (((ys.set i (ys[xs.length - 1 - i])).set (xs.length - 1 - i) (ys[i])).map encIt))]) [(false, false, [0]), (false, false, [0]), (false, false, [0, 1, 2]), (false, false, [0, 1, 2]), (false, false, [0]), (false, false, [0]), (false, false, [0]), (false, false, [0]), (false, false, [0]), (false, false, [0]), (false, false, [0]), (false, false, [0]), (true, false, [0]), (true, false, [1]), (true, false, [2]), (true, false, [3])] (by kernel_rfl) (fun _ => rfl) rfl (fun _ => rfl) (fun _ => rfl) (cohNone rfl) ?_ ?_
    · refine MixOk.cons ?_ ?_
      · refine StgOk.cons (fun b rest => ?_) ?_
        · refine SOps.move rfl ?_
          exact SOps.nil ⟨b, fun _ => rfl, by first | rfl | simp_all⟩
        exact StgOk.nil
      refine MixOk.cons ?_ ?_
      · refine StgOk.cons (fun b rest => ?_) ?_
        · refine SOps.move rfl ?_
          exact SOps.nil ⟨b, fun _ => rfl, by first | rfl | simp_all⟩
        exact StgOk.nil
      refine MixOk.cons ?_ ?_
      · refine StgOk.cons (fun b rest => ?_) ?_
        · refine SOps.move rfl ?_
          exact SOps.nil ⟨b, fun _ => rfl, by first | rfl | simp_all⟩
        refine StgOk.cons (fun b rest => ?_) ?_
        · refine SOps.move rfl ?_
          exact SOps.nil ⟨b, fun _ => rfl, by first | rfl | simp_all⟩
        refine StgOk.cons (fun b rest => ?_) ?_
        · refine SOps.move rfl ?_
          exact SOps.nil ⟨b, fun _ => rfl, by first | rfl | simp_all⟩
        exact StgOk.nil
      refine MixOk.cons ?_ ?_
      · refine StgOk.cons (fun b rest => ?_) ?_
        · refine SOps.move rfl ?_
          exact SOps.nil ⟨b, fun _ => rfl, by first | rfl | simp_all⟩
        refine StgOk.cons (fun b rest => ?_) ?_
        · refine SOps.move rfl ?_
          exact SOps.nil ⟨b, fun _ => rfl, by first | rfl | simp_all⟩
        refine StgOk.cons (fun b rest => ?_) ?_
        · refine SOps.move rfl ?_
          exact SOps.nil ⟨b, fun _ => rfl, by first | rfl | simp_all⟩
        exact StgOk.nil
      refine MixOk.cons ?_ ?_
      · refine StgOk.cons (fun b rest => ?_) ?_
        · refine SOps.move rfl ?_
          exact SOps.nil ⟨b, fun _ => rfl, by first | rfl | simp_all⟩
        exact StgOk.nil
      refine MixOk.cons ?_ ?_
      · refine StgOk.cons (fun b rest => ?_) ?_
        · refine SOps.move rfl ?_
          exact SOps.nil ⟨b, fun _ => rfl, by first | rfl | simp_all⟩
        exact StgOk.nil
      refine MixOk.cons ?_ ?_
      · refine StgOk.cons (fun b rest => ?_) ?_
        · refine SOps.indexS ((xs.length - 1 - i)) rfl rfl sliceB_45_87_4 (by first | omega | (simp only [lenB]; omega)) (by first | omega | (simp only [lenB]; omega)) ?_
          exact SOps.nil ⟨b, fun _ => rfl, by first | rfl | simp_all⟩
        exact StgOk.nil
      refine MixOk.cons ?_ ?_
      · refine StgOk.cons (fun b rest => ?_) ?_
        · refine SOps.loadAK 0 ((xs.length - 1 - i)) rfl aggB_87_4 rfl (by first | omega | (simp only [lenB]; omega)) (by first | omega | (simp; omega)) rfl ?_
          exact SOps.nil ⟨b, fun _ => rfl, by first | rfl | simp_all⟩
        exact StgOk.nil
      refine MixOk.cons ?_ ?_
      · refine StgOk.cons (fun b rest => ?_) ?_
        · refine SOps.move rfl ?_
          exact SOps.nil ⟨b, fun _ => rfl, by first | rfl | simp_all⟩
        exact StgOk.nil
      refine MixOk.cons ?_ ?_
      · refine StgOk.cons (fun b rest => ?_) ?_
        · refine SOps.move rfl ?_
          exact SOps.nil ⟨b, fun _ => rfl, by first | rfl | simp_all⟩
        exact StgOk.nil
      refine MixOk.cons ?_ ?_
      · refine StgOk.cons (fun b rest => ?_) ?_
        · refine SOps.indexS (i) rfl rfl sliceB_45_87_4 (by first | omega | (simp only [lenB]; omega)) (by first | omega | (simp only [lenB]; omega)) ?_
          exact SOps.nil ⟨b, fun _ => rfl, by first | rfl | simp_all⟩
        exact StgOk.nil
      refine MixOk.cons ?_ ?_
      · refine StgOk.cons (fun b rest => ?_) ?_
        · refine SOps.loadAK 0 (i) rfl aggB_87_4 rfl (by first | omega | (simp only [lenB]; omega)) (by first | omega | (simp; omega)) rfl ?_
          exact SOps.nil ⟨b, fun _ => rfl, by first | rfl | simp_all⟩
        exact StgOk.nil
      refine MixOk.cons ?_ ?_
      · refine StgOk.cons (fun b rest => ?_) ?_
        · refine SOps.indexS (i) rfl rfl sliceB_45_87_4 (by first | omega | (simp only [lenB]; omega)) (by first | omega | (simp only [lenB]; omega)) ?_
          exact SOps.nil ⟨b, fun _ => rfl, by first | rfl | simp_all⟩
        exact StgOk.nil
      refine MixOk.cons ?_ ?_
      · refine StgOk.cons (fun b rest => ?_) ?_
        · refine SOps.storeAK 0 (i) rfl rfl aggB_87_4 rfl (by first | omega | (simp only [lenB]; omega)) (by first | omega | (simp; omega)) rfl ?_ rfl
          exact SOps.nil ⟨b, fun _ => rfl, by first | rfl | simp_all⟩
        exact StgOk.nil
      refine MixOk.cons ?_ ?_
      · refine StgOk.cons (fun b rest => ?_) ?_
        · refine SOps.indexS ((xs.length - 1 - i)) rfl rfl sliceB_45_87_4 (by first | omega | (simp only [lenB]; omega)) (by first | omega | (simp only [lenB]; omega)) ?_
          exact SOps.nil ⟨b, fun _ => rfl, by first | rfl | simp_all⟩
        exact StgOk.nil
      refine MixOk.cons ?_ ?_
      · refine StgOk.cons (fun b rest => ?_) ?_
        · refine SOps.storeAK 0 ((xs.length - 1 - i)) rfl rfl aggB_87_4 rfl (by first | omega | (simp only [lenB]; omega)) (by first | omega | (simp; omega)) rfl ?_ rfl
          exact SOps.nil ⟨b, fun _ => rfl, by first | rfl | simp_all⟩
        exact StgOk.nil
      exact MixOk.nil
    · intro bM
      show SCode _ _ _ _
      refine SCode.region ?_
      refine SOps.move rfl ?_
      refine SOps.addI rfl rfl (by first | omega | (simp only [lenB]; omega)) (by first | omega | (simp only [lenB]; omega)) ?_
      refine SOps.move rfl ?_
      refine SOps.subI rfl rfl (by first | omega | (simp only [lenB]; omega)) (by first | omega | (simp only [lenB]; omega)) ?_
      refine SOps.assign rfl ?_
      refine SOps.assign rfl ?_
      refine SOps.nil ?_
      exact ⟨i + 1, ((ys.set i (ys[xs.length - 1 - i])).set (xs.length - 1 - i) (ys[i])), ⟨by omega, by simp [hyl], rev_step (by omega) hyl hf⟩, by omega, St.Le.of ⟨rfl, rfl, (by show some _ = some _; congr 3; omega), trivial⟩⟩
  · try simp only [nmL] at hc1
    refine SCode.exit ?_
    obtain rfl := rev_end (by omega) hi hyl hf
    exact ⟨_, Res.none, rfl, rfl⟩
theorem sRevT0   : GCall Tryd.prog E 106 [DIts []] [] (fun d H => d = .v (.tuple #[]) ∧ H = []) := by
  refine GCall.body (C := ⟨Tryd.prog, E, true⟩) Tryd.func106 rfl (fun _ => rfl) (by kernel_rfl) rfl ?_
  refine SCode.seqR ?_
  refine SOps.move rfl ?_
  refine SOps.lenM rfl sliceB_45_87_4 ?_
  refine SOps.subI rfl rfl (by first | omega | (simp; done) | decide) (by first | omega | (simp; done) | decide) ?_
  refine SOps.assign rfl ?_
  refine SOps.assign rfl ?_
  refine SOps.nil ?_
  refine SCode.block ?_
  refine SCode.loop1 (fun (i : Nat) => (⟨28, [(0, DIts []), (2, .v (.int .i64 0)), (3, .v (.int .i64 (((([] : List Item).length : Nat) : Int) - 1)))], []⟩ : St)) (fun (i : Nat) => True) (fun (i : Nat) => 0) (0) (by trivial) (St.Le.of ⟨(by first | rfl | (show some _ = some _; simp)), (by first | rfl | (show some _ = some _; simp)), (by first | rfl | (show some _ = some _; simp)), trivial⟩ rfl (by first | rfl | (simp))) ?_
  rintro i -
  refine SCode.seq ?_
  refine SCode.seqR ?_
  refine SOps.move rfl ?_
  refine SOps.move rfl ?_
  refine SOps.bin rfl rfl rfl ?_
  refine SOps.nil ?_
  refine SCode.cond rfl (fun hc1 => ?_) (fun hc1 => ?_)
  · try simp only [nmL] at hc1
    exact absurd hc1 (by decide)
  · try simp only [nmL] at hc1
    refine SCode.exit ?_
    exact ⟨_, Res.none, rfl, rfl⟩
theorem sRevT (xs : List Item) (b : Nat) (hx : xs.length ≤ 1048576) : GCall Tryd.prog E 106 [accI 4 b (xs.map encIt)] (accH 87 4 b (xs.map encIt)) (fun d H => d = .v (.tuple #[]) ∧ H = accH 87 4 b (xs.reverse.map encIt)) := by
  cases xs with
  | nil => exact sRevT0
  | cons x xs =>
    have e : accI 4 b ((x :: xs).map encIt) = .sl b 4 0 (x :: xs).length := by simp [accI]
    rw [e]
    refine GCall.mono (sRevTC (E := E) (x :: xs) b hx) (fun d H h => ⟨h.1, h.2.trans ?_⟩)
    cases hr : (x :: xs).reverse with
    | nil => simp at hr
    | cons y ys => rfl
theorem sClone (p : List Item) (hp : p.length ≤ 1048576) : GCall Tryd.prog E 105 [DIts p] [] (fun d H => ∃ b, d = accI 4 b (p.map encIt) ∧ H = accH 87 4 b (p.map encIt)) := by
  cases p with
  | nil => exact (sClone0 [] rfl hp).mono (fun d H h => ⟨0, h.1, h.2⟩)
  | cons x p =>
    refine (sCloneC (x :: p) (by simp) hp).mono (fun d H ⟨b, h1, h2⟩ => ⟨b, h1.trans ?_, h2⟩)
    simp [accI]
def suffixesP (a : List Letter) (p : List Item) (s : ByteArray) : List Nat := if validPat a p && overA a s then lens (admF a) p.reverse (idxs a s).reverse else []
theorem pSuffixes0 (hV : VS E) (a : List Letter) (p : List Item) (s : ByteArray) (hp : ∀ x ∈ p, x.lets.size ≤ 1048576) (hs : s.size ≤ 1048576) : GCall Tryd.prog E 101 [DLs a, DIts p, .v (.string s)] [] (fun d H => d = (if (validPat a p && overA a s) then DNats (lens (admF a) p.reverse (idxs a s).reverse) else .v (.slice none 0 0)) ∧ H = []) := by
  refine GCall.body (C := ⟨Tryd.prog, E, true⟩) Tryd.func101 rfl (fun _ => rfl) (by kernel_rfl) rfl ?_
  refine SCode.seqR ?_
  refine SOps.assign rfl ?_
  refine SOps.nil ?_
  refine SCode.seqR ?_
  refine SOps.move rfl ?_
  refine SOps.move rfl ?_
  refine SOps.move rfl ?_
  rcases hva : (validPat a p && overA a s) with _ | _
  · refine SOps.callH [] [] [] (pReadO hV a p s hp hs) rfl rfl (fun d H hR => ?_)
    obtain ⟨rfl, rfl⟩ := hR.2 hva
    refine SOps.move rfl ?_
    refine SOps.extract rfl rfl ?_
    refine SOps.extract rfl rfl ?_
    refine SOps.assign rfl ?_
    refine SOps.assign rfl ?_
    refine SOps.nil ?_
    refine SCode.seq ?_
    refine SCode.seqR ?_
    refine SOps.move rfl ?_
    refine SOps.un rfl rfl ?_
    refine SOps.nil ?_
    refine SCode.cond rfl (fun _ => ?_) (fun h => by cases h)
    refine SCode.seqR ?_
    refine SOps.assign rfl ?_
    refine SOps.nil ?_
    refine SCode.ret ?_
    exact ⟨_, Res.one (.tmp rfl), by first | rfl | (rw [hva]; rfl), rfl⟩
  · have hva2 := (Bool.and_eq_true _ _).mp hva
    have hvl := validPat_len hva2.1
    have hil := idxs_len a s
    have hlt := idxs_lt hva2.2
    refine SOps.callH [] [] [] (pReadO hV a p s hp hs) rfl rfl (fun d H hR => ?_)
    obtain ⟨c, rfl, rfl⟩ := hR.1 hva
    refine SOps.move rfl ?_
    refine SOps.extract rfl rfl ?_
    refine SOps.extract rfl rfl ?_
    refine SOps.assign rfl ?_
    refine SOps.assign rfl ?_
    refine SOps.nil ?_
    refine SCode.seq ?_
    refine SCode.seqR ?_
    refine SOps.move rfl ?_
    refine SOps.un rfl rfl ?_
    refine SOps.nil ?_
    refine SCode.cond rfl (fun h => by cases h) (fun _ => ?_)
    refine SCode.skip ?_
    show SCode _ _ _ _
    refine SCode.seqR ?_
    refine SOps.move rfl ?_
    refine SOps.callH [] [] _ (sClone p (by omega)) rfl rfl (fun d H hR => ?_)
    obtain ⟨cb, rfl, rfl⟩ := hR
    refine SOps.assign rfl ?_
    refine SOps.nil ?_
    refine SCode.seqR ?_
    refine SOps.move rfl ?_
    refine SOps.callH [] _ _ (sRevT p cb (by omega)) rfl rfl (fun d H hR => ?_)
    obtain ⟨rfl, rfl⟩ := hR
    refine SOps.nil ?_
    refine SCode.seqR ?_
    refine SOps.accDI (t := 7) rfl ?_
    refine SOps.move rfl ?_
    refine SOps.callH (accH 87 4 cb (p.reverse.map encIt)) (accH 3 1 c ((idxs a s).map encN)) [] (sRevN (idxs a s) c (by omega)) rfl rfl (fun d H hR => ?_)
    obtain ⟨rfl, rfl⟩ := hR
    refine SOps.nil ?_
    refine SCode.seqR ?_
    refine SOps.reSlot (t := 9) rfl (show _ = accI 4 cb (p.reverse.map encIt) from accI_len (by simp)) ?_
    refine SOps.reSlot (t := 7) rfl (show _ = accI 1 c ((idxs a s).reverse.map encN) from accI_len (by simp)) ?_
    refine SOps.freezeAccI (t := 9) [] (accH 3 1 c ((idxs a s).reverse.map encN) ++ []) rfl rfl rfl ?_
    refine SOps.freezeAccI (t := 7) [] [] rfl rfl rfl ?_
    refine SOps.move rfl ?_
    refine SOps.move rfl ?_
    refine SOps.move rfl ?_
    refine SOps.callP (pLengths a p.reverse (idxs a s).reverse (by simp; omega) (by omega) (by simp; omega) (fun c hc => hlt c (List.mem_reverse.1 hc))) rfl ?_
    rintro _ rfl
    refine SOps.assign rfl ?_
    refine SOps.nil ?_
    refine SCode.ret ?_
    exact ⟨_, Res.one (.tmp rfl), by first | rfl | (rw [hva]; rfl), rfl⟩
theorem pSuffixes (hV : VS E) (a : List Letter) (p : List Item) (s : ByteArray) (hp : ∀ x ∈ p, x.lets.size ≤ 1048576) (hs : s.size ≤ 1048576) : GCall Tryd.prog E 101 [DLs a, DIts p, .v (.string s)] [] (fun d H => d = DNats (suffixesP a p s) ∧ H = []) :=
  (pSuffixes0 hV a p s hp hs).nilI.mono (fun d H h => ⟨h.1.trans (by unfold suffixesP; split <;> rfl), h.2⟩)
end Go.GH
namespace Go.GH
open Go

structure Rule where
  fr : Int
  «to» : ByteArray
  left : List Item
  right : List Item
  ini : Bool
  fin : Bool
def encR (r : Rule) : List DV := [.v (.int .i32 r.fr), .v (.string r.«to»), DIts r.left, DIts r.right, .v (.bool r.ini), .v (.bool r.fin)]
abbrev DRs (l : List Rule) : DV := .isl false 6 (l.map encR)
/-- No string of a rule is long. -/
def SmR (r : Rule) : Prop := r.«to».size ≤ 1048576 ∧ (∀ x ∈ r.left, x.lets.size ≤ 1048576) ∧ (∀ x ∈ r.right, x.lets.size ≤ 1048576)
def validR (a : List Letter) (r : Rule) : Bool := admA a && (decide (r.fr = 0) || (idx a r.fr).isSome) && consS a 4 r.«to» && validPat a r.left && validPat a r.right
def rAdm (a : List Letter) (x : Item) (r : Int) : Bool := match idx a r with
  | none => false
  | some k => admB x (atL a k)
def Mr (a : List Letter) (p : List Item) (w : List Int) : Bool := M (rAdm a) p w
def leftR (a : List Letter) (r : Rule) (w : List Int) : Bool := if r.ini then Mr a r.left w else (List.range (w.length + 1)).any (fun i => Mr a r.left (w.drop i))
def rightR (a : List Letter) (r : Rule) (w : List Int) : Bool := if r.fin then Mr a r.right w else (List.range (w.length + 1)).any (fun i => Mr a r.right (w.take i))
def followsR (a : List Letter) (r : Rule) (s : ByteArray) : Bool := if r.ini then matchesP a r.left s else decide (0 < (suffixesP a r.left s).length)
def precedesR (a : List Letter) (r : Rule) (s : ByteArray) : Bool := if r.fin then matchesP a r.right s else decide (0 < (prefixesP a r.right s).length)
def allL (a : List Letter) (s : ByteArray) : Bool := (runes s).all (fun r => (idx a r).isSome)
theorem consS_eq (a : List Letter) (n : Nat) (s : ByteArray) : consS a n s = (utf8R s && decide ((runes s).length ≤ n) && allL a s) := rfl
theorem overA_eq (a : List Letter) (s : ByteArray) : overA a s = (utf8R s && allL a s) := rfl
end Go.GH
namespace Go.GH
open Go Go.Proofs
variable {E : Env}
theorem aggB_47_6 : aggB Tryd.prog 47 6 = true := by kernel_rfl
theorem elemB_21_1_4 : elemB Tryd.prog 21 1 4 = true := by kernel_rfl
theorem fieldB_47_0_0 : fieldB Tryd.prog 47 0 0 = true := by kernel_rfl
theorem fieldB_47_1_1 : fieldB Tryd.prog 47 1 1 = true := by kernel_rfl
theorem fieldB_47_2_2 : fieldB Tryd.prog 47 2 2 = true := by kernel_rfl
theorem fieldB_47_3_3 : fieldB Tryd.prog 47 3 3 = true := by kernel_rfl
theorem fieldB_47_4_4 : fieldB Tryd.prog 47 4 4 = true := by kernel_rfl
theorem fieldB_47_5_5 : fieldB Tryd.prog 47 5 5 = true := by kernel_rfl
theorem intB_21_i32 : intB Tryd.prog 21 .i32 = true := by kernel_rfl
theorem sliceB_84_21_1 : sliceB Tryd.prog 84 21 1 = true := by kernel_rfl
theorem zeroIs_21 : zeroIs Tryd.prog 21 (.int .i32 0) := by unfold zeroIs; kernel_rfl
theorem rValid (hV : VS E) (a : List Letter) (r : Rule) (hr : SmR r) : GCall Tryd.prog E 34 [DLs a, .agg (encR r)] [] (fun d H => d = .v (.bool (validR a r)) ∧ H = []) := by
  obtain ⟨hr1, hp1, hp2⟩ := hr
  refine GCall.body (C := ⟨Tryd.prog, E, true⟩) Tryd.func34 rfl (fun _ => rfl) (by kernel_rfl) rfl ?_
  refine SCode.seqR ?_
  refine SOps.boxAM rfl rfl ?_
  refine SOps.assign rfl ?_
  refine SOps.nil ?_
  refine SCode.seqR ?_
  refine SOps.move rfl ?_
  refine SOps.assign rfl ?_
  refine SOps.nil ?_
  refine SCode.seq ?_
  refine SCode.seqR ?_
  refine SOps.move rfl ?_
  refine SOps.callP (lAdm _) rfl ?_
  rintro _ rfl
  refine SOps.un rfl rfl ?_
  refine SOps.move rfl ?_
  refine SOps.caseB 10 rfl (fun hb1 => ?_) (fun hb1 => ?_)
  · try simp only [nmL] at hb1
    refine SOps.skip rfl ?_
    refine SOps.skip rfl ?_
    refine SOps.skip rfl ?_
    refine SOps.skip rfl ?_
    refine SOps.skip rfl ?_
    refine SOps.skip rfl ?_
    refine SOps.skip rfl ?_
    refine SOps.skip rfl ?_
    refine SOps.skip rfl ?_
    refine SOps.skip rfl ?_
    refine SOps.pick rfl rfl ?_
    refine SOps.nil ?_
    refine SCode.cond rfl (fun _ => ?_) (fun h => by cases h)
    refine SCode.seqR ?_
    refine SOps.assign rfl ?_
    refine SOps.nil ?_
    refine SCode.ret ?_
    exact ⟨_, Res.one (.tmp rfl), congrArg (fun b => DV.v (.bool b)) (by simp_all [validR]), rfl⟩
  · try simp only [nmL] at hb1
    refine SOps.fieldPin rfl fieldB_47_0_0 ?_
    refine SOps.loadPin rfl flatB_21 ?_
    refine SOps.bin rfl rfl rfl ?_
    refine SOps.move rfl ?_
    refine SOps.caseB 14 rfl (fun hb2 => ?_) (fun hb2 => ?_)
    · try simp only [nmL] at hb2
      refine SOps.move rfl ?_
      refine SOps.fieldPin rfl fieldB_47_0_0 ?_
      refine SOps.loadPin rfl flatB_21 ?_
      refine SOps.callP (lHas _ _) rfl ?_
      rintro _ rfl
      refine SOps.un rfl rfl ?_
      refine SOps.pick rfl rfl ?_
      refine SOps.pick rfl rfl ?_
      refine SOps.nil ?_
      refine SCode.cond rfl (fun hc3 => ?_) (fun hc3 => ?_)
      · try simp only [nmL] at hc3
        refine SCode.seqR ?_
        refine SOps.assign rfl ?_
        refine SOps.nil ?_
        refine SCode.ret ?_
        exact ⟨_, Res.one (.tmp rfl), congrArg (fun b => DV.v (.bool b)) (by simp_all [validR]), rfl⟩
      · try simp only [nmL] at hc3
        refine SCode.skip ?_
        show SCode _ _ _ _
        refine SCode.seqR ?_
        refine SOps.fieldPin rfl fieldB_47_1_1 ?_
        refine SOps.loadPin rfl flatB_9 ?_
        refine SOps.move rfl ?_
        refine SOps.makeFuncB rfl ?_
        refine SOps.callP (lCons hV _ 4 _) rfl ?_
        rintro _ rfl
        refine SOps.move rfl ?_
        refine SOps.caseB 27 rfl (fun hb4 => ?_) (fun hb4 => ?_)
        · try simp only [nmL] at hb4
          refine SOps.move rfl ?_
          refine SOps.fieldPin rfl fieldB_47_2_2 ?_
          refine SOps.loadPin rfl flatB_45 ?_
          refine SOps.callP (pValid hV _ _ hp1) rfl ?_
          rintro _ rfl
          refine SOps.pick rfl rfl ?_
          refine SOps.move rfl ?_
          refine SOps.caseB 33 rfl (fun hb5 => ?_) (fun hb5 => ?_)
          · try simp only [nmL] at hb5
            refine SOps.move rfl ?_
            refine SOps.fieldPin rfl fieldB_47_3_3 ?_
            refine SOps.loadPin rfl flatB_45 ?_
            refine SOps.callP (pValid hV _ _ hp2) rfl ?_
            rintro _ rfl
            refine SOps.pick rfl rfl ?_
            refine SOps.assign rfl ?_
            refine SOps.nil ?_
            refine SCode.ret ?_
            exact ⟨_, Res.one (.tmp rfl), congrArg (fun b => DV.v (.bool b)) (by simp_all [validR]), rfl⟩
          · try simp only [nmL] at hb5
            refine SOps.skip rfl ?_
            refine SOps.skip rfl ?_
            refine SOps.skip rfl ?_
            refine SOps.skip rfl ?_
            refine SOps.pick rfl rfl ?_
            refine SOps.assign rfl ?_
            refine SOps.nil ?_
            refine SCode.ret ?_
            exact ⟨_, Res.one (.tmp rfl), congrArg (fun b => DV.v (.bool b)) (by simp_all [validR]), rfl⟩
        · try simp only [nmL] at hb4
          refine SOps.skip rfl ?_
          refine SOps.skip rfl ?_
          refine SOps.skip rfl ?_
          refine SOps.skip rfl ?_
          refine SOps.pick rfl rfl ?_
          refine SOps.move rfl ?_
          refine SOps.skip rfl ?_
          refine SOps.skip rfl ?_
          refine SOps.skip rfl ?_
          refine SOps.skip rfl ?_
          refine SOps.pick rfl rfl ?_
          refine SOps.assign rfl ?_
          refine SOps.nil ?_
          refine SCode.ret ?_
          exact ⟨_, Res.one (.tmp rfl), congrArg (fun b => DV.v (.bool b)) (by simp_all [validR]), rfl⟩
    · try simp only [nmL] at hb2
      refine SOps.skip rfl ?_
      refine SOps.skip rfl ?_
      refine SOps.skip rfl ?_
      refine SOps.skip rfl ?_
      refine SOps.skip rfl ?_
      refine SOps.pick rfl rfl ?_
      refine SOps.pick rfl rfl ?_
      refine SOps.nil ?_
      refine SCode.cond rfl (fun h => by cases h) (fun _ => ?_)
      refine SCode.skip ?_
      show SCode _ _ _ _
      refine SCode.seqR ?_
      refine SOps.fieldPin rfl fieldB_47_1_1 ?_
      refine SOps.loadPin rfl flatB_9 ?_
      refine SOps.move rfl ?_
      refine SOps.makeFuncB rfl ?_
      refine SOps.callP (lCons hV _ 4 _) rfl ?_
      rintro _ rfl
      refine SOps.move rfl ?_
      refine SOps.caseB 27 rfl (fun hb6 => ?_) (fun hb6 => ?_)
      · try simp only [nmL] at hb6
        refine SOps.move rfl ?_
        refine SOps.fieldPin rfl fieldB_47_2_2 ?_
        refine SOps.loadPin rfl flatB_45 ?_
        refine SOps.callP (pValid hV _ _ hp1) rfl ?_
        rintro _ rfl
        refine SOps.pick rfl rfl ?_
        refine SOps.move rfl ?_
        refine SOps.caseB 33 rfl (fun hb7 => ?_) (fun hb7 => ?_)
        · try simp only [nmL] at hb7
          refine SOps.move rfl ?_
          refine SOps.fieldPin rfl fieldB_47_3_3 ?_
          refine SOps.loadPin rfl flatB_45 ?_
          refine SOps.callP (pValid hV _ _ hp2) rfl ?_
          rintro _ rfl
          refine SOps.pick rfl rfl ?_
          refine SOps.assign rfl ?_
          refine SOps.nil ?_
          refine SCode.ret ?_
          exact ⟨_, Res.one (.tmp rfl), congrArg (fun b => DV.v (.bool b)) (by simp_all [validR]), rfl⟩
        · try simp only [nmL] at hb7
          refine SOps.skip rfl ?_
          refine SOps.skip rfl ?_
          refine SOps.skip rfl ?_
          refine SOps.skip rfl ?_
          refine SOps.pick rfl rfl ?_
          refine SOps.assign rfl ?_
          refine SOps.nil ?_
          refine SCode.ret ?_
          exact ⟨_, Res.one (.tmp rfl), congrArg (fun b => DV.v (.bool b)) (by simp_all [validR]), rfl⟩
      · try simp only [nmL] at hb6
        refine SOps.skip rfl ?_
        refine SOps.skip rfl ?_
        refine SOps.skip rfl ?_
        refine SOps.skip rfl ?_
        refine SOps.pick rfl rfl ?_
        refine SOps.move rfl ?_
        refine SOps.skip rfl ?_
        refine SOps.skip rfl ?_
        refine SOps.skip rfl ?_
        refine SOps.skip rfl ?_
        refine SOps.pick rfl rfl ?_
        refine SOps.assign rfl ?_
        refine SOps.nil ?_
        refine SCode.ret ?_
        exact ⟨_, Res.one (.tmp rfl), congrArg (fun b => DV.v (.bool b)) (by simp_all [validR]), rfl⟩
theorem rFollows (hV : VS E) (a : List Letter) (r : Rule) (s : ByteArray) (hr : SmR r) (hs : s.size ≤ 1048576) : GCall Tryd.prog E 98 [DLs a, .agg (encR r), .v (.string s)] [] (fun d H => d = .v (.bool (followsR a r s)) ∧ H = []) := by
  obtain ⟨hr1, hp1, hp2⟩ := hr
  refine GCall.body (C := ⟨Tryd.prog, E, true⟩) Tryd.func98 rfl (fun _ => rfl) (by kernel_rfl) rfl ?_
  refine SCode.seqR ?_
  refine SOps.boxAM rfl rfl ?_
  refine SOps.assign rfl ?_
  refine SOps.nil ?_
  refine SCode.seq ?_
  refine SCode.seqR ?_
  refine SOps.fieldPin rfl fieldB_47_4_4 ?_
  refine SOps.loadPin rfl flatB_4 ?_
  refine SOps.nil ?_
  refine SCode.cond rfl (fun hc1 => ?_) (fun hc1 => ?_)
  · try simp only [nmL] at hc1
    refine SCode.seqR ?_
    refine SOps.move rfl ?_
    refine SOps.fieldPin rfl fieldB_47_2_2 ?_
    refine SOps.loadPin rfl flatB_45 ?_
    refine SOps.move rfl ?_
    refine SOps.callP (pMatches hV _ _ _ hp1 hs) rfl ?_
    rintro _ rfl
    refine SOps.assign rfl ?_
    refine SOps.nil ?_
    refine SCode.ret ?_
    exact ⟨_, Res.one (.tmp rfl), congrArg (fun b => DV.v (.bool b)) (by rw [followsR, if_pos hc1]), rfl⟩
  · try simp only [nmL] at hc1
    refine SCode.skip ?_
    show SCode _ _ _ _
    refine SCode.seqR ?_
    refine SOps.move rfl ?_
    refine SOps.fieldPin rfl fieldB_47_2_2 ?_
    refine SOps.loadPin rfl flatB_45 ?_
    refine SOps.move rfl ?_
    refine SOps.callP (pSuffixes hV _ _ _ hp1 hs) rfl ?_
    rintro _ rfl
    refine SOps.lenM rfl sliceB_43_3_1 ?_
    refine SOps.bin rfl rfl rfl ?_
    refine SOps.assign rfl ?_
    refine SOps.nil ?_
    refine SCode.ret ?_
    exact ⟨_, Res.one (.tmp rfl), congrArg (fun b => DV.v (.bool b)) (by rw [followsR, if_neg (by rw [hc1]; simp), Bool.eq_iff_iff]; simp only [decide_eq_true_eq]; omega), rfl⟩
theorem rPrecedes (hV : VS E) (a : List Letter) (r : Rule) (s : ByteArray) (hr : SmR r) (hs : s.size ≤ 1048576) : GCall Tryd.prog E 99 [DLs a, .agg (encR r), .v (.string s)] [] (fun d H => d = .v (.bool (precedesR a r s)) ∧ H = []) := by
  obtain ⟨hr1, hp1, hp2⟩ := hr
  refine GCall.body (C := ⟨Tryd.prog, E, true⟩) Tryd.func99 rfl (fun _ => rfl) (by kernel_rfl) rfl ?_
  refine SCode.seqR ?_
  refine SOps.boxAM rfl rfl ?_
  refine SOps.assign rfl ?_
  refine SOps.nil ?_
  refine SCode.seq ?_
  refine SCode.seqR ?_
  refine SOps.fieldPin rfl fieldB_47_5_5 ?_
  refine SOps.loadPin rfl flatB_4 ?_
  refine SOps.nil ?_
  refine SCode.cond rfl (fun hc1 => ?_) (fun hc1 => ?_)
  · try simp only [nmL] at hc1
    refine SCode.seqR ?_
    refine SOps.move rfl ?_
    refine SOps.fieldPin rfl fieldB_47_3_3 ?_
    refine SOps.loadPin rfl flatB_45 ?_
    refine SOps.move rfl ?_
    refine SOps.callP (pMatches hV _ _ _ hp2 hs) rfl ?_
    rintro _ rfl
    refine SOps.assign rfl ?_
    refine SOps.nil ?_
    refine SCode.ret ?_
    exact ⟨_, Res.one (.tmp rfl), congrArg (fun b => DV.v (.bool b)) (by rw [precedesR, if_pos hc1]), rfl⟩
  · try simp only [nmL] at hc1
    refine SCode.skip ?_
    show SCode _ _ _ _
    refine SCode.seqR ?_
    refine SOps.move rfl ?_
    refine SOps.fieldPin rfl fieldB_47_3_3 ?_
    refine SOps.loadPin rfl flatB_45 ?_
    refine SOps.move rfl ?_
    refine SOps.callP (pPrefixes hV _ _ _ hp2 hs) rfl ?_
    rintro _ rfl
    refine SOps.lenM rfl sliceB_43_3_1 ?_
    refine SOps.bin rfl rfl rfl ?_
    refine SOps.assign rfl ?_
    refine SOps.nil ?_
    refine SCode.ret ?_
    exact ⟨_, Res.one (.tmp rfl), congrArg (fun b => DV.v (.bool b)) (by rw [precedesR, if_neg (by rw [hc1]; simp), Bool.eq_iff_iff]; simp only [decide_eq_true_eq]; omega), rfl⟩
def siteB (a : List Letter) (r : Rule) (w : List Int) (i : Nat) : Bool := (decide (r.fr = 0) || (w[i]? == some r.fr)) && followsR a r (encs (w.take i)) && precedesR a r (encs (w.drop (if r.fr = 0 then i else i + 1)))
def siteQ (a : List Letter) (r : Rule) (w : List Int) (i : Nat) : Bool := (decide (r.fr = 0) || (w[i]? == some r.fr)) && leftR a r (w.take i) && rightR a r (w.drop (if r.fr = 0 then i else i + 1))
def okR (a : List Letter) (r : Rule) (s : ByteArray) : Bool := validR a r && consS a 40 s
def sitesF (p : Nat → Bool) (w : List Int) : List Nat := (List.range (w.length + 1)).filter p
theorem filter_succ (p : Nat → Bool) (i : Nat) : (List.range (i + 1)).filter p = (List.range i).filter p ++ if p i then [i] else [] := by
  rw [List.range_succ, List.filter_append]
  cases h : p i <;> simp [h]
theorem filter_len (p : Nat → Bool) (i : Nat) : ((List.range i).filter p).length ≤ i := by
  have := List.length_filter_le p (List.range i)
  simpa using this
theorem encs_take_size (w : List Int) (n : Nat) (h : w.length ≤ 40) : (encs (w.take n)).size ≤ 1048576 := by
  have := runesBytes_size_le (w.take n)
  rw [encs_eq] at this
  simp only [List.length_take] at this
  omega
theorem encs_drop_size (w : List Int) (n : Nat) (h : w.length ≤ 40) : (encs (w.drop n)).size ≤ 1048576 := by
  have := runesBytes_size_le (w.drop n)
  rw [encs_eq] at this
  simp only [List.length_drop] at this
  omega
theorem rSites0 (hV : VS E) (a : List Letter) (r : Rule) (s : ByteArray) (hr : SmR r) (hs : s.size ≤ 1048576) : GCall Tryd.prog E 97 [DLs a, .agg (encR r), .v (.string s)] [] (fun d H => d = (if okR a r s then DNats (sitesF (siteB a r (runes s)) (runes s)) else .v (.slice none 0 0)) ∧ H = []) := by
  refine GCall.body (C := ⟨Tryd.prog, E, true⟩) Tryd.func97 rfl (fun _ => rfl) (by kernel_rfl) rfl ?_
  refine SCode.seqR ?_
  refine SOps.boxAM rfl rfl ?_
  refine SOps.assign rfl ?_
  refine SOps.nil ?_
  refine SCode.scope ?_
  refine SCode.seq ?_
  refine SCode.seqR ?_
  refine SOps.move rfl ?_
  refine SOps.loadPinA rfl aggB_47_6 (Nat.le_of_ble_eq_true rfl) ?_
  refine SOps.callP (rValid hV _ _ (by assumption)) rfl ?_
  rintro _ rfl
  refine SOps.un rfl rfl ?_
  refine SOps.move rfl ?_
  refine SOps.caseB 15 rfl (fun hb1 => ?_) (fun hb1 => ?_)
  · try simp only [nmL] at hb1
    refine SOps.skip rfl ?_
    refine SOps.skip rfl ?_
    refine SOps.skip rfl ?_
    refine SOps.skip rfl ?_
    refine SOps.pick rfl rfl ?_
    refine SOps.nil ?_
    refine SCode.cond rfl (fun _ => ?_) (fun h => by cases h)
    refine SCode.seqR ?_
    refine SOps.assign rfl ?_
    refine SOps.nil ?_
    refine SCode.ret ?_
    exact ⟨_, Res.one (.tmp rfl), by first | (rw [if_neg (by simp_all [okR])]; done) | (rw [if_pos hok, ← ho]; rfl), rfl⟩
  · try simp only [nmL] at hb1
    refine SOps.move rfl ?_
    refine SOps.move rfl ?_
    refine SOps.callP (lIsWord hV _ _) rfl ?_
    rintro _ rfl
    refine SOps.un rfl rfl ?_
    refine SOps.pick rfl rfl ?_
    refine SOps.nil ?_
    refine SCode.cond rfl (fun hc2 => ?_) (fun hc2 => ?_)
    · try simp only [nmL] at hc2
      refine SCode.seqR ?_
      refine SOps.assign rfl ?_
      refine SOps.nil ?_
      refine SCode.ret ?_
      exact ⟨_, Res.one (.tmp rfl), by first | (rw [if_neg (by simp_all [okR])]; done) | (rw [if_pos hok, ← ho]; rfl), rfl⟩
    · try simp only [nmL] at hc2
      refine SCode.skip ?_
      show SCode _ _ _ _
      refine SCode.seqR ?_
      refine SOps.move rfl ?_
      refine SOps.runesF rfl rfl strB_9 sliceB_84_21_1 intB_21_i32 ?_
      refine SOps.assign rfl ?_
      refine SOps.nil ?_
      refine SCode.seqR ?_
      refine SOps.assign rfl ?_
      refine SOps.nil ?_
      refine SCode.seq ?_
      refine SCode.label ?_
      show SCode _ _ _ _
      refine SCode.seq ?_
      refine SCode.seqR ?_
      refine SOps.assign rfl ?_
      refine SOps.nil ?_
      refine SCode.block ?_
      have hok : okR a r s = true := by simp_all [okR]
      have hw40 : (runes s).length ≤ 40 := by have h40 : consS a 40 s = true := (by simp_all); rw [consS_eq] at h40; simp only [Bool.and_eq_true, decide_eq_true_eq] at h40; exact h40.1.2
      refine SCode.loop3 (fun (i : Nat) (out : List Nat) (k : Nat) => (⟨69, [(0, DLs a), (4, .ipin (encR r)), (7, DRunes (runes s)), (8, accD 1 k (out.map encN)), (9, .v (.int .i64 (i : Int)))], accH 3 1 k (out.map encN) ++ []⟩ : St)) (fun (i : Nat) (out : List Nat) (k : Nat) => i ≤ (runes s).length + 1 ∧ (List.range i).filter (siteB a r (runes s)) = out) (fun (i : Nat) (out : List Nat) (k : Nat) => (runes s).length + 1 - i) (0) ([]) (0) (by exact ⟨Nat.zero_le _, rfl⟩) (St.Le.of ⟨(by first | rfl | (show some _ = some _; simp)), (by first | rfl | (show some _ = some _; simp)), (by first | rfl | (show some _ = some _; simp)), (by first | rfl | (show some _ = some _; simp)), (by first | rfl | (show some _ = some _; simp)), trivial⟩ rfl (by first | rfl | (simp))) ?_
      rintro i out k ⟨hi, ho⟩
      have hol := filter_len (siteB a r (runes s)) i
      rw [ho] at hol
      refine SCode.seq ?_
      refine SCode.seqR ?_
      refine SOps.move rfl ?_
      refine SOps.move rfl ?_
      refine SOps.lenM rfl sliceB_84_21_1 ?_
      refine SOps.bin rfl rfl rfl ?_
      refine SOps.nil ?_
      refine SCode.cond rfl (fun hc3 => ?_) (fun hc3 => ?_)
      · try simp only [nmL] at hc3
        refine SCode.skip ?_
        show SCode _ _ _ _
        refine SCode.seq ?_
        refine SCode.block ?_
        refine SCode.seqR ?_
        refine SOps.move rfl ?_
        refine SOps.assign rfl ?_
        refine SOps.nil ?_
        refine SCode.seq ?_
        refine SCode.seqR ?_
        refine SOps.fieldPin rfl fieldB_47_0_0 ?_
        refine SOps.loadPin rfl flatB_21 ?_
        refine SOps.bin rfl rfl rfl ?_
        refine SOps.nil ?_
        refine SCode.cond rfl (fun hc4 => ?_) (fun hc4 => ?_)
        · try simp only [nmL] at hc4
          refine SCode.seq ?_
          refine SCode.seq ?_
          rcases (show i = (runes s).length ∨ i < (runes s).length from by omega) with hq | hq
          · refine SCode.drawPure mixed_ [(33, .v (.int .i64 (i : Int))), (34, DRunes (runes s)), (35, .v (.int .i64 (((runes s).length : Nat) : Int))), (36, .v (.bool true)), (37, .v (.bool true)), (38, .v (.tuple #[])), (39, .v (.tuple #[])), (40, .v (.tuple #[])), (41, .v (.tuple #[])), (42, .v (.tuple #[])), (43, .v (.tuple #[])), (44, .v (.tuple #[])), (45, .v (.bool true))] [33, 34, 35, 36, 37, 38, 39, 40, 41, 42, 43, 44, 45] [[.inr 9], [.inr 7], [.inl 1], [.inl 0, .inl 2], [.inl 3], [.inl 4], [.inl 4], [.inl 4], [.inl 4], [.inl 4], [.inl 4], [.inl 4], [.inl 4, .inl 11]] [[(9, .v (.int .i64 (i : Int)))], [(7, DRunes (runes s))], [(34, DRunes (runes s))], [(33, .v (.int .i64 (i : Int))), (35, .v (.int .i64 (((runes s).length : Nat) : Int)))], [(36, .v (.bool true))], [(37, .v (.bool true))], [(37, .v (.bool true))], [(37, .v (.bool true))], [(37, .v (.bool true))], [(37, .v (.bool true))], [(37, .v (.bool true))], [(37, .v (.bool true))], [(37, .v (.bool true)), (44, .v (.tuple #[]))]] rfl (by kernel_rfl) (by kernel_rfl) rfl ?_ ?_
            · refine OpsOk.cons (fun rest => ?_) ?_
              · refine SOps.move rfl ?_
                exact SOps.nil (by first | rfl | simp_all)
              refine OpsOk.cons (fun rest => ?_) ?_
              · refine SOps.move rfl ?_
                exact SOps.nil (by first | rfl | simp_all)
              refine OpsOk.cons (fun rest => ?_) ?_
              · refine SOps.lenM rfl sliceB_84_21_1 ?_
                exact SOps.nil (by first | rfl | simp_all)
              refine OpsOk.cons (fun rest => ?_) ?_
              · refine SOps.bin rfl rfl rfl ?_
                exact SOps.nil (by exact congrArg (fun b => St.put _ _ (.v (.bool b))) (beq_iff_eq.2 (by omega)))
              refine OpsOk.cons (fun rest => ?_) ?_
              · refine SOps.move rfl ?_
                exact SOps.nil (by first | rfl | simp_all)
              refine OpsOk.cons (fun rest => ?_) ?_
              · refine SOps.skip rfl ?_
                exact SOps.nil (by first | rfl | simp_all)
              refine OpsOk.cons (fun rest => ?_) ?_
              · refine SOps.skip rfl ?_
                exact SOps.nil (by first | rfl | simp_all)
              refine OpsOk.cons (fun rest => ?_) ?_
              · refine SOps.skip rfl ?_
                exact SOps.nil (by first | rfl | simp_all)
              refine OpsOk.cons (fun rest => ?_) ?_
              · refine SOps.skip rfl ?_
                exact SOps.nil (by first | rfl | simp_all)
              refine OpsOk.cons (fun rest => ?_) ?_
              · refine SOps.skip rfl ?_
                exact SOps.nil (by first | rfl | simp_all)
              refine OpsOk.cons (fun rest => ?_) ?_
              · refine SOps.skip rfl ?_
                exact SOps.nil (by first | rfl | simp_all)
              refine OpsOk.cons (fun rest => ?_) ?_
              · refine SOps.skip rfl ?_
                exact SOps.nil (by first | rfl | simp_all)
              refine OpsOk.cons (fun rest => ?_) ?_
              · refine SOps.pick rfl rfl ?_
                exact SOps.nil (by first | rfl | simp_all)
              exact OpsOk.nil
            · show SCode _ _ _ _
              refine SCode.cond rfl (fun _ => ?_) (fun h => by cases h)
              refine SCode.exit ?_
              show SCode _ _ _ _
              refine SCode.region ?_
              refine SOps.move rfl ?_
              refine SOps.addI rfl rfl (by first | omega | (simp only [lenB]; omega)) (by first | omega | (simp only [lenB]; omega)) ?_
              refine SOps.assign rfl ?_
              refine SOps.nil ?_
              first
                | exact ⟨i + 1, out ++ [i], b0, ⟨by omega, by rw [filter_succ, if_pos (by simp_all [siteB]), ho]⟩, by omega, St.Le.of ⟨rfl, rfl, rfl, (by show some _ = some _; rw [List.map_append]; rfl), rfl, trivial⟩ rfl (by rw [List.map_append]; rfl)⟩
                | exact ⟨i + 1, out ++ [i], b1, ⟨by omega, by rw [filter_succ, if_pos (by simp_all [siteB]), ho]⟩, by omega, St.Le.of ⟨rfl, rfl, rfl, (by show some _ = some _; rw [List.map_append]; rfl), rfl, trivial⟩ rfl (by rw [List.map_append]; rfl)⟩
                | exact ⟨i + 1, out, k, ⟨by omega, by rw [filter_succ, if_neg (by simp_all [siteB]), ho, List.append_nil]⟩, by omega, St.Le.of ⟨rfl, rfl, rfl, rfl, rfl, trivial⟩⟩
          · refine SCode.drawPure mixed_ [(33, .v (.int .i64 (i : Int))), (34, DRunes (runes s)), (35, .v (.int .i64 (((runes s).length : Nat) : Int))), (36, .v (.bool false)), (37, .v (.bool false)), (38, DRunes (runes s)), (39, .v (.int .i64 (i : Int))), (40, .ipin (rcell ((runes s)[i]))), (41, .v (.int .i32 ((runes s)[i]))), (42, .ipin ((encR r).drop 0)), (43, .v (.int .i32 r.fr)), (44, .v (.bool (!decide ((runes s)[i] = r.fr)))), (45, .v (.bool (!decide ((runes s)[i] = r.fr))))] [33, 34, 35, 36, 37, 38, 39, 40, 41, 42, 43, 44, 45] [[.inr 9], [.inr 7], [.inl 1], [.inl 0, .inl 2], [.inl 3], [.inl 4, .inr 7], [.inl 4, .inr 9], [.inl 4, .inl 5, .inl 6], [.inl 4, .inl 7], [.inl 4, .inr 4], [.inl 4, .inl 9], [.inl 4, .inl 8, .inl 10], [.inl 4, .inl 11]] [[(9, .v (.int .i64 (i : Int)))], [(7, DRunes (runes s))], [(34, DRunes (runes s))], [(33, .v (.int .i64 (i : Int))), (35, .v (.int .i64 (((runes s).length : Nat) : Int)))], [(36, .v (.bool false))], [(37, .v (.bool false)), (7, DRunes (runes s))], [(37, .v (.bool false)), (9, .v (.int .i64 (i : Int)))], [(37, .v (.bool false)), (38, DRunes (runes s)), (39, .v (.int .i64 (i : Int)))], [(37, .v (.bool false)), (40, .ipin (rcell ((runes s)[i])))], [(37, .v (.bool false)), (4, .ipin (encR r))], [(37, .v (.bool false)), (42, .ipin ((encR r).drop 0))], [(37, .v (.bool false)), (41, .v (.int .i32 ((runes s)[i]))), (43, .v (.int .i32 r.fr))], [(37, .v (.bool false)), (44, .v (.bool (!decide ((runes s)[i] = r.fr))))]] rfl (by kernel_rfl) (by kernel_rfl) rfl ?_ ?_
            · refine OpsOk.cons (fun rest => ?_) ?_
              · refine SOps.move rfl ?_
                exact SOps.nil (by first | rfl | simp_all)
              refine OpsOk.cons (fun rest => ?_) ?_
              · refine SOps.move rfl ?_
                exact SOps.nil (by first | rfl | simp_all)
              refine OpsOk.cons (fun rest => ?_) ?_
              · refine SOps.lenM rfl sliceB_84_21_1 ?_
                exact SOps.nil (by first | rfl | simp_all)
              refine OpsOk.cons (fun rest => ?_) ?_
              · refine SOps.bin rfl rfl rfl ?_
                exact SOps.nil (by exact congrArg (fun b => St.put _ _ (.v (.bool b))) (beq_eq_false_iff_ne.2 (by omega)))
              refine OpsOk.cons (fun rest => ?_) ?_
              · refine SOps.move rfl ?_
                exact SOps.nil (by first | rfl | simp_all)
              refine OpsOk.cons (fun rest => ?_) ?_
              · refine SOps.move rfl ?_
                exact SOps.nil (by first | rfl | simp_all)
              refine OpsOk.cons (fun rest => ?_) ?_
              · refine SOps.move rfl ?_
                exact SOps.nil (by first | rfl | simp_all)
              refine OpsOk.cons (fun rest => ?_) ?_
              · refine SOps.indexM (i) rfl rfl sliceB_84_21_1 (by first | omega | (simp only [lenB]; omega)) (by first | omega | (simp only [lenB]; omega)) ?_
                exact SOps.nil (by first | rfl | simp_all)
              refine OpsOk.cons (fun rest => ?_) ?_
              · refine SOps.loadPin rfl flatB_21 ?_
                exact SOps.nil (by first | rfl | simp_all)
              refine OpsOk.cons (fun rest => ?_) ?_
              · refine SOps.fieldPin rfl fieldB_47_0_0 ?_
                exact SOps.nil (by first | rfl | simp_all)
              refine OpsOk.cons (fun rest => ?_) ?_
              · refine SOps.loadPin rfl flatB_21 ?_
                exact SOps.nil (by first | rfl | simp_all)
              refine OpsOk.cons (fun rest => ?_) ?_
              · refine SOps.bin rfl rfl rfl ?_
                exact SOps.nil (by first | rfl | simp_all)
              refine OpsOk.cons (fun rest => ?_) ?_
              · refine SOps.pick rfl rfl ?_
                exact SOps.nil (by first | rfl | simp_all)
              exact OpsOk.nil
            · show SCode _ _ _ _
              refine SCode.cond rfl (fun hc5 => ?_) (fun hc5 => ?_)
              · try simp only [nmL] at hc5
                refine SCode.exit ?_
                show SCode _ _ _ _
                refine SCode.region ?_
                refine SOps.move rfl ?_
                refine SOps.addI rfl rfl (by first | omega | (simp only [lenB]; omega)) (by first | omega | (simp only [lenB]; omega)) ?_
                refine SOps.assign rfl ?_
                refine SOps.nil ?_
                first
                  | exact ⟨i + 1, out ++ [i], b0, ⟨by omega, by rw [filter_succ, if_pos (by simp_all [siteB]), ho]⟩, by omega, St.Le.of ⟨rfl, rfl, rfl, (by show some _ = some _; rw [List.map_append]; rfl), rfl, trivial⟩ rfl (by rw [List.map_append]; rfl)⟩
                  | exact ⟨i + 1, out ++ [i], b1, ⟨by omega, by rw [filter_succ, if_pos (by simp_all [siteB]), ho]⟩, by omega, St.Le.of ⟨rfl, rfl, rfl, (by show some _ = some _; rw [List.map_append]; rfl), rfl, trivial⟩ rfl (by rw [List.map_append]; rfl)⟩
                  | exact ⟨i + 1, out, k, ⟨by omega, by rw [filter_succ, if_neg (by simp_all [siteB]), ho, List.append_nil]⟩, by omega, St.Le.of ⟨rfl, rfl, rfl, rfl, rfl, trivial⟩⟩
              · try simp only [nmL] at hc5
                refine SCode.skip ?_
                show SCode _ _ _ _
                refine SCode.region ?_
                refine SOps.move rfl ?_
                refine SOps.addI rfl rfl (by first | omega | (simp only [lenB]; omega)) (by first | omega | (simp only [lenB]; omega)) ?_
                refine SOps.assign rfl ?_
                refine SOps.nil ?_
                show SCode _ _ _ _
                refine SCode.seq ?_
                have hz1 := encs_take_size (runes s) i hw40
                have hz2 := encs_drop_size (runes s) (i + 1) hw40
                rcases hq3 : followsR a r (encs ((runes s).take i)) with _ | _
                · refine SCode.drawPure mixed_ [(48, DLs a), (49, .agg (encR r)), (50, DRunes (runes s)), (51, .v (.int .i64 (i : Int))), (52, DRunes ((runes s).take i)), (53, .v (.string (encs ((runes s).take i)))), (54, .v (.bool false)), (55, .v (.bool false)), (56, .v (.tuple #[])), (57, .v (.tuple #[])), (58, .v (.tuple #[])), (59, .v (.tuple #[])), (60, .v (.tuple #[])), (61, .v (.tuple #[])), (62, .v (.tuple #[])), (63, .v (.bool false))] [48, 49, 50, 51, 52, 53, 54, 55, 56, 57, 58, 59, 60, 61, 62, 63] [[.inr 0], [.inr 4], [.inr 7], [.inr 9], [.inl 2, .inl 3], [.inl 4], [.inl 0, .inl 1, .inl 5], [.inl 6], [.inl 7], [.inl 7], [.inl 7], [.inl 7], [.inl 7], [.inl 7], [.inl 7], [.inl 7, .inl 14]] [[(0, DLs a)], [(4, .ipin (encR r))], [(7, DRunes (runes s))], [(9, .v (.int .i64 (i : Int)))], [(50, DRunes (runes s)), (51, .v (.int .i64 (i : Int)))], [(52, DRunes ((runes s).take i))], [(48, DLs a), (49, .agg (encR r)), (53, .v (.string (encs ((runes s).take i))))], [(54, .v (.bool false))], [(55, .v (.bool false))], [(55, .v (.bool false))], [(55, .v (.bool false))], [(55, .v (.bool false))], [(55, .v (.bool false))], [(55, .v (.bool false))], [(55, .v (.bool false))], [(55, .v (.bool false)), (62, .v (.tuple #[]))]] rfl (by kernel_rfl) (by kernel_rfl) rfl ?_ ?_
                  · refine OpsOk.cons (fun rest => ?_) ?_
                    · refine SOps.move rfl ?_
                      exact SOps.nil (by first | rfl | simp_all)
                    refine OpsOk.cons (fun rest => ?_) ?_
                    · refine SOps.loadPinA rfl aggB_47_6 (Nat.le_of_ble_eq_true rfl) ?_
                      exact SOps.nil (by first | rfl | simp_all)
                    refine OpsOk.cons (fun rest => ?_) ?_
                    · refine SOps.move rfl ?_
                      exact SOps.nil (by first | rfl | simp_all)
                    refine OpsOk.cons (fun rest => ?_) ?_
                    · refine SOps.move rfl ?_
                      exact SOps.nil (by first | rfl | simp_all)
                    refine OpsOk.cons (fun rest => ?_) ?_
                    · refine SOps.sliceT (n1 := 0) (i) sliceB_84_21_1 rfl rfl (by first | omega | (simp only [lenB]; omega)) (by first | omega | (simp only [lenB]; omega)) ?_
                      exact SOps.nil (by first | rfl | simp_all)
                    refine OpsOk.cons (fun rest => ?_) ?_
                    · refine SOps.convRunesStr rfl sliceB_84_21_1 intB_21_i32 strB_9 (by simp [lenB] <;> (first | omega | (simp only [lenB]; omega))) ?_
                      exact SOps.nil (by first | rfl | simp_all)
                    refine OpsOk.cons (fun rest => ?_) ?_
                    · refine SOps.callP (rFollows hV _ _ _ hr hz1) rfl ?_
                      rintro _ rfl
                      exact SOps.nil (by exact congrArg (fun b => St.put _ _ (.v (.bool b))) hq3)
                    refine OpsOk.cons (fun rest => ?_) ?_
                    · refine SOps.move rfl ?_
                      exact SOps.nil (by first | rfl | simp_all)
                    refine OpsOk.cons (fun rest => ?_) ?_
                    · refine SOps.skip rfl ?_
                      exact SOps.nil (by first | rfl | simp_all)
                    refine OpsOk.cons (fun rest => ?_) ?_
                    · refine SOps.skip rfl ?_
                      exact SOps.nil (by first | rfl | simp_all)
                    refine OpsOk.cons (fun rest => ?_) ?_
                    · refine SOps.skip rfl ?_
                      exact SOps.nil (by first | rfl | simp_all)
                    refine OpsOk.cons (fun rest => ?_) ?_
                    · refine SOps.skip rfl ?_
                      exact SOps.nil (by first | rfl | simp_all)
                    refine OpsOk.cons (fun rest => ?_) ?_
                    · refine SOps.skip rfl ?_
                      exact SOps.nil (by first | rfl | simp_all)
                    refine OpsOk.cons (fun rest => ?_) ?_
                    · refine SOps.skip rfl ?_
                      exact SOps.nil (by first | rfl | simp_all)
                    refine OpsOk.cons (fun rest => ?_) ?_
                    · refine SOps.skip rfl ?_
                      exact SOps.nil (by first | rfl | simp_all)
                    refine OpsOk.cons (fun rest => ?_) ?_
                    · refine SOps.pick rfl rfl ?_
                      exact SOps.nil (by first | rfl | simp_all)
                    exact OpsOk.nil
                  · show SCode _ _ _ _
                    refine SCode.cond rfl (fun h => by cases h) (fun _ => ?_)
                    refine SCode.skip ?_
                    show SCode _ _ _ _
                    refine SCode.region ?_
                    refine SOps.move rfl ?_
                    refine SOps.addI rfl rfl (by first | omega | (simp only [lenB]; omega)) (by first | omega | (simp only [lenB]; omega)) ?_
                    refine SOps.assign rfl ?_
                    refine SOps.nil ?_
                    first
                      | exact ⟨i + 1, out ++ [i], b0, ⟨by omega, by rw [filter_succ, if_pos (by simp_all [siteB]), ho]⟩, by omega, St.Le.of ⟨rfl, rfl, rfl, (by show some _ = some _; rw [List.map_append]; rfl), rfl, trivial⟩ rfl (by rw [List.map_append]; rfl)⟩
                      | exact ⟨i + 1, out ++ [i], b1, ⟨by omega, by rw [filter_succ, if_pos (by simp_all [siteB]), ho]⟩, by omega, St.Le.of ⟨rfl, rfl, rfl, (by show some _ = some _; rw [List.map_append]; rfl), rfl, trivial⟩ rfl (by rw [List.map_append]; rfl)⟩
                      | exact ⟨i + 1, out, k, ⟨by omega, by rw [filter_succ, if_neg (by simp_all [siteB]), ho, List.append_nil]⟩, by omega, St.Le.of ⟨rfl, rfl, rfl, rfl, rfl, trivial⟩⟩
                · refine SCode.drawPure mixed_ [(48, DLs a), (49, .agg (encR r)), (50, DRunes (runes s)), (51, .v (.int .i64 (i : Int))), (52, DRunes ((runes s).take i)), (53, .v (.string (encs ((runes s).take i)))), (54, .v (.bool true)), (55, .v (.bool true)), (56, DLs a), (57, .agg (encR r)), (58, DRunes (runes s)), (59, .v (.int .i64 ((i : Int) + 1))), (60, DRunes ((runes s).drop (i + 1))), (61, .v (.string (encs ((runes s).drop (i + 1))))), (62, .v (.bool (precedesR a r (encs ((runes s).drop (i + 1)))))), (63, .v (.bool (precedesR a r (encs ((runes s).drop (i + 1))))))] [48, 49, 50, 51, 52, 53, 54, 55, 56, 57, 58, 59, 60, 61, 62, 63] [[.inr 0], [.inr 4], [.inr 7], [.inr 9], [.inl 2, .inl 3], [.inl 4], [.inl 0, .inl 1, .inl 5], [.inl 6], [.inl 7, .inr 0], [.inl 7, .inr 4], [.inl 7, .inr 7], [.inl 7, .inr 10], [.inl 7, .inl 10, .inl 11], [.inl 7, .inl 12], [.inl 7, .inl 8, .inl 9, .inl 13], [.inl 7, .inl 14]] [[(0, DLs a)], [(4, .ipin (encR r))], [(7, DRunes (runes s))], [(9, .v (.int .i64 (i : Int)))], [(50, DRunes (runes s)), (51, .v (.int .i64 (i : Int)))], [(52, DRunes ((runes s).take i))], [(48, DLs a), (49, .agg (encR r)), (53, .v (.string (encs ((runes s).take i))))], [(54, .v (.bool true))], [(55, .v (.bool true)), (0, DLs a)], [(55, .v (.bool true)), (4, .ipin (encR r))], [(55, .v (.bool true)), (7, DRunes (runes s))], [(55, .v (.bool true)), (10, .v (.int .i64 ((i : Int) + 1)))], [(55, .v (.bool true)), (58, DRunes (runes s)), (59, .v (.int .i64 ((i : Int) + 1)))], [(55, .v (.bool true)), (60, DRunes ((runes s).drop (i + 1)))], [(55, .v (.bool true)), (56, DLs a), (57, .agg (encR r)), (61, .v (.string (encs ((runes s).drop (i + 1)))))], [(55, .v (.bool true)), (62, .v (.bool (precedesR a r (encs ((runes s).drop (i + 1))))))]] rfl (by kernel_rfl) (by kernel_rfl) rfl ?_ ?_
                  · refine OpsOk.cons (fun rest => ?_) ?_
                    · refine SOps.move rfl ?_
                      exact SOps.nil (by first | rfl | simp_all)
                    refine OpsOk.cons (fun rest => ?_) ?_
                    · refine SOps.loadPinA rfl aggB_47_6 (Nat.le_of_ble_eq_true rfl) ?_
                      exact SOps.nil (by first | rfl | simp_all)
                    refine OpsOk.cons (fun rest => ?_) ?_
                    · refine SOps.move rfl ?_
                      exact SOps.nil (by first | rfl | simp_all)
                    refine OpsOk.cons (fun rest => ?_) ?_
                    · refine SOps.move rfl ?_
                      exact SOps.nil (by first | rfl | simp_all)
                    refine OpsOk.cons (fun rest => ?_) ?_
                    · refine SOps.sliceT (n1 := 0) (i) sliceB_84_21_1 rfl rfl (by first | omega | (simp only [lenB]; omega)) (by first | omega | (simp only [lenB]; omega)) ?_
                      exact SOps.nil (by first | rfl | simp_all)
                    refine OpsOk.cons (fun rest => ?_) ?_
                    · refine SOps.convRunesStr rfl sliceB_84_21_1 intB_21_i32 strB_9 (by simp [lenB] <;> (first | omega | (simp only [lenB]; omega))) ?_
                      exact SOps.nil (by first | rfl | simp_all)
                    refine OpsOk.cons (fun rest => ?_) ?_
                    · refine SOps.callP (rFollows hV _ _ _ hr hz1) rfl ?_
                      rintro _ rfl
                      exact SOps.nil (by exact congrArg (fun b => St.put _ _ (.v (.bool b))) hq3)
                    refine OpsOk.cons (fun rest => ?_) ?_
                    · refine SOps.move rfl ?_
                      exact SOps.nil (by first | rfl | simp_all)
                    refine OpsOk.cons (fun rest => ?_) ?_
                    · refine SOps.move rfl ?_
                      exact SOps.nil (by first | rfl | simp_all)
                    refine OpsOk.cons (fun rest => ?_) ?_
                    · refine SOps.loadPinA rfl aggB_47_6 (Nat.le_of_ble_eq_true rfl) ?_
                      exact SOps.nil (by first | rfl | simp_all)
                    refine OpsOk.cons (fun rest => ?_) ?_
                    · refine SOps.move rfl ?_
                      exact SOps.nil (by first | rfl | simp_all)
                    refine OpsOk.cons (fun rest => ?_) ?_
                    · refine SOps.move rfl ?_
                      exact SOps.nil (by first | rfl | simp_all)
                    refine OpsOk.cons (fun rest => ?_) ?_
                    · refine SOps.sliceD (n1 := 0) (i + 1) sliceB_84_21_1 rfl rfl (by first | omega | (simp only [lenB]; omega)) (by first | omega | (simp only [lenB]; omega)) ?_
                      exact SOps.nil (by first | rfl | simp_all)
                    refine OpsOk.cons (fun rest => ?_) ?_
                    · refine SOps.convRunesStr rfl sliceB_84_21_1 intB_21_i32 strB_9 (by simp [lenB] <;> (first | omega | (simp only [lenB]; omega))) ?_
                      exact SOps.nil (by first | rfl | simp_all)
                    refine OpsOk.cons (fun rest => ?_) ?_
                    · refine SOps.callP (rPrecedes hV _ _ _ hr hz2) rfl ?_
                      rintro _ rfl
                      exact SOps.nil (by first | rfl | simp_all)
                    refine OpsOk.cons (fun rest => ?_) ?_
                    · refine SOps.pick rfl rfl ?_
                      exact SOps.nil (by first | rfl | simp_all)
                    exact OpsOk.nil
                  · show SCode _ _ _ _
                    refine SCode.cond rfl (fun hc6 => ?_) (fun hc6 => ?_)
                    · try simp only [nmL] at hc6
                      refine SCode.region ?_
                      refine SOps.move rfl ?_
                      refine SOps.move rfl ?_
                      refine SOps.litF rfl sliceB_43_3_1 zeroIs_3 rfl ?_
                      refine SOps.appendAcc [] [] sliceB_43_3_1 elemB_3_1_8 rfl rfl rfl SrcD.isl (by simp) (by first | (simp [lenB] <;> (first | omega | (simp only [lenB]; omega))) | (simp only [lenB]; (first | omega | (simp only [lenB]; omega)))) (by first | (simp <;> (first | omega | (simp only [lenB]; omega))) | (first | omega | (simp only [lenB]; omega))) (fun b0 => ?_)
                      refine SOps.assign rfl ?_
                      refine SOps.nil ?_
                      show SCode _ _ _ _
                      refine SCode.region ?_
                      refine SOps.move rfl ?_
                      refine SOps.addI rfl rfl (by first | omega | (simp only [lenB]; omega)) (by first | omega | (simp only [lenB]; omega)) ?_
                      refine SOps.assign rfl ?_
                      refine SOps.nil ?_
                      first
                        | exact ⟨i + 1, out ++ [i], b0, ⟨by omega, by rw [filter_succ, if_pos (by simp_all [siteB]), ho]⟩, by omega, St.Le.of ⟨rfl, rfl, rfl, (by show some _ = some _; rw [List.map_append]; rfl), rfl, trivial⟩ rfl (by rw [List.map_append]; rfl)⟩
                        | exact ⟨i + 1, out ++ [i], b1, ⟨by omega, by rw [filter_succ, if_pos (by simp_all [siteB]), ho]⟩, by omega, St.Le.of ⟨rfl, rfl, rfl, (by show some _ = some _; rw [List.map_append]; rfl), rfl, trivial⟩ rfl (by rw [List.map_append]; rfl)⟩
                        | exact ⟨i + 1, out, k, ⟨by omega, by rw [filter_succ, if_neg (by simp_all [siteB]), ho, List.append_nil]⟩, by omega, St.Le.of ⟨rfl, rfl, rfl, rfl, rfl, trivial⟩⟩
                    · try simp only [nmL] at hc6
                      refine SCode.skip ?_
                      show SCode _ _ _ _
                      refine SCode.region ?_
                      refine SOps.move rfl ?_
                      refine SOps.addI rfl rfl (by first | omega | (simp only [lenB]; omega)) (by first | omega | (simp only [lenB]; omega)) ?_
                      refine SOps.assign rfl ?_
                      refine SOps.nil ?_
                      first
                        | exact ⟨i + 1, out ++ [i], b0, ⟨by omega, by rw [filter_succ, if_pos (by simp_all [siteB]), ho]⟩, by omega, St.Le.of ⟨rfl, rfl, rfl, (by show some _ = some _; rw [List.map_append]; rfl), rfl, trivial⟩ rfl (by rw [List.map_append]; rfl)⟩
                        | exact ⟨i + 1, out ++ [i], b1, ⟨by omega, by rw [filter_succ, if_pos (by simp_all [siteB]), ho]⟩, by omega, St.Le.of ⟨rfl, rfl, rfl, (by show some _ = some _; rw [List.map_append]; rfl), rfl, trivial⟩ rfl (by rw [List.map_append]; rfl)⟩
                        | exact ⟨i + 1, out, k, ⟨by omega, by rw [filter_succ, if_neg (by simp_all [siteB]), ho, List.append_nil]⟩, by omega, St.Le.of ⟨rfl, rfl, rfl, rfl, rfl, trivial⟩⟩
        · try simp only [nmL] at hc4
          refine SCode.skip ?_
          show SCode _ _ _ _
          refine SCode.seq ?_
          have hz1 := encs_take_size (runes s) i hw40
          have hz2 := encs_drop_size (runes s) (i) hw40
          rcases hq3 : followsR a r (encs ((runes s).take i)) with _ | _
          · refine SCode.drawPure mixed_ [(48, DLs a), (49, .agg (encR r)), (50, DRunes (runes s)), (51, .v (.int .i64 (i : Int))), (52, DRunes ((runes s).take i)), (53, .v (.string (encs ((runes s).take i)))), (54, .v (.bool false)), (55, .v (.bool false)), (56, .v (.tuple #[])), (57, .v (.tuple #[])), (58, .v (.tuple #[])), (59, .v (.tuple #[])), (60, .v (.tuple #[])), (61, .v (.tuple #[])), (62, .v (.tuple #[])), (63, .v (.bool false))] [48, 49, 50, 51, 52, 53, 54, 55, 56, 57, 58, 59, 60, 61, 62, 63] [[.inr 0], [.inr 4], [.inr 7], [.inr 9], [.inl 2, .inl 3], [.inl 4], [.inl 0, .inl 1, .inl 5], [.inl 6], [.inl 7], [.inl 7], [.inl 7], [.inl 7], [.inl 7], [.inl 7], [.inl 7], [.inl 7, .inl 14]] [[(0, DLs a)], [(4, .ipin (encR r))], [(7, DRunes (runes s))], [(9, .v (.int .i64 (i : Int)))], [(50, DRunes (runes s)), (51, .v (.int .i64 (i : Int)))], [(52, DRunes ((runes s).take i))], [(48, DLs a), (49, .agg (encR r)), (53, .v (.string (encs ((runes s).take i))))], [(54, .v (.bool false))], [(55, .v (.bool false))], [(55, .v (.bool false))], [(55, .v (.bool false))], [(55, .v (.bool false))], [(55, .v (.bool false))], [(55, .v (.bool false))], [(55, .v (.bool false))], [(55, .v (.bool false)), (62, .v (.tuple #[]))]] rfl (by kernel_rfl) (by kernel_rfl) rfl ?_ ?_
            · refine OpsOk.cons (fun rest => ?_) ?_
              · refine SOps.move rfl ?_
                exact SOps.nil (by first | rfl | simp_all)
              refine OpsOk.cons (fun rest => ?_) ?_
              · refine SOps.loadPinA rfl aggB_47_6 (Nat.le_of_ble_eq_true rfl) ?_
                exact SOps.nil (by first | rfl | simp_all)
              refine OpsOk.cons (fun rest => ?_) ?_
              · refine SOps.move rfl ?_
                exact SOps.nil (by first | rfl | simp_all)
              refine OpsOk.cons (fun rest => ?_) ?_
              · refine SOps.move rfl ?_
                exact SOps.nil (by first | rfl | simp_all)
              refine OpsOk.cons (fun rest => ?_) ?_
              · refine SOps.sliceT (n1 := 0) (i) sliceB_84_21_1 rfl rfl (by first | omega | (simp only [lenB]; omega)) (by first | omega | (simp only [lenB]; omega)) ?_
                exact SOps.nil (by first | rfl | simp_all)
              refine OpsOk.cons (fun rest => ?_) ?_
              · refine SOps.convRunesStr rfl sliceB_84_21_1 intB_21_i32 strB_9 (by simp [lenB] <;> (first | omega | (simp only [lenB]; omega))) ?_
                exact SOps.nil (by first | rfl | simp_all)
              refine OpsOk.cons (fun rest => ?_) ?_
              · refine SOps.callP (rFollows hV _ _ _ hr hz1) rfl ?_
                rintro _ rfl
                exact SOps.nil (by exact congrArg (fun b => St.put _ _ (.v (.bool b))) hq3)
              refine OpsOk.cons (fun rest => ?_) ?_
              · refine SOps.move rfl ?_
                exact SOps.nil (by first | rfl | simp_all)
              refine OpsOk.cons (fun rest => ?_) ?_
              · refine SOps.skip rfl ?_
                exact SOps.nil (by first | rfl | simp_all)
              refine OpsOk.cons (fun rest => ?_) ?_
              · refine SOps.skip rfl ?_
                exact SOps.nil (by first | rfl | simp_all)
              refine OpsOk.cons (fun rest => ?_) ?_
              · refine SOps.skip rfl ?_
                exact SOps.nil (by first | rfl | simp_all)
              refine OpsOk.cons (fun rest => ?_) ?_
              · refine SOps.skip rfl ?_
                exact SOps.nil (by first | rfl | simp_all)
              refine OpsOk.cons (fun rest => ?_) ?_
              · refine SOps.skip rfl ?_
                exact SOps.nil (by first | rfl | simp_all)
              refine OpsOk.cons (fun rest => ?_) ?_
              · refine SOps.skip rfl ?_
                exact SOps.nil (by first | rfl | simp_all)
              refine OpsOk.cons (fun rest => ?_) ?_
              · refine SOps.skip rfl ?_
                exact SOps.nil (by first | rfl | simp_all)
              refine OpsOk.cons (fun rest => ?_) ?_
              · refine SOps.pick rfl rfl ?_
                exact SOps.nil (by first | rfl | simp_all)
              exact OpsOk.nil
            · show SCode _ _ _ _
              refine SCode.cond rfl (fun h => by cases h) (fun _ => ?_)
              refine SCode.skip ?_
              show SCode _ _ _ _
              refine SCode.region ?_
              refine SOps.move rfl ?_
              refine SOps.addI rfl rfl (by first | omega | (simp only [lenB]; omega)) (by first | omega | (simp only [lenB]; omega)) ?_
              refine SOps.assign rfl ?_
              refine SOps.nil ?_
              first
                | exact ⟨i + 1, out ++ [i], b0, ⟨by omega, by rw [filter_succ, if_pos (by simp_all [siteB]), ho]⟩, by omega, St.Le.of ⟨rfl, rfl, rfl, (by show some _ = some _; rw [List.map_append]; rfl), rfl, trivial⟩ rfl (by rw [List.map_append]; rfl)⟩
                | exact ⟨i + 1, out ++ [i], b1, ⟨by omega, by rw [filter_succ, if_pos (by simp_all [siteB]), ho]⟩, by omega, St.Le.of ⟨rfl, rfl, rfl, (by show some _ = some _; rw [List.map_append]; rfl), rfl, trivial⟩ rfl (by rw [List.map_append]; rfl)⟩
                | exact ⟨i + 1, out, k, ⟨by omega, by rw [filter_succ, if_neg (by simp_all [siteB]), ho, List.append_nil]⟩, by omega, St.Le.of ⟨rfl, rfl, rfl, rfl, rfl, trivial⟩⟩
          · refine SCode.drawPure mixed_ [(48, DLs a), (49, .agg (encR r)), (50, DRunes (runes s)), (51, .v (.int .i64 (i : Int))), (52, DRunes ((runes s).take i)), (53, .v (.string (encs ((runes s).take i)))), (54, .v (.bool true)), (55, .v (.bool true)), (56, DLs a), (57, .agg (encR r)), (58, DRunes (runes s)), (59, .v (.int .i64 (i : Int))), (60, DRunes ((runes s).drop (i))), (61, .v (.string (encs ((runes s).drop (i))))), (62, .v (.bool (precedesR a r (encs ((runes s).drop (i)))))), (63, .v (.bool (precedesR a r (encs ((runes s).drop (i))))))] [48, 49, 50, 51, 52, 53, 54, 55, 56, 57, 58, 59, 60, 61, 62, 63] [[.inr 0], [.inr 4], [.inr 7], [.inr 9], [.inl 2, .inl 3], [.inl 4], [.inl 0, .inl 1, .inl 5], [.inl 6], [.inl 7, .inr 0], [.inl 7, .inr 4], [.inl 7, .inr 7], [.inl 7, .inr 10], [.inl 7, .inl 10, .inl 11], [.inl 7, .inl 12], [.inl 7, .inl 8, .inl 9, .inl 13], [.inl 7, .inl 14]] [[(0, DLs a)], [(4, .ipin (encR r))], [(7, DRunes (runes s))], [(9, .v (.int .i64 (i : Int)))], [(50, DRunes (runes s)), (51, .v (.int .i64 (i : Int)))], [(52, DRunes ((runes s).take i))], [(48, DLs a), (49, .agg (encR r)), (53, .v (.string (encs ((runes s).take i))))], [(54, .v (.bool true))], [(55, .v (.bool true)), (0, DLs a)], [(55, .v (.bool true)), (4, .ipin (encR r))], [(55, .v (.bool true)), (7, DRunes (runes s))], [(55, .v (.bool true)), (10, .v (.int .i64 (i : Int)))], [(55, .v (.bool true)), (58, DRunes (runes s)), (59, .v (.int .i64 (i : Int)))], [(55, .v (.bool true)), (60, DRunes ((runes s).drop (i)))], [(55, .v (.bool true)), (56, DLs a), (57, .agg (encR r)), (61, .v (.string (encs ((runes s).drop (i)))))], [(55, .v (.bool true)), (62, .v (.bool (precedesR a r (encs ((runes s).drop (i))))))]] rfl (by kernel_rfl) (by kernel_rfl) rfl ?_ ?_
            · refine OpsOk.cons (fun rest => ?_) ?_
              · refine SOps.move rfl ?_
                exact SOps.nil (by first | rfl | simp_all)
              refine OpsOk.cons (fun rest => ?_) ?_
              · refine SOps.loadPinA rfl aggB_47_6 (Nat.le_of_ble_eq_true rfl) ?_
                exact SOps.nil (by first | rfl | simp_all)
              refine OpsOk.cons (fun rest => ?_) ?_
              · refine SOps.move rfl ?_
                exact SOps.nil (by first | rfl | simp_all)
              refine OpsOk.cons (fun rest => ?_) ?_
              · refine SOps.move rfl ?_
                exact SOps.nil (by first | rfl | simp_all)
              refine OpsOk.cons (fun rest => ?_) ?_
              · refine SOps.sliceT (n1 := 0) (i) sliceB_84_21_1 rfl rfl (by first | omega | (simp only [lenB]; omega)) (by first | omega | (simp only [lenB]; omega)) ?_
                exact SOps.nil (by first | rfl | simp_all)
              refine OpsOk.cons (fun rest => ?_) ?_
              · refine SOps.convRunesStr rfl sliceB_84_21_1 intB_21_i32 strB_9 (by simp [lenB] <;> (first | omega | (simp only [lenB]; omega))) ?_
                exact SOps.nil (by first | rfl | simp_all)
              refine OpsOk.cons (fun rest => ?_) ?_
              · refine SOps.callP (rFollows hV _ _ _ hr hz1) rfl ?_
                rintro _ rfl
                exact SOps.nil (by exact congrArg (fun b => St.put _ _ (.v (.bool b))) hq3)
              refine OpsOk.cons (fun rest => ?_) ?_
              · refine SOps.move rfl ?_
                exact SOps.nil (by first | rfl | simp_all)
              refine OpsOk.cons (fun rest => ?_) ?_
              · refine SOps.move rfl ?_
                exact SOps.nil (by first | rfl | simp_all)
              refine OpsOk.cons (fun rest => ?_) ?_
              · refine SOps.loadPinA rfl aggB_47_6 (Nat.le_of_ble_eq_true rfl) ?_
                exact SOps.nil (by first | rfl | simp_all)
              refine OpsOk.cons (fun rest => ?_) ?_
              · refine SOps.move rfl ?_
                exact SOps.nil (by first | rfl | simp_all)
              refine OpsOk.cons (fun rest => ?_) ?_
              · refine SOps.move rfl ?_
                exact SOps.nil (by first | rfl | simp_all)
              refine OpsOk.cons (fun rest => ?_) ?_
              · refine SOps.sliceD (n1 := 0) (i) sliceB_84_21_1 rfl rfl (by first | omega | (simp only [lenB]; omega)) (by first | omega | (simp only [lenB]; omega)) ?_
                exact SOps.nil (by first | rfl | simp_all)
              refine OpsOk.cons (fun rest => ?_) ?_
              · refine SOps.convRunesStr rfl sliceB_84_21_1 intB_21_i32 strB_9 (by simp [lenB] <;> (first | omega | (simp only [lenB]; omega))) ?_
                exact SOps.nil (by first | rfl | simp_all)
              refine OpsOk.cons (fun rest => ?_) ?_
              · refine SOps.callP (rPrecedes hV _ _ _ hr hz2) rfl ?_
                rintro _ rfl
                exact SOps.nil (by first | rfl | simp_all)
              refine OpsOk.cons (fun rest => ?_) ?_
              · refine SOps.pick rfl rfl ?_
                exact SOps.nil (by first | rfl | simp_all)
              exact OpsOk.nil
            · show SCode _ _ _ _
              refine SCode.cond rfl (fun hc7 => ?_) (fun hc7 => ?_)
              · try simp only [nmL] at hc7
                refine SCode.region ?_
                refine SOps.move rfl ?_
                refine SOps.move rfl ?_
                refine SOps.litF rfl sliceB_43_3_1 zeroIs_3 rfl ?_
                refine SOps.appendAcc [] [] sliceB_43_3_1 elemB_3_1_8 rfl rfl rfl SrcD.isl (by simp) (by first | (simp [lenB] <;> (first | omega | (simp only [lenB]; omega))) | (simp only [lenB]; (first | omega | (simp only [lenB]; omega)))) (by first | (simp <;> (first | omega | (simp only [lenB]; omega))) | (first | omega | (simp only [lenB]; omega))) (fun b1 => ?_)
                refine SOps.assign rfl ?_
                refine SOps.nil ?_
                show SCode _ _ _ _
                refine SCode.region ?_
                refine SOps.move rfl ?_
                refine SOps.addI rfl rfl (by first | omega | (simp only [lenB]; omega)) (by first | omega | (simp only [lenB]; omega)) ?_
                refine SOps.assign rfl ?_
                refine SOps.nil ?_
                first
                  | exact ⟨i + 1, out ++ [i], b0, ⟨by omega, by rw [filter_succ, if_pos (by simp_all [siteB]), ho]⟩, by omega, St.Le.of ⟨rfl, rfl, rfl, (by show some _ = some _; rw [List.map_append]; rfl), rfl, trivial⟩ rfl (by rw [List.map_append]; rfl)⟩
                  | exact ⟨i + 1, out ++ [i], b1, ⟨by omega, by rw [filter_succ, if_pos (by simp_all [siteB]), ho]⟩, by omega, St.Le.of ⟨rfl, rfl, rfl, (by show some _ = some _; rw [List.map_append]; rfl), rfl, trivial⟩ rfl (by rw [List.map_append]; rfl)⟩
                  | exact ⟨i + 1, out, k, ⟨by omega, by rw [filter_succ, if_neg (by simp_all [siteB]), ho, List.append_nil]⟩, by omega, St.Le.of ⟨rfl, rfl, rfl, rfl, rfl, trivial⟩⟩
              · try simp only [nmL] at hc7
                refine SCode.skip ?_
                show SCode _ _ _ _
                refine SCode.region ?_
                refine SOps.move rfl ?_
                refine SOps.addI rfl rfl (by first | omega | (simp only [lenB]; omega)) (by first | omega | (simp only [lenB]; omega)) ?_
                refine SOps.assign rfl ?_
                refine SOps.nil ?_
                first
                  | exact ⟨i + 1, out ++ [i], b0, ⟨by omega, by rw [filter_succ, if_pos (by simp_all [siteB]), ho]⟩, by omega, St.Le.of ⟨rfl, rfl, rfl, (by show some _ = some _; rw [List.map_append]; rfl), rfl, trivial⟩ rfl (by rw [List.map_append]; rfl)⟩
                  | exact ⟨i + 1, out ++ [i], b1, ⟨by omega, by rw [filter_succ, if_pos (by simp_all [siteB]), ho]⟩, by omega, St.Le.of ⟨rfl, rfl, rfl, (by show some _ = some _; rw [List.map_append]; rfl), rfl, trivial⟩ rfl (by rw [List.map_append]; rfl)⟩
                  | exact ⟨i + 1, out, k, ⟨by omega, by rw [filter_succ, if_neg (by simp_all [siteB]), ho, List.append_nil]⟩, by omega, St.Le.of ⟨rfl, rfl, rfl, rfl, rfl, trivial⟩⟩
      · try simp only [nmL] at hc3
        refine SCode.exit ?_
        show SCode _ _ _ _
        refine SCode.seqR ?_
        refine SOps.freezeAcc (t := 8) [] [] rfl rfl rfl ?_
        obtain rfl : i = (runes s).length + 1 := by omega
        refine SOps.move rfl ?_
        refine SOps.assign rfl ?_
        refine SOps.nil ?_
        refine SCode.ret ?_
        exact ⟨_, Res.one (.tmp rfl), by first | (rw [if_neg (by simp_all [okR])]; done) | (rw [if_pos hok, ← ho]; rfl), rfl⟩
def sitesR (a : List Letter) (r : Rule) (s : ByteArray) : List Nat := if okR a r s then sitesF (siteB a r (runes s)) (runes s) else []
theorem rSites (hV : VS E) (a : List Letter) (r : Rule) (s : ByteArray) (hr : SmR r) (hs : s.size ≤ 1048576) : GCall Tryd.prog E 97 [DLs a, .agg (encR r), .v (.string s)] [] (fun d H => d = DNats (sitesR a r s) ∧ H = []) :=
  (rSites0 hV a r s hr hs).nilI.mono (fun d H h => ⟨h.1.trans (by unfold sitesR; split <;> rfl), h.2⟩)
def sitesQ (a : List Letter) (r : Rule) (s : ByteArray) : List Nat := if okR a r s then sitesF (siteQ a r (runes s)) (runes s) else []
end Go.GH
