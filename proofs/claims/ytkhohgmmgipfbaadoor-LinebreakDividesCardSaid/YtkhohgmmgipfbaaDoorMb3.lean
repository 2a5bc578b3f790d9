/-
  Part 3 of the texts behind the walks of this claim: an own layer over the kit's wp, plain laws, and walks. No conditions.
-/
import Derived.Test.YtkhohgmmgipfbaaDoorMb2
import Derived.Lib.AppendStr
import Derived.Test.YtkhohgmmgipfbaaDoorProg
import Derived.KernelRfl
set_option linter.unusedVariables false
set_option linter.unusedSimpArgs false
set_option linter.deprecated false
namespace Go.GH
open Go Go.Proofs
variable {E : Env}
theorem aggB_43_2 : aggB Tryd.prog 43 2 = true := by kernel_rfl
theorem fieldB_43_0_0 : fieldB Tryd.prog 43 0 0 = true := by kernel_rfl
theorem fieldB_43_1_1 : fieldB Tryd.prog 43 1 1 = true := by kernel_rfl
theorem flatB_3 : flatB Tryd.prog 3 = true := by kernel_rfl
theorem flatB_41 : flatB Tryd.prog 41 = true := by kernel_rfl
theorem flatB_9 : flatB Tryd.prog 9 = true := by kernel_rfl
theorem intB_21_i32 : intB Tryd.prog 21 .i32 = true := by kernel_rfl
theorem sliceB_22_43_2 : sliceB Tryd.prog 22 43 2 = true := by kernel_rfl
theorem sliceB_41_3_1 : sliceB Tryd.prog 41 3 1 = true := by kernel_rfl
theorem sliceB_70_21_1 : sliceB Tryd.prog 70 21 1 = true := by kernel_rfl
theorem zeroIs_43 : zeroIs Tryd.prog 43 (.agg #[.string .empty, .slice none 0 0]) := by unfold zeroIs; kernel_rfl
theorem sBox (hV : VS E) (b : Bx) (hs : b.word.size ≤ 1048576) : GCall Tryd.prog E 48 [.agg (encBx b)] [] (fun d H => d = .v (.bool (boxB b)) ∧ H = []) := by
  refine GCall.body (C := ⟨Tryd.prog, E, true⟩) Tryd.func48 rfl (fun _ => rfl) (by kernel_rfl) rfl ?_
  refine SCode.seqR ?_
  refine SOps.boxAM rfl rfl ?_
  refine SOps.assign rfl ?_
  refine SOps.nil ?_
  refine SCode.seqR ?_
  refine SOps.fieldPin rfl fieldB_43_0_0 ?_
  refine SOps.loadPin rfl flatB_9 ?_
  refine SOps.callP (uRuneCount _) rfl ?_
  rintro _ rfl
  refine SOps.assign rfl ?_
  refine SOps.nil ?_
  refine SCode.seq ?_
  refine SCode.seqR ?_
  refine SOps.fieldPin rfl fieldB_43_0_0 ?_
  refine SOps.loadPin rfl flatB_9 ?_
  refine SOps.callP (sPrintable hV _ (by assumption)) rfl ?_
  rintro _ rfl
  refine SOps.un rfl rfl ?_
  refine SOps.move rfl ?_
  refine SOps.caseB 13 rfl (fun hb1 => ?_) (fun hb1 => ?_)
  · try simp only [decide_eq_true_eq, decide_eq_false_iff_not, Bool.not_eq_true', Bool.not_eq_false', beq_iff_eq, bne_iff_ne, ne_eq, beq_eq_false_iff_ne, bne_eq_false_iff_eq, Int.not_lt, Int.not_le, Nat.not_lt, Nat.not_le, Int.ofNat_lt, Int.ofNat_le, Bool.not_eq_eq_eq_not, Bool.not_true, Bool.not_false] at hb1
    refine SOps.skip rfl ?_
    refine SOps.skip rfl ?_
    refine SOps.pick rfl rfl ?_
    refine SOps.nil ?_
    refine SCode.cond rfl (fun _ => ?_) (fun h => by cases h)
    refine SCode.seqR ?_
    refine SOps.assign rfl ?_
    refine SOps.nil ?_
    refine SCode.ret ?_
    exact ⟨_, Res.one (.tmp rfl), congrArg (fun b => DV.v (.bool b)) (by first | exact Eq.symm (boxB_iff.2 ⟨by simp_all, by omega, fun j hj => hf j (by omega)⟩) | exact Eq.symm (Bool.eq_false_iff.2 (fun h => by have h9 := boxB_iff.1 h; first | omega | (simp_all; done) | (have h8 := (ptB_at hil).1 (h9.2.2 i hil); obtain ⟨h81, h82, h83⟩ := h8; first | omega | (rcases h83 with h83 | ⟨_, h83⟩ <;> omega))))), rfl⟩
  · try simp only [decide_eq_true_eq, decide_eq_false_iff_not, Bool.not_eq_true', Bool.not_eq_false', beq_iff_eq, bne_iff_ne, ne_eq, beq_eq_false_iff_ne, bne_eq_false_iff_eq, Int.not_lt, Int.not_le, Nat.not_lt, Nat.not_le, Int.ofNat_lt, Int.ofNat_le, Bool.not_eq_eq_eq_not, Bool.not_true, Bool.not_false] at hb1
    refine SOps.move rfl ?_
    refine SOps.bin rfl rfl rfl ?_
    refine SOps.pick rfl rfl ?_
    refine SOps.nil ?_
    refine SCode.cond rfl (fun hc2 => ?_) (fun hc2 => ?_)
    · try simp only [decide_eq_true_eq, decide_eq_false_iff_not, Bool.not_eq_true', Bool.not_eq_false', beq_iff_eq, bne_iff_ne, ne_eq, beq_eq_false_iff_ne, bne_eq_false_iff_eq, Int.not_lt, Int.not_le, Nat.not_lt, Nat.not_le, Int.ofNat_lt, Int.ofNat_le, Bool.not_eq_eq_eq_not, Bool.not_true, Bool.not_false] at hc2
      refine SCode.seqR ?_
      refine SOps.assign rfl ?_
      refine SOps.nil ?_
      refine SCode.ret ?_
      exact ⟨_, Res.one (.tmp rfl), congrArg (fun b => DV.v (.bool b)) (by first | exact Eq.symm (boxB_iff.2 ⟨by simp_all, by omega, fun j hj => hf j (by omega)⟩) | exact Eq.symm (Bool.eq_false_iff.2 (fun h => by have h9 := boxB_iff.1 h; first | omega | (simp_all; done) | (have h8 := (ptB_at hil).1 (h9.2.2 i hil); obtain ⟨h81, h82, h83⟩ := h8; first | omega | (rcases h83 with h83 | ⟨_, h83⟩ <;> omega))))), rfl⟩
    · try simp only [decide_eq_true_eq, decide_eq_false_iff_not, Bool.not_eq_true', Bool.not_eq_false', beq_iff_eq, bne_iff_ne, ne_eq, beq_eq_false_iff_ne, bne_eq_false_iff_eq, Int.not_lt, Int.not_le, Nat.not_lt, Nat.not_le, Int.ofNat_lt, Int.ofNat_le, Bool.not_eq_eq_eq_not, Bool.not_true, Bool.not_false] at hc2
      refine SCode.skip ?_
      show SCode _ _ _ _
      refine SCode.seq ?_
      refine SCode.seqR ?_
      refine SOps.fieldPin rfl fieldB_43_1_1 ?_
      refine SOps.loadPin rfl flatB_41 ?_
      refine SOps.lenM rfl sliceB_41_3_1 ?_
      refine SOps.move rfl ?_
      refine SOps.nil ?_
      refine SCode.block ?_
      refine SCode.loop1 (fun (i : Nat) => (⟨47, [(1, .ipin (encBx b)), (3, .v (.int .i64 (((wlen b.word) : Nat) : Int))), (18, DInts b.pts), (19, .v (.int .i64 (b.pts.length : Int))), (20, .v (.int .i64 (i : Int)))], []⟩ : St)) (fun (i : Nat) => i ≤ b.pts.length ∧ ∀ j, j < i → ptB (wlen b.word) b.pts j = true) (fun (i : Nat) => b.pts.length - i) (0) (by exact ⟨Nat.zero_le _, fun j hj => absurd hj (Nat.not_lt_zero _)⟩) (St.Le.of ⟨(by first | rfl | (show some _ = some _; simp)), (by first | rfl | (show some _ = some _; simp)), (by first | rfl | (show some _ = some _; simp)), (by first | rfl | (show some _ = some _; simp)), (by first | rfl | (show some _ = some _; simp)), trivial⟩ rfl (by first | rfl | (simp))) ?_
      rintro i ⟨hi, hf⟩
      refine SCode.fact (isl_len (t := 18) rfl) (fun hB => ?_)
      simp only [List.length_map, lenB] at hB
      refine SCode.seqR ?_
      refine SOps.bin rfl rfl rfl ?_
      refine SOps.nil ?_
      refine SCode.seq ?_
      refine SCode.cond rfl (fun hc3 => ?_) (fun hc3 => ?_)
      · try simp only [decide_eq_true_eq, decide_eq_false_iff_not, Bool.not_eq_true', Bool.not_eq_false', beq_iff_eq, bne_iff_ne, ne_eq, beq_eq_false_iff_ne, bne_eq_false_iff_eq, Int.not_lt, Int.not_le, Nat.not_lt, Nat.not_le, Int.ofNat_lt, Int.ofNat_le, Bool.not_eq_eq_eq_not, Bool.not_true, Bool.not_false] at hc3
        refine SCode.skip ?_
        show SCode _ _ _ _
        refine SCode.seq ?_
        refine SCode.block ?_
        refine SCode.seqR ?_
        have hil : i < b.pts.length := by omega
        refine SOps.move rfl ?_
        refine SOps.indexM (i) rfl rfl sliceB_41_3_1 (by first | omega | (simp only [lenB] <;> omega)) (by first | omega | (simp only [lenB] <;> omega)) ?_
        refine SOps.loadPin rfl flatB_3 ?_
        refine SOps.assign rfl ?_
        refine SOps.assign rfl ?_
        refine SOps.nil ?_
        refine SCode.seqR ?_
        refine SOps.move rfl ?_
        refine SOps.bin rfl rfl rfl ?_
        refine SOps.move rfl ?_
        refine SOps.caseB 27 rfl (fun hb4 => ?_) (fun hb4 => ?_)
        · try simp only [decide_eq_true_eq, decide_eq_false_iff_not, Bool.not_eq_true', Bool.not_eq_false', beq_iff_eq, bne_iff_ne, ne_eq, beq_eq_false_iff_ne, bne_eq_false_iff_eq, Int.not_lt, Int.not_le, Nat.not_lt, Nat.not_le, Int.ofNat_lt, Int.ofNat_le, Bool.not_eq_eq_eq_not, Bool.not_true, Bool.not_false] at hb4
          refine SOps.skip rfl ?_
          refine SOps.skip rfl ?_
          refine SOps.skip rfl ?_
          refine SOps.pick rfl rfl ?_
          refine SOps.move rfl ?_
          refine SOps.skip rfl ?_
          refine SOps.skip rfl ?_
          refine SOps.skip rfl ?_
          refine SOps.skip rfl ?_
          refine SOps.skip rfl ?_
          refine SOps.skip rfl ?_
          refine SOps.skip rfl ?_
          refine SOps.skip rfl ?_
          refine SOps.skip rfl ?_
          refine SOps.skip rfl ?_
          refine SOps.skip rfl ?_
          refine SOps.skip rfl ?_
          refine SOps.pick rfl rfl ?_
          refine SOps.nil ?_
          refine SCode.cond rfl (fun _ => ?_) (fun h => by cases h)
          refine SCode.seqR ?_
          refine SOps.assign rfl ?_
          refine SOps.nil ?_
          refine SCode.ret ?_
          exact ⟨_, Res.one (.tmp rfl), congrArg (fun b => DV.v (.bool b)) (by first | exact Eq.symm (boxB_iff.2 ⟨by simp_all, by omega, fun j hj => hf j (by omega)⟩) | exact Eq.symm (Bool.eq_false_iff.2 (fun h => by have h9 := boxB_iff.1 h; first | omega | (simp_all; done) | (have h8 := (ptB_at hil).1 (h9.2.2 i hil); obtain ⟨h81, h82, h83⟩ := h8; first | omega | (rcases h83 with h83 | ⟨_, h83⟩ <;> omega))))), rfl⟩
        · try simp only [decide_eq_true_eq, decide_eq_false_iff_not, Bool.not_eq_true', Bool.not_eq_false', beq_iff_eq, bne_iff_ne, ne_eq, beq_eq_false_iff_ne, bne_eq_false_iff_eq, Int.not_lt, Int.not_le, Nat.not_lt, Nat.not_le, Int.ofNat_lt, Int.ofNat_le, Bool.not_eq_eq_eq_not, Bool.not_true, Bool.not_false] at hb4
          refine SOps.move rfl ?_
          refine SOps.move rfl ?_
          refine SOps.bin rfl rfl rfl ?_
          refine SOps.pick rfl rfl ?_
          refine SOps.move rfl ?_
          refine SOps.caseB 32 rfl (fun hb5 => ?_) (fun hb5 => ?_)
          · try simp only [decide_eq_true_eq, decide_eq_false_iff_not, Bool.not_eq_true', Bool.not_eq_false', beq_iff_eq, bne_iff_ne, ne_eq, beq_eq_false_iff_ne, bne_eq_false_iff_eq, Int.not_lt, Int.not_le, Nat.not_lt, Nat.not_le, Int.ofNat_lt, Int.ofNat_le, Bool.not_eq_eq_eq_not, Bool.not_true, Bool.not_false] at hb5
            refine SOps.skip rfl ?_
            refine SOps.skip rfl ?_
            refine SOps.skip rfl ?_
            refine SOps.skip rfl ?_
            refine SOps.skip rfl ?_
            refine SOps.skip rfl ?_
            refine SOps.skip rfl ?_
            refine SOps.skip rfl ?_
            refine SOps.skip rfl ?_
            refine SOps.skip rfl ?_
            refine SOps.skip rfl ?_
            refine SOps.skip rfl ?_
            refine SOps.pick rfl rfl ?_
            refine SOps.nil ?_
            refine SCode.cond rfl (fun _ => ?_) (fun h => by cases h)
            refine SCode.seqR ?_
            refine SOps.assign rfl ?_
            refine SOps.nil ?_
            refine SCode.ret ?_
            exact ⟨_, Res.one (.tmp rfl), congrArg (fun b => DV.v (.bool b)) (by first | exact Eq.symm (boxB_iff.2 ⟨by simp_all, by omega, fun j hj => hf j (by omega)⟩) | exact Eq.symm (Bool.eq_false_iff.2 (fun h => by have h9 := boxB_iff.1 h; first | omega | (simp_all; done) | (have h8 := (ptB_at hil).1 (h9.2.2 i hil); obtain ⟨h81, h82, h83⟩ := h8; first | omega | (rcases h83 with h83 | ⟨_, h83⟩ <;> omega))))), rfl⟩
          · try simp only [decide_eq_true_eq, decide_eq_false_iff_not, Bool.not_eq_true', Bool.not_eq_false', beq_iff_eq, bne_iff_ne, ne_eq, beq_eq_false_iff_ne, bne_eq_false_iff_eq, Int.not_lt, Int.not_le, Nat.not_lt, Nat.not_le, Int.ofNat_lt, Int.ofNat_le, Bool.not_eq_eq_eq_not, Bool.not_true, Bool.not_false] at hb5
            refine SOps.move rfl ?_
            refine SOps.bin rfl rfl rfl ?_
            refine SOps.move rfl ?_
            refine SOps.caseB 35 rfl (fun hb6 => ?_) (fun hb6 => ?_)
            · try simp only [decide_eq_true_eq, decide_eq_false_iff_not, Bool.not_eq_true', Bool.not_eq_false', beq_iff_eq, bne_iff_ne, ne_eq, beq_eq_false_iff_ne, bne_eq_false_iff_eq, Int.not_lt, Int.not_le, Nat.not_lt, Nat.not_le, Int.ofNat_lt, Int.ofNat_le, Bool.not_eq_eq_eq_not, Bool.not_true, Bool.not_false] at hb6
              refine SOps.fieldPin rfl fieldB_43_1_1 ?_
              refine SOps.loadPin rfl flatB_41 ?_
              refine SOps.move rfl ?_
              refine SOps.subI rfl rfl (by first | omega | (simp only [lenB] <;> omega)) (by first | omega | (simp only [lenB] <;> omega)) ?_
              refine SOps.indexM ((i - 1)) rfl rfl sliceB_41_3_1 (by first | omega | (simp only [lenB] <;> omega)) (by first | omega | (simp only [lenB] <;> omega)) ?_
              refine SOps.loadPin rfl flatB_3 ?_
              refine SOps.move rfl ?_
              refine SOps.bin rfl rfl rfl ?_
              refine SOps.pick rfl rfl ?_
              refine SOps.pick rfl rfl ?_
              refine SOps.nil ?_
              refine SCode.cond rfl (fun hc7 => ?_) (fun hc7 => ?_)
              · try simp only [decide_eq_true_eq, decide_eq_false_iff_not, Bool.not_eq_true', Bool.not_eq_false', beq_iff_eq, bne_iff_ne, ne_eq, beq_eq_false_iff_ne, bne_eq_false_iff_eq, Int.not_lt, Int.not_le, Nat.not_lt, Nat.not_le, Int.ofNat_lt, Int.ofNat_le, Bool.not_eq_eq_eq_not, Bool.not_true, Bool.not_false] at hc7
                refine SCode.seqR ?_
                refine SOps.assign rfl ?_
                refine SOps.nil ?_
                refine SCode.ret ?_
                exact ⟨_, Res.one (.tmp rfl), congrArg (fun b => DV.v (.bool b)) (by first | exact Eq.symm (boxB_iff.2 ⟨by simp_all, by omega, fun j hj => hf j (by omega)⟩) | exact Eq.symm (Bool.eq_false_iff.2 (fun h => by have h9 := boxB_iff.1 h; first | omega | (simp_all; done) | (have h8 := (ptB_at hil).1 (h9.2.2 i hil); obtain ⟨h81, h82, h83⟩ := h8; first | omega | (rcases h83 with h83 | ⟨_, h83⟩ <;> omega))))), rfl⟩
              · try simp only [decide_eq_true_eq, decide_eq_false_iff_not, Bool.not_eq_true', Bool.not_eq_false', beq_iff_eq, bne_iff_ne, ne_eq, beq_eq_false_iff_ne, bne_eq_false_iff_eq, Int.not_lt, Int.not_le, Nat.not_lt, Nat.not_le, Int.ofNat_lt, Int.ofNat_le, Bool.not_eq_eq_eq_not, Bool.not_true, Bool.not_false] at hc7
                refine SCode.skip ?_
                show SCode _ _ _ _
                refine SCode.region ?_
                refine SOps.addI rfl rfl (by first | omega | (simp only [lenB] <;> omega)) (by first | omega | (simp only [lenB] <;> omega)) ?_
                refine SOps.move rfl ?_
                refine SOps.nil ?_
                exact ⟨i + 1, ⟨by omega, pts_step hf hil (by omega) (by omega) (by first | (left; omega) | (right; exact ⟨by omega, by omega⟩))⟩, by omega, St.Le.of ⟨rfl, rfl, rfl, rfl, rfl, trivial⟩⟩
            · try simp only [decide_eq_true_eq, decide_eq_false_iff_not, Bool.not_eq_true', Bool.not_eq_false', beq_iff_eq, bne_iff_ne, ne_eq, beq_eq_false_iff_ne, bne_eq_false_iff_eq, Int.not_lt, Int.not_le, Nat.not_lt, Nat.not_le, Int.ofNat_lt, Int.ofNat_le, Bool.not_eq_eq_eq_not, Bool.not_true, Bool.not_false] at hb6
              refine SOps.skip rfl ?_
              refine SOps.skip rfl ?_
              refine SOps.skip rfl ?_
              refine SOps.skip rfl ?_
              refine SOps.skip rfl ?_
              refine SOps.skip rfl ?_
              refine SOps.skip rfl ?_
              refine SOps.skip rfl ?_
              refine SOps.pick rfl rfl ?_
              refine SOps.pick rfl rfl ?_
              refine SOps.nil ?_
              refine SCode.cond rfl (fun h => by cases h) (fun _ => ?_)
              refine SCode.skip ?_
              show SCode _ _ _ _
              refine SCode.region ?_
              refine SOps.addI rfl rfl (by first | omega | (simp only [lenB] <;> omega)) (by first | omega | (simp only [lenB] <;> omega)) ?_
              refine SOps.move rfl ?_
              refine SOps.nil ?_
              exact ⟨i + 1, ⟨by omega, pts_step hf hil (by omega) (by omega) (by first | (left; omega) | (right; exact ⟨by omega, by omega⟩))⟩, by omega, St.Le.of ⟨rfl, rfl, rfl, rfl, rfl, trivial⟩⟩
      · try simp only [decide_eq_true_eq, decide_eq_false_iff_not, Bool.not_eq_true', Bool.not_eq_false', beq_iff_eq, bne_iff_ne, ne_eq, beq_eq_false_iff_ne, bne_eq_false_iff_eq, Int.not_lt, Int.not_le, Nat.not_lt, Nat.not_le, Int.ofNat_lt, Int.ofNat_le, Bool.not_eq_eq_eq_not, Bool.not_true, Bool.not_false] at hc3
        refine SCode.exit ?_
        show SCode _ _ _ _
        refine SCode.seqR ?_
        refine SOps.assign rfl ?_
        refine SOps.nil ?_
        refine SCode.ret ?_
        exact ⟨_, Res.one (.tmp rfl), congrArg (fun b => DV.v (.bool b)) (by first | exact Eq.symm (boxB_iff.2 ⟨by simp_all, by omega, fun j hj => hf j (by omega)⟩) | exact Eq.symm (Bool.eq_false_iff.2 (fun h => by have h9 := boxB_iff.1 h; first | omega | (simp_all; done) | (have h8 := (ptB_at hil).1 (h9.2.2 i hil); obtain ⟨h81, h82, h83⟩ := h8; first | omega | (rcases h83 with h83 | ⟨_, h83⟩ <;> omega))))), rfl⟩
theorem sValid1 (hV : VS E) (b : Bx) (hs : b.word.size ≤ 1048576) : GCall Tryd.prog E 47 [.agg (encBx b)] [] (fun d H => d = .v (.bool (!boxB b)) ∧ H = []) := by
  refine GCall.body (C := ⟨Tryd.prog, E, true⟩) Tryd.func47 rfl (fun _ => rfl) (by kernel_rfl) rfl ?_
  refine SCode.seqR ?_
  refine SOps.boxAM rfl rfl ?_
  refine SOps.assign rfl ?_
  refine SOps.nil ?_
  refine SCode.seqR ?_
  refine SOps.loadPinA rfl aggB_43_2 (Nat.le_of_ble_eq_true rfl) ?_
  refine SOps.callP (sBox hV _ (by assumption)) rfl ?_
  rintro _ rfl
  refine SOps.un rfl rfl ?_
  refine SOps.assign rfl ?_
  refine SOps.nil ?_
  refine SCode.ret ?_
  exact ⟨_, Res.one (.tmp rfl), rfl, rfl⟩
theorem lIndexFuncB {f : FuncId} {cap : List DV} (q : Bx → Bool) (l : List Bx) (hf : ∀ x ∈ l, GCall Tryd.prog E f ([.agg (encBx x)] ++ cap) [] (fun d H => d = .v (.bool (q x)) ∧ H = [])) : GCall Tryd.prog E 64 [DBxs l, .fn f cap] [] (fun d H => d = .v (.int .i64 (findI q l)) ∧ H = []) := by
  refine GCall.body (C := ⟨Tryd.prog, E, true⟩) Tryd.func64 rfl (fun _ => rfl) (by kernel_rfl) rfl ?_
  refine SCode.seqR ?_
  refine SOps.assign rfl ?_
  refine SOps.nil ?_
  refine SCode.seq ?_
  refine SCode.seqR ?_
  refine SOps.move rfl ?_
  refine SOps.lenM rfl sliceB_22_43_2 ?_
  refine SOps.move rfl ?_
  refine SOps.nil ?_
  refine SCode.block ?_
  refine SCode.loop1 (fun (i : Nat) => (⟨19, [(0, DBxs l), (1, .fn f cap), (4, .v (.int .i64 0)), (7, .v (.int .i64 (l.length : Int))), (8, .v (.int .i64 (i : Int)))], []⟩ : St)) (fun (i : Nat) => i ≤ l.length ∧ ∀ x ∈ l.take i, q x = false) (fun (i : Nat) => l.length - i) (0) (by simp) (St.Le.of ⟨(by first | rfl | (show some _ = some _; simp)), (by first | rfl | (show some _ = some _; simp)), (by first | rfl | (show some _ = some _; simp)), (by first | rfl | (show some _ = some _; simp)), (by first | rfl | (show some _ = some _; simp)), trivial⟩ rfl (by first | rfl | (simp))) ?_
  rintro i ⟨hi, hq⟩
  refine SCode.fact (isl_len (t := 0) rfl) (fun hB => ?_)
  simp only [List.length_map, lenB] at hB
  refine SCode.seqR ?_
  refine SOps.bin rfl rfl rfl ?_
  refine SOps.nil ?_
  refine SCode.seq ?_
  refine SCode.cond rfl (fun hc1 => ?_) (fun hc1 => ?_)
  · try simp only [decide_eq_true_eq, decide_eq_false_iff_not, Bool.not_eq_true', Bool.not_eq_false', beq_iff_eq, bne_iff_ne, ne_eq, beq_eq_false_iff_ne, bne_eq_false_iff_eq, Int.not_lt, Int.not_le, Nat.not_lt, Nat.not_le, Int.ofNat_lt, Int.ofNat_le, Bool.not_eq_eq_eq_not, Bool.not_true, Bool.not_false] at hc1
    refine SCode.skip ?_
    show SCode _ _ _ _
    refine SCode.seq ?_
    refine SCode.block ?_
    refine SCode.seqR ?_
    refine SOps.move rfl ?_
    refine SOps.assign rfl ?_
    refine SOps.nil ?_
    refine SCode.seqR ?_
    refine SOps.move rfl ?_
    refine SOps.move rfl ?_
    refine SOps.move rfl ?_
    refine SOps.indexM (i) rfl rfl sliceB_22_43_2 (by omega) (by omega) ?_
    refine SOps.loadPinA rfl aggB_43_2 (Nat.le_of_ble_eq_true rfl) ?_
    refine SOps.callFn (ds := [_]) rfl (hf _ (List.getElem_mem (by omega))) rfl ?_
    rintro _ _ ⟨rfl, rfl⟩
    refine SOps.nil ?_
    refine SCode.cond rfl (fun hc2 => ?_) (fun hc2 => ?_)
    · try simp only [decide_eq_true_eq, decide_eq_false_iff_not, Bool.not_eq_true', Bool.not_eq_false', beq_iff_eq, bne_iff_ne, ne_eq, beq_eq_false_iff_ne, bne_eq_false_iff_eq, Int.not_lt, Int.not_le, Nat.not_lt, Nat.not_le, Int.ofNat_lt, Int.ofNat_le, Bool.not_eq_eq_eq_not, Bool.not_true, Bool.not_false] at hc2
      refine SCode.seqR ?_
      refine SOps.move rfl ?_
      refine SOps.assign rfl ?_
      refine SOps.nil ?_
      refine SCode.ret ?_
      exact ⟨_, Res.one (.tmp rfl), by rw [findI_at hq (by omega) hc2], rfl⟩
    · try simp only [decide_eq_true_eq, decide_eq_false_iff_not, Bool.not_eq_true', Bool.not_eq_false', beq_iff_eq, bne_iff_ne, ne_eq, beq_eq_false_iff_ne, bne_eq_false_iff_eq, Int.not_lt, Int.not_le, Nat.not_lt, Nat.not_le, Int.ofNat_lt, Int.ofNat_le, Bool.not_eq_eq_eq_not, Bool.not_true, Bool.not_false] at hc2
      refine SCode.skip ?_
      show SCode _ _ _ _
      refine SCode.region ?_
      refine SOps.addI rfl rfl (by omega) (by omega) ?_
      refine SOps.move rfl ?_
      refine SOps.nil ?_
      exact ⟨i + 1, by exact ⟨by omega, take_more hq (by omega) hc2⟩, by omega, (St.Le.of ⟨(by first | rfl | (show some _ = some _; simp)), (by first | rfl | (show some _ = some _; simp)), (by first | rfl | (show some _ = some _; simp)), (by first | rfl | (show some _ = some _; simp)), (by first | rfl | (show some _ = some _; simp)), trivial⟩ rfl (by first | rfl | (simp)))⟩
  · try simp only [decide_eq_true_eq, decide_eq_false_iff_not, Bool.not_eq_true', Bool.not_eq_false', beq_iff_eq, bne_iff_ne, ne_eq, beq_eq_false_iff_ne, bne_eq_false_iff_eq, Int.not_lt, Int.not_le, Nat.not_lt, Nat.not_le, Int.ofNat_lt, Int.ofNat_le, Bool.not_eq_eq_eq_not, Bool.not_true, Bool.not_false] at hc1
    refine SCode.exit ?_
    show SCode _ _ _ _
    refine SCode.seqR ?_
    refine SOps.assign rfl ?_
    refine SOps.nil ?_
    refine SCode.ret ?_
    exact ⟨_, Res.one (.tmp rfl), by rw [findI_none (all_of (by omega) hq)], rfl⟩
theorem lContainsFuncB {f : FuncId} {cap : List DV} (q : Bx → Bool) (l : List Bx) (hf : ∀ x ∈ l, GCall Tryd.prog E f ([.agg (encBx x)] ++ cap) [] (fun d H => d = .v (.bool (q x)) ∧ H = [])) : GCall Tryd.prog E 46 [DBxs l, .fn f cap] [] (fun d H => d = .v (.bool (l.any q)) ∧ H = []) := by
  refine GCall.body (C := ⟨Tryd.prog, E, true⟩) Tryd.func46 rfl (fun _ => rfl) (by kernel_rfl) rfl ?_
  refine SCode.seqR ?_
  refine SOps.assign rfl ?_
  refine SOps.nil ?_
  refine SCode.seqR ?_
  refine SOps.move rfl ?_
  refine SOps.move rfl ?_
  refine SOps.callP (lIndexFuncB q l hf) rfl ?_
  rintro _ rfl
  refine SOps.bin rfl rfl rfl ?_
  refine SOps.assign rfl ?_
  refine SOps.nil ?_
  refine SCode.ret ?_
  exact ⟨_, Res.one (.tmp rfl), congrArg (fun b => DV.v (.bool b)) findI_nonneg, rfl⟩
theorem not_any_box (l : List Bx) : (!l.any (fun b => !boxB b)) = l.all boxB := by
  rw [Bool.eq_iff_iff]; simp
theorem sValid (hV : VS E) (l : List Bx) (w : Int) (hb : ∀ x ∈ l, x.word.size ≤ 1048576) : GCall Tryd.prog E 17 [DBxs l, .v (.int .i64 w)] [] (fun d H => d = .v (.bool (validL l w)) ∧ H = []) := by
  refine GCall.body (C := ⟨Tryd.prog, E, true⟩) Tryd.func17 rfl (fun _ => rfl) (by kernel_rfl) rfl ?_
  refine SCode.seqR ?_
  refine SOps.assign rfl ?_
  refine SOps.nil ?_
  refine SCode.seqR ?_
  refine SOps.move rfl ?_
  refine SOps.callP (wideW _) rfl ?_
  rintro _ rfl
  refine SOps.move rfl ?_
  refine SOps.caseB 7 rfl (fun hb1 => ?_) (fun hb1 => ?_)
  · try simp only [decide_eq_true_eq, decide_eq_false_iff_not, Bool.not_eq_true', Bool.not_eq_false', beq_iff_eq, bne_iff_ne, ne_eq, beq_eq_false_iff_ne, bne_eq_false_iff_eq, Int.not_lt, Int.not_le, Nat.not_lt, Nat.not_le, Int.ofNat_lt, Int.ofNat_le, Bool.not_eq_eq_eq_not, Bool.not_true, Bool.not_false] at hb1
    refine SOps.move rfl ?_
    refine SOps.lenM rfl sliceB_22_43_2 ?_
    refine SOps.bin rfl rfl rfl ?_
    refine SOps.pick rfl rfl ?_
    refine SOps.move rfl ?_
    refine SOps.caseB 12 rfl (fun hb2 => ?_) (fun hb2 => ?_)
    · try simp only [decide_eq_true_eq, decide_eq_false_iff_not, Bool.not_eq_true', Bool.not_eq_false', beq_iff_eq, bne_iff_ne, ne_eq, beq_eq_false_iff_ne, bne_eq_false_iff_eq, Int.not_lt, Int.not_le, Nat.not_lt, Nat.not_le, Int.ofNat_lt, Int.ofNat_le, Bool.not_eq_eq_eq_not, Bool.not_true, Bool.not_false] at hb2
      refine SOps.move rfl ?_
      refine SOps.callP (lContainsFuncB (fun b => !boxB b) l (fun x hx => sValid1 hV x (hb x hx))) rfl ?_
      rintro _ rfl
      refine SOps.un rfl rfl ?_
      refine SOps.pick rfl rfl ?_
      refine SOps.assign rfl ?_
      refine SOps.nil ?_
      refine SCode.ret ?_
      exact ⟨_, Res.one (.tmp rfl), congrArg (fun b => DV.v (.bool b)) (by simp only [validL, boxesB]; first | (rw [not_any_box]; simp_all; done) | (simp_all; done) | (simp_all [not_any_box]; omega)), rfl⟩
    · try simp only [decide_eq_true_eq, decide_eq_false_iff_not, Bool.not_eq_true', Bool.not_eq_false', beq_iff_eq, bne_iff_ne, ne_eq, beq_eq_false_iff_ne, bne_eq_false_iff_eq, Int.not_lt, Int.not_le, Nat.not_lt, Nat.not_le, Int.ofNat_lt, Int.ofNat_le, Bool.not_eq_eq_eq_not, Bool.not_true, Bool.not_false] at hb2
      refine SOps.skip rfl ?_
      refine SOps.skip rfl ?_
      refine SOps.skip rfl ?_
      refine SOps.pick rfl rfl ?_
      refine SOps.assign rfl ?_
      refine SOps.nil ?_
      refine SCode.ret ?_
      exact ⟨_, Res.one (.tmp rfl), congrArg (fun b => DV.v (.bool b)) (by simp only [validL, boxesB]; first | (rw [not_any_box]; simp_all; done) | (simp_all; done) | (simp_all [not_any_box]; omega)), rfl⟩
  · try simp only [decide_eq_true_eq, decide_eq_false_iff_not, Bool.not_eq_true', Bool.not_eq_false', beq_iff_eq, bne_iff_ne, ne_eq, beq_eq_false_iff_ne, bne_eq_false_iff_eq, Int.not_lt, Int.not_le, Nat.not_lt, Nat.not_le, Int.ofNat_lt, Int.ofNat_le, Bool.not_eq_eq_eq_not, Bool.not_true, Bool.not_false] at hb1
    refine SOps.skip rfl ?_
    refine SOps.skip rfl ?_
    refine SOps.skip rfl ?_
    refine SOps.pick rfl rfl ?_
    refine SOps.move rfl ?_
    refine SOps.skip rfl ?_
    refine SOps.skip rfl ?_
    refine SOps.skip rfl ?_
    refine SOps.pick rfl rfl ?_
    refine SOps.assign rfl ?_
    refine SOps.nil ?_
    refine SCode.ret ?_
    exact ⟨_, Res.one (.tmp rfl), congrArg (fun b => DV.v (.bool b)) (by simp only [validL, boxesB]; first | (rw [not_any_box]; simp_all; done) | (simp_all; done) | (simp_all [not_any_box]; omega)), rfl⟩
theorem wordB_iff {s : ByteArray} : wordB s = true ↔ s ≠ ⟨#[]⟩ ∧ utf8R s = true ∧ anySp s = false := by
  simp only [wordB, Bool.and_eq_true, decide_eq_true_eq, Bool.not_eq_true', and_assoc]
theorem qWordR (s : ByteArray) (hs : s.size ≤ 1048576) : GCall Tryd.prog E 44 [.v (.string s)] [] (fun d H => d = .v (.bool (wordB s)) ∧ H = []) := by
  refine GCall.body (C := ⟨Tryd.prog, E, true⟩) Tryd.func44 rfl (fun _ => rfl) (by kernel_rfl) rfl ?_
  refine SCode.seqR ?_
  refine SOps.assign rfl ?_
  refine SOps.nil ?_
  refine SCode.seq ?_
  refine SCode.seqR ?_
  refine SOps.move rfl ?_
  refine SOps.rangeStr rfl strB_9 (fun b0 hb_0 => ?_)
  refine SOps.nil ?_
  refine SCode.block ?_
  refine SCode.loop2 (fun (p : Nat) (b : Nat) => (⟨25, [(0, .v (.string s)), (6, .it b)], [(b, .iter s p)]⟩ : St)) (fun (p : Nat) (b : Nat) => anySp s = (runesAt s p).any isSp) (fun (p : Nat) (b : Nat) => s.size - p) (0) (b0) (by rfl) (St.Le.of ⟨(by first | rfl | (show some _ = some _; simp)), (by first | rfl | (show some _ = some _; simp)), trivial⟩ rfl (by first | rfl | (simp))) ?_
  rintro p b hf
  refine SCode.seqR ?_
  refine SOps.next 0 rfl rfl (fun hn1 => ?_) (fun hn1 => ?_) (by first | omega | (simp only [lenB] <;> omega))
  · refine SOps.extract rfl rfl ?_
    refine SOps.nil ?_
    refine SCode.seq ?_
    refine SCode.cond rfl (fun _ => ?_) (fun h => by cases h)
    refine SCode.skip ?_
    show SCode _ _ _ _
    refine SCode.block ?_
    refine SCode.seqR ?_
    refine SOps.extract rfl rfl ?_
    refine SOps.assign rfl ?_
    refine SOps.nil ?_
    refine SCode.seqR ?_
    refine SOps.move rfl ?_
    refine SOps.bin rfl rfl rfl ?_
    refine SOps.move rfl ?_
    refine SOps.caseB 12 rfl (fun hb2 => ?_) (fun hb2 => ?_)
    · try simp only [decide_eq_true_eq, decide_eq_false_iff_not, Bool.not_eq_true', Bool.not_eq_false', beq_iff_eq, bne_iff_ne, ne_eq, beq_eq_false_iff_ne, bne_eq_false_iff_eq, Int.not_lt, Int.not_le, Nat.not_lt, Nat.not_le, Int.ofNat_lt, Int.ofNat_le, Bool.not_eq_eq_eq_not, Bool.not_true, Bool.not_false] at hb2
      refine SOps.skip rfl ?_
      refine SOps.skip rfl ?_
      refine SOps.pick rfl rfl ?_
      refine SOps.nil ?_
      refine SCode.cond rfl (fun _ => ?_) (fun h => by cases h)
      refine SCode.seqR ?_
      refine SOps.assign rfl ?_
      refine SOps.nil ?_
      refine SCode.drop ?_
      refine SCode.ret ?_
      exact ⟨_, Res.one (.tmp rfl), congrArg (fun b => DV.v (.bool b)) (by first | exact Eq.symm (Bool.eq_false_iff.2 (fun h => by have h9 := (wordB_iff.1 h).2.2; rw [hf, runesAt_lt hn1, List.any_cons, show isSp ((Utf8.decode s p).1 : Int) = true from by simp only [isSp, Bool.or_eq_true, beq_iff_eq]; omega] at h9; cases h9)) | (rw [Bool.eq_iff_iff, wordB_iff, utf8R_iff]; simp_all; done)), rfl⟩
    · try simp only [decide_eq_true_eq, decide_eq_false_iff_not, Bool.not_eq_true', Bool.not_eq_false', beq_iff_eq, bne_iff_ne, ne_eq, beq_eq_false_iff_ne, bne_eq_false_iff_eq, Int.not_lt, Int.not_le, Nat.not_lt, Nat.not_le, Int.ofNat_lt, Int.ofNat_le, Bool.not_eq_eq_eq_not, Bool.not_true, Bool.not_false] at hb2
      refine SOps.move rfl ?_
      refine SOps.bin rfl rfl rfl ?_
      refine SOps.pick rfl rfl ?_
      refine SOps.nil ?_
      refine SCode.cond rfl (fun hc3 => ?_) (fun hc3 => ?_)
      · try simp only [decide_eq_true_eq, decide_eq_false_iff_not, Bool.not_eq_true', Bool.not_eq_false', beq_iff_eq, bne_iff_ne, ne_eq, beq_eq_false_iff_ne, bne_eq_false_iff_eq, Int.not_lt, Int.not_le, Nat.not_lt, Nat.not_le, Int.ofNat_lt, Int.ofNat_le, Bool.not_eq_eq_eq_not, Bool.not_true, Bool.not_false] at hc3
        refine SCode.seqR ?_
        refine SOps.assign rfl ?_
        refine SOps.nil ?_
        refine SCode.drop ?_
        refine SCode.ret ?_
        exact ⟨_, Res.one (.tmp rfl), congrArg (fun b => DV.v (.bool b)) (by first | exact Eq.symm (Bool.eq_false_iff.2 (fun h => by have h9 := (wordB_iff.1 h).2.2; rw [hf, runesAt_lt hn1, List.any_cons, show isSp ((Utf8.decode s p).1 : Int) = true from by simp only [isSp, Bool.or_eq_true, beq_iff_eq]; omega] at h9; cases h9)) | (rw [Bool.eq_iff_iff, wordB_iff, utf8R_iff]; simp_all; done)), rfl⟩
      · try simp only [decide_eq_true_eq, decide_eq_false_iff_not, Bool.not_eq_true', Bool.not_eq_false', beq_iff_eq, bne_iff_ne, ne_eq, beq_eq_false_iff_ne, bne_eq_false_iff_eq, Int.not_lt, Int.not_le, Nat.not_lt, Nat.not_le, Int.ofNat_lt, Int.ofNat_le, Bool.not_eq_eq_eq_not, Bool.not_true, Bool.not_false] at hc3
        refine SCode.skip ?_
        exact ⟨p + (Utf8.decode s p).2, b, by rw [hf, runesAt_lt hn1, List.any_cons, show isSp ((Utf8.decode s p).1 : Int) = false from by simp only [isSp, Bool.or_eq_false_iff, beq_eq_false_iff_ne]; omega]; rfl, by have := decode_w s p; omega, (St.Le.of ⟨(by first | rfl | (show some _ = some _; simp)), (by first | rfl | (show some _ = some _; simp)), trivial⟩ rfl (by first | rfl | (simp)))⟩
  · refine SOps.extract rfl rfl ?_
    refine SOps.nil ?_
    refine SCode.seq ?_
    refine SCode.cond rfl (fun h => by cases h) (fun _ => ?_)
    refine SCode.exit ?_
    show SCode _ _ _ _
    refine SCode.seqR ?_
    have hany : anySp s = false := by rw [hf, runesAt_ge (by omega)]; rfl
    have hrl := runes_len s
    refine SOps.move rfl ?_
    refine SOps.bin rfl rfl rfl ?_
    refine SOps.move rfl ?_
    refine SOps.caseB 18 rfl (fun hb4 => ?_) (fun hb4 => ?_)
    · try simp only [decide_eq_true_eq, decide_eq_false_iff_not, Bool.not_eq_true', Bool.not_eq_false', beq_iff_eq, bne_iff_ne, ne_eq, beq_eq_false_iff_ne, bne_eq_false_iff_eq, Int.not_lt, Int.not_le, Nat.not_lt, Nat.not_le, Int.ofNat_lt, Int.ofNat_le, Bool.not_eq_eq_eq_not, Bool.not_true, Bool.not_false] at hb4
      refine SOps.move rfl ?_
      refine SOps.runesF rfl rfl strB_9 sliceB_70_21_1 intB_21_i32 ?_
      refine SOps.convRunesStr rfl sliceB_70_21_1 intB_21_i32 strB_9 (by simp [lenB] <;> (first | omega | (simp only [lenB] <;> omega))) ?_
      refine SOps.move rfl ?_
      refine SOps.bin rfl rfl rfl ?_
      refine SOps.pick rfl rfl ?_
      refine SOps.assign rfl ?_
      refine SOps.nil ?_
      refine SCode.drop ?_
      refine SCode.ret ?_
      exact ⟨_, Res.one (.tmp rfl), congrArg (fun b => DV.v (.bool b)) (by first | exact Eq.symm (Bool.eq_false_iff.2 (fun h => by have h9 := (wordB_iff.1 h).2.2; rw [hf, runesAt_lt hn1, List.any_cons, show isSp ((Utf8.decode s p).1 : Int) = true from by simp only [isSp, Bool.or_eq_true, beq_iff_eq]; omega] at h9; cases h9)) | (rw [Bool.eq_iff_iff, wordB_iff, utf8R_iff]; simp_all; done)), rfl⟩
    · try simp only [decide_eq_true_eq, decide_eq_false_iff_not, Bool.not_eq_true', Bool.not_eq_false', beq_iff_eq, bne_iff_ne, ne_eq, beq_eq_false_iff_ne, bne_eq_false_iff_eq, Int.not_lt, Int.not_le, Nat.not_lt, Nat.not_le, Int.ofNat_lt, Int.ofNat_le, Bool.not_eq_eq_eq_not, Bool.not_true, Bool.not_false] at hb4
      refine SOps.skip rfl ?_
      refine SOps.skip rfl ?_
      refine SOps.skip rfl ?_
      refine SOps.skip rfl ?_
      refine SOps.skip rfl ?_
      refine SOps.pick rfl rfl ?_
      refine SOps.assign rfl ?_
      refine SOps.nil ?_
      refine SCode.drop ?_
      refine SCode.ret ?_
      exact ⟨_, Res.one (.tmp rfl), congrArg (fun b => DV.v (.bool b)) (by first | exact Eq.symm (Bool.eq_false_iff.2 (fun h => by have h9 := (wordB_iff.1 h).2.2; rw [hf, runesAt_lt hn1, List.any_cons, show isSp ((Utf8.decode s p).1 : Int) = true from by simp only [isSp, Bool.or_eq_true, beq_iff_eq]; omega] at h9; cases h9)) | (rw [Bool.eq_iff_iff, wordB_iff, utf8R_iff]; simp_all; done)), rfl⟩
theorem qBoxes (l : List Bx) (hb : ∀ x ∈ l, x.word.size ≤ 1048576) : GCall Tryd.prog E 15 [DBxs l] [] (fun d H => d = .v (.bool (boxesB l)) ∧ H = []) := by
  refine GCall.body (C := ⟨Tryd.prog, E, true⟩) Tryd.func15 rfl (fun _ => rfl) (by kernel_rfl) rfl ?_
  refine SCode.seqR ?_
  refine SOps.assign rfl ?_
  refine SOps.nil ?_
  refine SCode.seq ?_
  refine SCode.seqR ?_
  refine SOps.move rfl ?_
  refine SOps.lenM rfl sliceB_22_43_2 ?_
  refine SOps.move rfl ?_
  refine SOps.nil ?_
  refine SCode.block ?_
  refine SCode.loop1 (fun (k : Nat) => (⟨60, [(0, DBxs l), (8, DBxs l), (9, .v (.int .i64 (l.length : Int))), (10, .v (.int .i64 (k : Int)))], []⟩ : St)) (fun (k : Nat) => k ≤ l.length ∧ ∀ x ∈ l.take k, boxB x = true) (fun (k : Nat) => l.length - k) (0) (by simp) (St.Le.of ⟨(by first | rfl | (show some _ = some _; simp)), (by first | rfl | (show some _ = some _; simp)), (by first | rfl | (show some _ = some _; simp)), (by first | rfl | (show some _ = some _; simp)), trivial⟩ rfl (by first | rfl | (simp))) ?_
  rintro k ⟨hk, hg⟩
  refine SCode.fact (isl_len (t := 8) rfl) (fun hB => ?_)
  simp only [List.length_map, lenB] at hB
  refine SCode.seqR ?_
  refine SOps.bin rfl rfl rfl ?_
  refine SOps.nil ?_
  refine SCode.seq ?_
  refine SCode.cond rfl (fun hc1 => ?_) (fun hc1 => ?_)
  · try simp only [decide_eq_true_eq, decide_eq_false_iff_not, Bool.not_eq_true', Bool.not_eq_false', beq_iff_eq, bne_iff_ne, ne_eq, beq_eq_false_iff_ne, bne_eq_false_iff_eq, Int.not_lt, Int.not_le, Nat.not_lt, Nat.not_le, Int.ofNat_lt, Int.ofNat_le, Bool.not_eq_eq_eq_not, Bool.not_true, Bool.not_false] at hc1
    refine SCode.skip ?_
    show SCode _ _ _ _
    refine SCode.seq ?_
    refine SCode.block ?_
    refine SCode.seqR ?_
    refine SOps.indexM (k) rfl rfl sliceB_22_43_2 (by first | omega | (simp only [lenB] <;> omega)) (by first | omega | (simp only [lenB] <;> omega)) ?_
    refine SOps.loadPinA rfl aggB_43_2 (Nat.le_of_ble_eq_true rfl) ?_
    refine SOps.alloc (sz := 2) zeroIs_43 (fun b0 hb_0 => ?_)
    refine SOps.storeAM 0 rfl rfl aggB_43_2 rfl ?_
    refine SOps.freezeRef (t := 4) 0 0 rfl rfl rfl rfl rfl ?_
    refine SOps.nil ?_
    refine SCode.seqR ?_
    have hkl : k < l.length := by omega
    have hrl := runes_len (l[k]).word
    have hbk := hb _ (List.getElem_mem hkl)
    refine SOps.fieldPin rfl fieldB_43_0_0 ?_
    refine SOps.loadPin rfl flatB_9 ?_
    refine SOps.runesF rfl rfl strB_9 sliceB_70_21_1 intB_21_i32 ?_
    refine SOps.lenM rfl sliceB_70_21_1 ?_
    refine SOps.assign rfl ?_
    refine SOps.nil ?_
    refine SCode.seq ?_
    refine SCode.seqR ?_
    refine SOps.fieldPin rfl fieldB_43_0_0 ?_
    refine SOps.loadPin rfl flatB_9 ?_
    refine SOps.callP (qWordR _ (hb _ (List.getElem_mem hkl))) rfl ?_
    rintro _ rfl
    refine SOps.un rfl rfl ?_
    refine SOps.move rfl ?_
    refine SOps.caseB 22 rfl (fun hb2 => ?_) (fun hb2 => ?_)
    · try simp only [decide_eq_true_eq, decide_eq_false_iff_not, Bool.not_eq_true', Bool.not_eq_false', beq_iff_eq, bne_iff_ne, ne_eq, beq_eq_false_iff_ne, bne_eq_false_iff_eq, Int.not_lt, Int.not_le, Nat.not_lt, Nat.not_le, Int.ofNat_lt, Int.ofNat_le, Bool.not_eq_eq_eq_not, Bool.not_true, Bool.not_false] at hb2
      refine SOps.skip rfl ?_
      refine SOps.skip rfl ?_
      refine SOps.pick rfl rfl ?_
      refine SOps.nil ?_
      refine SCode.cond rfl (fun _ => ?_) (fun h => by cases h)
      refine SCode.seqR ?_
      refine SOps.assign rfl ?_
      refine SOps.nil ?_
      refine SCode.ret ?_
      exact ⟨_, Res.one (.tmp rfl), congrArg (fun b => DV.v (.bool b)) (by first | exact Eq.symm (Bool.eq_false_iff.2 (fun h => by have h9 := boxB_iff.1 ((boxesB_iff.1 h).2 _ (List.getElem_mem hkl)); first | (have := h9.2.1; rw [wlen] at this; omega) | (simp_all; done) | (have h8 := (ptB_at hil).1 (h9.2.2 i hil); obtain ⟨h81, h82, h83⟩ := h8; first | omega | (rcases h83 with h83 | ⟨_, h83⟩ <;> omega)))) | (rw [Bool.eq_iff_iff, boxesB_iff, decide_eq_true_eq]; have hall := all_of (show l.length ≤ k by omega) hg; exact ⟨fun h => ⟨by omega, hall⟩, fun h => by have := h.1; omega⟩)), rfl⟩
    · try simp only [decide_eq_true_eq, decide_eq_false_iff_not, Bool.not_eq_true', Bool.not_eq_false', beq_iff_eq, bne_iff_ne, ne_eq, beq_eq_false_iff_ne, bne_eq_false_iff_eq, Int.not_lt, Int.not_le, Nat.not_lt, Nat.not_le, Int.ofNat_lt, Int.ofNat_le, Bool.not_eq_eq_eq_not, Bool.not_true, Bool.not_false] at hb2
      refine SOps.move rfl ?_
      refine SOps.bin rfl rfl rfl ?_
      refine SOps.pick rfl rfl ?_
      refine SOps.nil ?_
      refine SCode.cond rfl (fun hc3 => ?_) (fun hc3 => ?_)
      · try simp only [decide_eq_true_eq, decide_eq_false_iff_not, Bool.not_eq_true', Bool.not_eq_false', beq_iff_eq, bne_iff_ne, ne_eq, beq_eq_false_iff_ne, bne_eq_false_iff_eq, Int.not_lt, Int.not_le, Nat.not_lt, Nat.not_le, Int.ofNat_lt, Int.ofNat_le, Bool.not_eq_eq_eq_not, Bool.not_true, Bool.not_false] at hc3
        refine SCode.seqR ?_
        refine SOps.assign rfl ?_
        refine SOps.nil ?_
        refine SCode.ret ?_
        exact ⟨_, Res.one (.tmp rfl), congrArg (fun b => DV.v (.bool b)) (by first | exact Eq.symm (Bool.eq_false_iff.2 (fun h => by have h9 := boxB_iff.1 ((boxesB_iff.1 h).2 _ (List.getElem_mem hkl)); first | (have := h9.2.1; rw [wlen] at this; omega) | (simp_all; done) | (have h8 := (ptB_at hil).1 (h9.2.2 i hil); obtain ⟨h81, h82, h83⟩ := h8; first | omega | (rcases h83 with h83 | ⟨_, h83⟩ <;> omega)))) | (rw [Bool.eq_iff_iff, boxesB_iff, decide_eq_true_eq]; have hall := all_of (show l.length ≤ k by omega) hg; exact ⟨fun h => ⟨by omega, hall⟩, fun h => by have := h.1; omega⟩)), rfl⟩
      · try simp only [decide_eq_true_eq, decide_eq_false_iff_not, Bool.not_eq_true', Bool.not_eq_false', beq_iff_eq, bne_iff_ne, ne_eq, beq_eq_false_iff_ne, bne_eq_false_iff_eq, Int.not_lt, Int.not_le, Nat.not_lt, Nat.not_le, Int.ofNat_lt, Int.ofNat_le, Bool.not_eq_eq_eq_not, Bool.not_true, Bool.not_false] at hc3
        refine SCode.skip ?_
        show SCode _ _ _ _
        refine SCode.seqR ?_
        refine SOps.fieldPin rfl fieldB_43_1_1 ?_
        refine SOps.loadPin rfl flatB_41 ?_
        refine SOps.lenM rfl sliceB_41_3_1 ?_
        refine SOps.move rfl ?_
        refine SOps.nil ?_
        refine SCode.block ?_
        refine SCode.loop1 (fun (i : Nat) => (⟨60, [(0, DBxs l), (4, .ipin (encBx (l[k]))), (5, .v (.int .i64 (((wlen (l[k]).word) : Nat) : Int))), (8, DBxs l), (9, .v (.int .i64 (l.length : Int))), (10, .v (.int .i64 (k : Int))), (27, DInts (l[k]).pts), (28, .v (.int .i64 ((l[k]).pts.length : Int))), (29, .v (.int .i64 (i : Int)))], []⟩ : St)) (fun (i : Nat) => i ≤ (l[k]).pts.length ∧ ∀ j, j < i → ptB (wlen (l[k]).word) (l[k]).pts j = true) (fun (i : Nat) => (l[k]).pts.length - i) (0) (by exact ⟨Nat.zero_le _, fun j hj => absurd hj (Nat.not_lt_zero _)⟩) (St.Le.of ⟨(by first | rfl | (show some _ = some _; simp)), (by first | rfl | (show some _ = some _; simp)), (by first | rfl | (show some _ = some _; simp)), (by first | rfl | (show some _ = some _; simp)), (by first | rfl | (show some _ = some _; simp)), (by first | rfl | (show some _ = some _; simp)), (by first | rfl | (show some _ = some _; simp)), (by first | rfl | (show some _ = some _; simp)), (by first | rfl | (show some _ = some _; simp)), trivial⟩ rfl (by first | rfl | (simp))) ?_
        rintro i ⟨hi, hf⟩
        refine SCode.fact (isl_len (t := 27) rfl) (fun hB => ?_)
        simp only [List.length_map, lenB] at hB
        refine SCode.seqR ?_
        refine SOps.bin rfl rfl rfl ?_
        refine SOps.nil ?_
        refine SCode.seq ?_
        refine SCode.cond rfl (fun hc4 => ?_) (fun hc4 => ?_)
        · try simp only [decide_eq_true_eq, decide_eq_false_iff_not, Bool.not_eq_true', Bool.not_eq_false', beq_iff_eq, bne_iff_ne, ne_eq, beq_eq_false_iff_ne, bne_eq_false_iff_eq, Int.not_lt, Int.not_le, Nat.not_lt, Nat.not_le, Int.ofNat_lt, Int.ofNat_le, Bool.not_eq_eq_eq_not, Bool.not_true, Bool.not_false] at hc4
          refine SCode.skip ?_
          show SCode _ _ _ _
          refine SCode.seq ?_
          refine SCode.block ?_
          refine SCode.seqR ?_
          have hil : i < (l[k]).pts.length := by omega
          refine SOps.move rfl ?_
          refine SOps.indexM (i) rfl rfl sliceB_41_3_1 (by first | omega | (simp only [lenB] <;> omega)) (by first | omega | (simp only [lenB] <;> omega)) ?_
          refine SOps.loadPin rfl flatB_3 ?_
          refine SOps.assign rfl ?_
          refine SOps.assign rfl ?_
          refine SOps.nil ?_
          refine SCode.seqR ?_
          refine SOps.move rfl ?_
          refine SOps.bin rfl rfl rfl ?_
          refine SOps.move rfl ?_
          refine SOps.caseB 36 rfl (fun hb5 => ?_) (fun hb5 => ?_)
          · try simp only [decide_eq_true_eq, decide_eq_false_iff_not, Bool.not_eq_true', Bool.not_eq_false', beq_iff_eq, bne_iff_ne, ne_eq, beq_eq_false_iff_ne, bne_eq_false_iff_eq, Int.not_lt, Int.not_le, Nat.not_lt, Nat.not_le, Int.ofNat_lt, Int.ofNat_le, Bool.not_eq_eq_eq_not, Bool.not_true, Bool.not_false] at hb5
            refine SOps.skip rfl ?_
            refine SOps.skip rfl ?_
            refine SOps.skip rfl ?_
            refine SOps.pick rfl rfl ?_
            refine SOps.move rfl ?_
            refine SOps.skip rfl ?_
            refine SOps.skip rfl ?_
            refine SOps.skip rfl ?_
            refine SOps.skip rfl ?_
            refine SOps.skip rfl ?_
            refine SOps.skip rfl ?_
            refine SOps.skip rfl ?_
            refine SOps.skip rfl ?_
            refine SOps.skip rfl ?_
            refine SOps.skip rfl ?_
            refine SOps.skip rfl ?_
            refine SOps.skip rfl ?_
            refine SOps.pick rfl rfl ?_
            refine SOps.nil ?_
            refine SCode.cond rfl (fun _ => ?_) (fun h => by cases h)
            refine SCode.seqR ?_
            refine SOps.assign rfl ?_
            refine SOps.nil ?_
            refine SCode.ret ?_
            exact ⟨_, Res.one (.tmp rfl), congrArg (fun b => DV.v (.bool b)) (by first | exact Eq.symm (Bool.eq_false_iff.2 (fun h => by have h9 := boxB_iff.1 ((boxesB_iff.1 h).2 _ (List.getElem_mem hkl)); first | (have := h9.2.1; rw [wlen] at this; omega) | (simp_all; done) | (have h8 := (ptB_at hil).1 (h9.2.2 i hil); obtain ⟨h81, h82, h83⟩ := h8; first | omega | (rcases h83 with h83 | ⟨_, h83⟩ <;> omega)))) | (rw [Bool.eq_iff_iff, boxesB_iff, decide_eq_true_eq]; have hall := all_of (show l.length ≤ k by omega) hg; exact ⟨fun h => ⟨by omega, hall⟩, fun h => by have := h.1; omega⟩)), rfl⟩
          · try simp only [decide_eq_true_eq, decide_eq_false_iff_not, Bool.not_eq_true', Bool.not_eq_false', beq_iff_eq, bne_iff_ne, ne_eq, beq_eq_false_iff_ne, bne_eq_false_iff_eq, Int.not_lt, Int.not_le, Nat.not_lt, Nat.not_le, Int.ofNat_lt, Int.ofNat_le, Bool.not_eq_eq_eq_not, Bool.not_true, Bool.not_false] at hb5
            refine SOps.move rfl ?_
            refine SOps.move rfl ?_
            refine SOps.bin rfl rfl rfl ?_
            refine SOps.pick rfl rfl ?_
            refine SOps.move rfl ?_
            refine SOps.caseB 41 rfl (fun hb6 => ?_) (fun hb6 => ?_)
            · try simp only [decide_eq_true_eq, decide_eq_false_iff_not, Bool.not_eq_true', Bool.not_eq_false', beq_iff_eq, bne_iff_ne, ne_eq, beq_eq_false_iff_ne, bne_eq_false_iff_eq, Int.not_lt, Int.not_le, Nat.not_lt, Nat.not_le, Int.ofNat_lt, Int.ofNat_le, Bool.not_eq_eq_eq_not, Bool.not_true, Bool.not_false] at hb6
              refine SOps.skip rfl ?_
              refine SOps.skip rfl ?_
              refine SOps.skip rfl ?_
              refine SOps.skip rfl ?_
              refine SOps.skip rfl ?_
              refine SOps.skip rfl ?_
              refine SOps.skip rfl ?_
              refine SOps.skip rfl ?_
              refine SOps.skip rfl ?_
              refine SOps.skip rfl ?_
              refine SOps.skip rfl ?_
              refine SOps.skip rfl ?_
              refine SOps.pick rfl rfl ?_
              refine SOps.nil ?_
              refine SCode.cond rfl (fun _ => ?_) (fun h => by cases h)
              refine SCode.seqR ?_
              refine SOps.assign rfl ?_
              refine SOps.nil ?_
              refine SCode.ret ?_
              exact ⟨_, Res.one (.tmp rfl), congrArg (fun b => DV.v (.bool b)) (by first | exact Eq.symm (Bool.eq_false_iff.2 (fun h => by have h9 := boxB_iff.1 ((boxesB_iff.1 h).2 _ (List.getElem_mem hkl)); first | (have := h9.2.1; rw [wlen] at this; omega) | (simp_all; done) | (have h8 := (ptB_at hil).1 (h9.2.2 i hil); obtain ⟨h81, h82, h83⟩ := h8; first | omega | (rcases h83 with h83 | ⟨_, h83⟩ <;> omega)))) | (rw [Bool.eq_iff_iff, boxesB_iff, decide_eq_true_eq]; have hall := all_of (show l.length ≤ k by omega) hg; exact ⟨fun h => ⟨by omega, hall⟩, fun h => by have := h.1; omega⟩)), rfl⟩
            · try simp only [decide_eq_true_eq, decide_eq_false_iff_not, Bool.not_eq_true', Bool.not_eq_false', beq_iff_eq, bne_iff_ne, ne_eq, beq_eq_false_iff_ne, bne_eq_false_iff_eq, Int.not_lt, Int.not_le, Nat.not_lt, Nat.not_le, Int.ofNat_lt, Int.ofNat_le, Bool.not_eq_eq_eq_not, Bool.not_true, Bool.not_false] at hb6
              refine SOps.move rfl ?_
              refine SOps.bin rfl rfl rfl ?_
              refine SOps.move rfl ?_
              refine SOps.caseB 44 rfl (fun hb7 => ?_) (fun hb7 => ?_)
              · try simp only [decide_eq_true_eq, decide_eq_false_iff_not, Bool.not_eq_true', Bool.not_eq_false', beq_iff_eq, bne_iff_ne, ne_eq, beq_eq_false_iff_ne, bne_eq_false_iff_eq, Int.not_lt, Int.not_le, Nat.not_lt, Nat.not_le, Int.ofNat_lt, Int.ofNat_le, Bool.not_eq_eq_eq_not, Bool.not_true, Bool.not_false] at hb7
                refine SOps.fieldPin rfl fieldB_43_1_1 ?_
                refine SOps.loadPin rfl flatB_41 ?_
                refine SOps.move rfl ?_
                refine SOps.subI rfl rfl (by first | omega | (simp only [lenB] <;> omega)) (by first | omega | (simp only [lenB] <;> omega)) ?_
                refine SOps.indexM ((i - 1)) rfl rfl sliceB_41_3_1 (by first | omega | (simp only [lenB] <;> omega)) (by first | omega | (simp only [lenB] <;> omega)) ?_
                refine SOps.loadPin rfl flatB_3 ?_
                refine SOps.move rfl ?_
                refine SOps.bin rfl rfl rfl ?_
                refine SOps.pick rfl rfl ?_
                refine SOps.pick rfl rfl ?_
                refine SOps.nil ?_
                refine SCode.cond rfl (fun hc8 => ?_) (fun hc8 => ?_)
                · try simp only [decide_eq_true_eq, decide_eq_false_iff_not, Bool.not_eq_true', Bool.not_eq_false', beq_iff_eq, bne_iff_ne, ne_eq, beq_eq_false_iff_ne, bne_eq_false_iff_eq, Int.not_lt, Int.not_le, Nat.not_lt, Nat.not_le, Int.ofNat_lt, Int.ofNat_le, Bool.not_eq_eq_eq_not, Bool.not_true, Bool.not_false] at hc8
                  refine SCode.seqR ?_
                  refine SOps.assign rfl ?_
                  refine SOps.nil ?_
                  refine SCode.ret ?_
                  exact ⟨_, Res.one (.tmp rfl), congrArg (fun b => DV.v (.bool b)) (by first | exact Eq.symm (Bool.eq_false_iff.2 (fun h => by have h9 := boxB_iff.1 ((boxesB_iff.1 h).2 _ (List.getElem_mem hkl)); first | (have := h9.2.1; rw [wlen] at this; omega) | (simp_all; done) | (have h8 := (ptB_at hil).1 (h9.2.2 i hil); obtain ⟨h81, h82, h83⟩ := h8; first | omega | (rcases h83 with h83 | ⟨_, h83⟩ <;> omega)))) | (rw [Bool.eq_iff_iff, boxesB_iff, decide_eq_true_eq]; have hall := all_of (show l.length ≤ k by omega) hg; exact ⟨fun h => ⟨by omega, hall⟩, fun h => by have := h.1; omega⟩)), rfl⟩
                · try simp only [decide_eq_true_eq, decide_eq_false_iff_not, Bool.not_eq_true', Bool.not_eq_false', beq_iff_eq, bne_iff_ne, ne_eq, beq_eq_false_iff_ne, bne_eq_false_iff_eq, Int.not_lt, Int.not_le, Nat.not_lt, Nat.not_le, Int.ofNat_lt, Int.ofNat_le, Bool.not_eq_eq_eq_not, Bool.not_true, Bool.not_false] at hc8
                  refine SCode.skip ?_
                  show SCode _ _ _ _
                  refine SCode.region ?_
                  refine SOps.addI rfl rfl (by first | omega | (simp only [lenB] <;> omega)) (by first | omega | (simp only [lenB] <;> omega)) ?_
                  refine SOps.move rfl ?_
                  refine SOps.nil ?_
                  exact ⟨i + 1, ⟨by omega, pts_step hf hil (by omega) (by omega) (by first | (left; omega) | (right; exact ⟨by omega, by omega⟩))⟩, by omega, St.Le.of ⟨rfl, rfl, rfl, rfl, rfl, rfl, rfl, rfl, rfl, trivial⟩⟩
              · try simp only [decide_eq_true_eq, decide_eq_false_iff_not, Bool.not_eq_true', Bool.not_eq_false', beq_iff_eq, bne_iff_ne, ne_eq, beq_eq_false_iff_ne, bne_eq_false_iff_eq, Int.not_lt, Int.not_le, Nat.not_lt, Nat.not_le, Int.ofNat_lt, Int.ofNat_le, Bool.not_eq_eq_eq_not, Bool.not_true, Bool.not_false] at hb7
                refine SOps.skip rfl ?_
                refine SOps.skip rfl ?_
                refine SOps.skip rfl ?_
                refine SOps.skip rfl ?_
                refine SOps.skip rfl ?_
                refine SOps.skip rfl ?_
                refine SOps.skip rfl ?_
                refine SOps.skip rfl ?_
                refine SOps.pick rfl rfl ?_
                refine SOps.pick rfl rfl ?_
                refine SOps.nil ?_
                refine SCode.cond rfl (fun h => by cases h) (fun _ => ?_)
                refine SCode.skip ?_
                show SCode _ _ _ _
                refine SCode.region ?_
                refine SOps.addI rfl rfl (by first | omega | (simp only [lenB] <;> omega)) (by first | omega | (simp only [lenB] <;> omega)) ?_
                refine SOps.move rfl ?_
                refine SOps.nil ?_
                exact ⟨i + 1, ⟨by omega, pts_step hf hil (by omega) (by omega) (by first | (left; omega) | (right; exact ⟨by omega, by omega⟩))⟩, by omega, St.Le.of ⟨rfl, rfl, rfl, rfl, rfl, rfl, rfl, rfl, rfl, trivial⟩⟩
        · try simp only [decide_eq_true_eq, decide_eq_false_iff_not, Bool.not_eq_true', Bool.not_eq_false', beq_iff_eq, bne_iff_ne, ne_eq, beq_eq_false_iff_ne, bne_eq_false_iff_eq, Int.not_lt, Int.not_le, Nat.not_lt, Nat.not_le, Int.ofNat_lt, Int.ofNat_le, Bool.not_eq_eq_eq_not, Bool.not_true, Bool.not_false] at hc4
          refine SCode.exit ?_
          show SCode _ _ _ _
          refine SCode.region ?_
          refine SOps.addI rfl rfl (by first | omega | (simp only [lenB] <;> omega)) (by first | omega | (simp only [lenB] <;> omega)) ?_
          refine SOps.move rfl ?_
          refine SOps.nil ?_
          exact ⟨k + 1, ⟨by omega, take_more hg hkl (boxB_iff.2 ⟨by simp_all, by rw [wlen]; omega, fun j hj => hf j (by omega)⟩)⟩, by omega, St.Le.of ⟨rfl, rfl, rfl, rfl, trivial⟩⟩
  · try simp only [decide_eq_true_eq, decide_eq_false_iff_not, Bool.not_eq_true', Bool.not_eq_false', beq_iff_eq, bne_iff_ne, ne_eq, beq_eq_false_iff_ne, bne_eq_false_iff_eq, Int.not_lt, Int.not_le, Nat.not_lt, Nat.not_le, Int.ofNat_lt, Int.ofNat_le, Bool.not_eq_eq_eq_not, Bool.not_true, Bool.not_false] at hc1
    refine SCode.exit ?_
    show SCode _ _ _ _
    refine SCode.seqR ?_
    refine SOps.move rfl ?_
    refine SOps.lenM rfl sliceB_22_43_2 ?_
    refine SOps.bin rfl rfl rfl ?_
    refine SOps.assign rfl ?_
    refine SOps.nil ?_
    refine SCode.ret ?_
    exact ⟨_, Res.one (.tmp rfl), congrArg (fun b => DV.v (.bool b)) (by first | exact Eq.symm (Bool.eq_false_iff.2 (fun h => by have h9 := boxB_iff.1 ((boxesB_iff.1 h).2 _ (List.getElem_mem hkl)); first | (have := h9.2.1; rw [wlen] at this; omega) | (simp_all; done) | (have h8 := (ptB_at hil).1 (h9.2.2 i hil); obtain ⟨h81, h82, h83⟩ := h8; first | omega | (rcases h83 with h83 | ⟨_, h83⟩ <;> omega)))) | (rw [Bool.eq_iff_iff, boxesB_iff, decide_eq_true_eq]; have hall := all_of (show l.length ≤ k by omega) hg; exact ⟨fun h => ⟨by omega, hall⟩, fun h => by have := h.1; omega⟩)), rfl⟩
end Go.GH
namespace Go.GH
open Go Go.Lib
def sp1 : ByteArray := ⟨#[32]⟩
def hy1 : ByteArray := ⟨#[45]⟩
def catW : List ByteArray → ByteArray
  | [] => .empty
  | w :: ws => ws.foldl (fun a x => a ++ sp1 ++ x) w
theorem catW_snoc (ws : List ByteArray) (x : ByteArray) : catW (ws ++ [x]) = if ws = [] then x else catW ws ++ sp1 ++ x := by
  cases ws with
  | nil => rfl
  | cons w ws =>
    rw [if_neg (by simp)]
    show (ws ++ [x]).foldl _ w = _
    rw [List.foldl_append]; rfl
theorem catW_take {l : List ByteArray} {i : Nat} (h : i < l.length) : catW (l.take (i + 1)) = if i = 0 then l[i] else catW (l.take i) ++ sp1 ++ l[i] := by
  rw [List.take_add_one, List.getElem?_eq_getElem h]
  show catW (l.take i ++ [l[i]]) = _
  rw [catW_snoc]
  by_cases h0 : i = 0
  · subst h0; rfl
  · rw [if_neg h0, if_neg (by intro e; have h9 := congrArg List.length e; rw [List.length_take, List.length_nil] at h9; omega)]
theorem catW_size {M : Nat} : ∀ (i : Nat) {l : List ByteArray}, (∀ w ∈ l, w.size ≤ M) → i ≤ l.length → (catW (l.take i)).size ≤ (M + 1) * i
  | 0, l, h, _ => by rw [List.take_zero]; exact Nat.zero_le _
  | i + 1, l, h, hi => by
    have hil : i < l.length := by omega
    have ih := catW_size i h (by omega)
    have hw := h _ (List.getElem_mem hil)
    rw [catW_take hil, Nat.mul_add, Nat.mul_one]
    split
    · omega
    · rw [ByteArray.size_append, ByteArray.size_append]
      have : sp1.size = 1 := rfl
      omega
def textL (l : Ln) : ByteArray := if l.hyph then catW l.words ++ hy1 else catW l.words
theorem ba_list (x : ByteArray) : (⟨x.data.toList.toArray⟩ : ByteArray) = x := by
  cases x; simp
end Go.GH
namespace Go.GH
open Go Go.RowKit

def bytesD (s : ByteArray) : List (List DV) := s.data.toList.map encY
theorem bytesD_length (s : ByteArray) : (bytesD s).length = s.size := by simp [bytesD]
/-- What append does, of a nil slice or one that owns its block g. -/
theorem append_runS {P : Program} {w : World} {F : Nat → Prop} {T e sz by_ : Nat} (hT : sliceB P T e sz = true) (hE : elemB P e sz by_ = true) {x : Value} {es : List (List DV)} {U : TypeId} (s : ByteArray) (hU : strB P U = true) (hsz1 : sz = 1) (hF : ∀ b, F b → b < w.heap.size)
    (hx : (x = .slice none 0 0 ∧ es = []) ∨ ∃ g cap cs, x = .slice (some ⟨g, 0, none⟩) es.length cap ∧ ¬ F g ∧ es.length ≤ cap ∧ cap * sz ≤ cs.size ∧ w.heap[g]? = some (.cells cs e (0, 0)) ∧ ObjRep w F g (.row e sz es))
    (hne : bytesD s ≠ []) (hB : es.length + (bytesD s).length ≤ lenB) (hby : (es.length + (bytesD s).length) * by_ ≤ 140737488355328) (ty : TypeId) :
    ∃ g' cap' w', (Builtin.append_ #[T, U] ty #[x, .string s]).run P w = .ok (.slice (some ⟨g', 0, none⟩) (es.length + (bytesD s).length) cap') w' ∧ es.length + (bytesD s).length ≤ cap' ∧
      ((∃ A n c, x = .slice (some ⟨g', A, none⟩) n c) ∨ g' = w.heap.size) ∧ Step (· = g') w w' ∧ ObjRep w' F g' (.row e sz (es ++ bytesD s)) ∧
      (∃ cs, w'.heap[g']? = some (.cells cs e (0, 0)) ∧ cap' * sz ≤ cs.size) := by
  obtain ⟨hu, i0, hi0, hs0⟩ := sliceB_spec hT
  obtain ⟨i, z, hi, hz, hzs, hsz, hbs, hpos⟩ := elemB_spec hE
  obtain rfl : i0 = i := Option.some.inj (hi0.symm.trans hi)
  obtain ⟨ns, hns⟩ : ∃ ns, bytesD s = ns := ⟨_, rfl⟩
  rw [hns] at hne hB hby ⊢
  obtain ⟨news, hnews0⟩ : ∃ news, news = Lib.strCells s := ⟨_, rfl⟩
  have hsl : s.size = ns.length := by rw [← hns, bytesD_length]
  have hU' := strB_spec hU
  have hl : news.length = ns.length * sz := by rw [hnews0, Lib.strCells_length, hsl, hsz1, Nat.mul_one]
  have h1 : ∀ u ∈ news, u.oneCell' = true := fun u hu => by
    rw [hnews0, Lib.strCells, List.mem_map] at hu
    obtain ⟨y, _, rfl⟩ := hu
    rfl
  have hn : ∀ (i : Nat) e', ns[i]? = some e' → e'.length = sz ∧ ∀ (j : Nat) d, e'[j]? = some d → ∃ u, news[i * sz + j]? = some u ∧ Rep w F u d := fun i e' he => by
    rw [← hns, bytesD, List.getElem?_map] at he
    obtain ⟨y, hy, rfl⟩ := Option.map_eq_some_iff.1 he
    refine ⟨by rw [hsz1]; rfl, fun j d hj => ?_⟩
    have hj0 : j = 0 := by have h9 : j < 1 := (List.getElem?_eq_some_iff.1 hj).1; omega
    subst hj0
    simp only [encY, List.getElem?_cons_zero, Option.some.injEq] at hj
    subst hj
    refine ⟨.int .u8 y.toNat, ?_, .v ?_⟩
    · rw [hnews0, Lib.strCells, hsz1, Nat.mul_one, Nat.add_zero, List.getElem?_map, hy]; rfl
    · show IntKind.u8.has _
      have := y.toNat_lt
      simp only [IntKind.has, IntKind.min, IntKind.max, IntKind.signed, IntKind.bits]
      simp
      omega
  have hspos : 0 < s.size := by rw [hsl]; exact List.length_pos_iff.2 hne
  have hda : s.data.map (fun b => Value.int .u8 b.toNat) = news.toArray := by rw [hnews0, Lib.strCells, ← Array.toList_map, Array.toArray_toList]
  unfold lenB at hB
  -- a fresh block that holds olds and news
  have fresh : ∀ (olds : List Value) (extra : Array Value), olds.length = es.length * sz → (∀ (i : Nat) e', es[i]? = some e' → e'.length = sz ∧ ∀ (j : Nat) d, e'[j]? = some d → ∃ u, olds[i * sz + j]? = some u ∧ u.oneCell' = true ∧ Rep w F u d) →
      ObjRep (w.drew.alloc (.cells (olds.toArray ++ news.toArray ++ extra) e)) F w.heap.size (.row e sz (es ++ ns)) := fun olds extra ho hold => by
    have k := (Step.drew (fun _ => False) w).trans (Step.alloc (fun _ => False) w.drew (.cells (olds.toArray ++ news.toArray ++ extra) e))
    have hmono : ∀ {u d}, Rep w F u d → Rep (w.drew.alloc (.cells (olds.toArray ++ news.toArray ++ extra) e)) F u d := fun hr => hr.mono (fun b hb => k.block b (hF b hb) (fun x => x)) k.shape (fun _ h => h)
    refine ⟨_, heap_new' w.drew _, by simp [ho, hl, Nat.add_mul], by simp [lenB]; omega, fun q e' hq => ?_⟩
    rw [List.getElem?_append] at hq
    split at hq
    · rename_i hlt
      refine ⟨(hold q e' hq).1, fun j d hj => ?_⟩
      obtain ⟨u, h2, h3, h4⟩ := (hold q e' hq).2 j d hj
      have hlt2 := (List.getElem?_eq_some_iff.1 h2).1
      refine ⟨u, ?_, h3, hmono h4⟩
      rw [Array.getElem?_append, if_pos (by simp; omega), Array.getElem?_append, if_pos (by simpa using hlt2)]
      simpa using h2
    · rename_i hlt
      refine ⟨(hn _ e' hq).1, fun j d hj => ?_⟩
      obtain ⟨u, h2, h4⟩ := (hn _ e' hq).2 j d hj
      have hlt2 := (List.getElem?_eq_some_iff.1 h2).1
      refine ⟨u, ?_, h1 u (List.mem_of_getElem? h2), hmono h4⟩
      have e1 : q * sz + j = es.length * sz + ((q - es.length) * sz + j) := by rw [← Nat.add_assoc, ← Nat.add_mul]; congr 2; omega
      rw [e1, Array.getElem?_append, if_pos (by simp [ho]; omega), Array.getElem?_append, if_neg (by simp [ho])]
      simp only [List.size_toArray, ho, Nat.add_sub_cancel_left]
      simpa using h2
  have freshSt : ∀ o T, Step T w (w.drew.alloc o) := fun o T => (Step.drew T w).trans (Step.alloc T w.drew o)
  rcases hx with ⟨rfl, rfl⟩ | ⟨g, cap, cs, rfl, hgF, hcap, hcs, hg, hrow⟩
  · have hr := run_append_nil_string (P := P) (w := w) T U ty e i0 z hu hU' hi hz s hspos (by rw [hsl]; simp at hB; omega) (by rw [hsl, hbs]; simp at hby; omega)
    rw [hda, hsl] at hr
    refine ⟨w.heap.size, grownCap w ns.length 0 e, w.drew.alloc (.cells (news.toArray ++ Builtin.zeroCells z.cells (grownCap w ns.length 0 e - ns.length)) e), ?_, ?_, .inr rfl, freshSt _ _, ?_, _, heap_new' w.drew _, ?_⟩
    · simpa using hr
    · simpa using grownCap_ge w ns.length 0 e
    · have := fresh [] (Builtin.zeroCells z.cells (grownCap w ns.length 0 e - ns.length)) (by simp) (fun i e' h => by simp at h)
      simpa using this
    · have := grownCap_ge w ns.length 0 e
      simp only [Array.size_append, List.size_toArray, size_zeroCells, hzs, hl]
      rw [← Nat.add_mul]
      exact Nat.mul_le_mul_right _ (by omega)
  · by_cases hroom : es.length + ns.length ≤ cap
    · obtain ⟨cs', hg', k2, k3, k4⟩ := hrow
      obtain rfl : cs' = cs := by rw [hg] at hg'; simp at hg'; exact hg'.symm
      have hfit : es.length * sz + news.length ≤ cs'.size := by
        have : (es.length + ns.length) * sz ≤ cap * sz := Nat.mul_le_mul_right _ hroom
        rw [Nat.add_mul] at this
        omega
      have hr : (Builtin.append_ #[T, U] ty #[.slice (some ⟨g, 0, none⟩) es.length cap, .string s]).run P w = .ok (.slice (some ⟨g, 0, none⟩) (es.length + ns.length) cap) (w.setRow g (cs'.toList.take (es.length * sz) ++ news ++ cs'.toList.drop (es.length * sz + news.length)).toArray) := by
        have h := Lib.run_append_room_string (P := P) (w := w) T U ty e i0 hu hU' hi (by rw [hsz, hsz1]) g es.length cap cs' hg s (by rw [hsl]; exact hroom) (by rw [hl, hsz1, Nat.mul_one, Nat.mul_one, ← hsl] at hfit; exact hfit)
        rw [hnews0, Lib.strCells_length, hsz1, Nat.mul_one, ← hsl]; exact h
      have hheap := setRow_heap w g cs' (cs'.toList.take (es.length * sz) ++ news ++ cs'.toList.drop (es.length * sz + news.length)).toArray e (0, 0) hg
      have hsame : (cs'.toList.take (es.length * sz) ++ news ++ cs'.toList.drop (es.length * sz + news.length)).length = cs'.size := by simp; omega
      have hst : Step (· = g) w (w.setRow g (cs'.toList.take (es.length * sz) ++ news ++ cs'.toList.drop (es.length * sz + news.length)).toArray) :=
        ⟨rfl, rfl, rfl, by simp, fun b _ hb => setRow_other w g b _ hb, fun b s hb => by
          unfold World.shape? at *
          by_cases e1 : b = g
          · subst e1; rw [hheap]; rw [hg] at hb; simpa only [List.size_toArray, hsame] using hb
          · rw [setRow_other w g b _ e1]; exact hb⟩
      have hmono : ∀ {u d}, Rep w F u d → Rep (w.setRow g (cs'.toList.take (es.length * sz) ++ news ++ cs'.toList.drop (es.length * sz + news.length)).toArray) F u d := fun hr =>
        hr.mono (fun b hb => setRow_other w g b _ (fun e => hgF (e ▸ hb))) hst.shape (fun _ h => h)
      refine ⟨g, cap, _, hr, hroom, .inl ⟨0, _, _, rfl⟩, hst, ⟨_, hheap, ?_, by simp [lenB]; omega, fun q e' hq => ?_⟩, _, hheap, ?_⟩
      · simp only [List.size_toArray, hsame, List.length_append, Nat.add_mul]; omega
      · rw [List.getElem?_append] at hq
        split at hq
        · rename_i hlt
          refine ⟨(k4 q e' hq).1, fun j d hj => ?_⟩
          obtain ⟨u, h2, h3, h4⟩ := (k4 q e' hq).2 j d hj
          have hjl : j < sz := by rw [← (k4 q e' hq).1]; exact (List.getElem?_eq_some_iff.1 hj).1
          have : (q + 1) * sz ≤ es.length * sz := Nat.mul_le_mul_right _ (by omega)
          rw [Nat.add_mul] at this
          refine ⟨u, ?_, h3, hmono h4⟩
          simp only [List.getElem?_toArray]
          rw [List.getElem?_append, if_pos (by simp; omega), List.getElem?_append, if_pos (by simp; omega), List.getElem?_take, if_pos (by omega)]
          simpa using h2
        · rename_i hlt
          refine ⟨(hn _ e' hq).1, fun j d hj => ?_⟩
          obtain ⟨u, h2, h4⟩ := (hn _ e' hq).2 j d hj
          have hlt2 := (List.getElem?_eq_some_iff.1 h2).1
          refine ⟨u, ?_, h1 u (List.mem_of_getElem? h2), hmono h4⟩
          have e1 : q * sz + j = es.length * sz + ((q - es.length) * sz + j) := by rw [← Nat.add_assoc, ← Nat.add_mul]; congr 2; omega
          have e2 : (cs'.toList.take (es.length * sz)).length = es.length * sz := by simp; omega
          simp only [List.getElem?_toArray]
          rw [e1, List.getElem?_append, if_pos (by simp; omega), List.getElem?_append, if_neg (by rw [e2]; omega), e2, Nat.add_sub_cancel_left]
          exact h2
      · simp only [List.size_toArray, hsame]; exact hcs
    · obtain ⟨cs', hg', k2, k3, k4⟩ := hrow
      obtain rfl : cs' = cs := by rw [hg] at hg'; simp at hg'; exact hg'.symm
      have hr := Lib.run_append_grow_string (P := P) (w := w) T U ty e i0 z hu hU' hi hz ⟨g, 0, none⟩ es.length cap (cs'.toList.take (es.length * sz)) (by simp; rw [hsz]; omega)
        (fun j v hj => by
          rw [List.getElem?_take] at hj
          split at hj
          · rw [add_plain', cell_of_row w g _ cs' _ _ hg]; simpa using hj
          · cases hj) s (by rw [hsl]; omega) (by rw [hsl]; omega) (growslice_fits (by rw [hsl]; omega) (by rw [hsl, hbs]; exact hby))
      rw [← hnews0, hsl] at hr
      refine ⟨w.heap.size, _, _, hr, grownCap_ge _ _ _ _, .inr rfl, freshSt _ _, ?_, _, heap_new' w.drew _, ?_⟩
      · refine fresh _ _ (by simp; omega) (fun q e' hq => ⟨(k4 q e' hq).1, fun j d hj => ?_⟩)
        obtain ⟨u, h2, h3, h4⟩ := (k4 q e' hq).2 j d hj
        have hjl : j < sz := by rw [← (k4 q e' hq).1]; exact (List.getElem?_eq_some_iff.1 hj).1
        have hql : q < es.length := (List.getElem?_eq_some_iff.1 hq).1
        have : (q + 1) * sz ≤ es.length * sz := Nat.mul_le_mul_right _ (by omega)
        rw [Nat.add_mul] at this
        exact ⟨u, by rw [List.getElem?_take, if_pos (by omega)]; simpa using h2, h3, h4⟩
      · have := grownCap_ge w (es.length + ns.length) cap e
        simp only [Array.size_append, List.size_toArray, size_zeroCells, hzs, hl, List.length_take, Array.length_toList]
        rw [Nat.min_eq_left (by omega), ← Nat.add_mul, ← Nat.add_mul]
        exact Nat.mul_le_mul_right _ (by omega)


section
variable {C : Ctx} {E : Env} {base : Base} {F : Nat → Prop} {st : St} {a : Act} {w : World} {ops : Array Oper} {rest : List Oper} {R : St → Prop}
  {t : Tmp} {ty : TypeId} {pos : String} {aft : Array Edge} {g : Option (Nat × Bool)}

theorem exec_appendS (a : Act) (xo yo : Operand) (T U : TypeId) {P : Program} {w w' : World} {v : Value} (h : (Builtin.append_ #[T, U] ty #[a.eval xo, a.eval yo]).run P w = .ok v w') :
    (execOp a.eval ⟨some t, .call { callee := .builtin .append, args := #[xo, yo], argTypes := #[T, U] }, ty, pos, aft, g⟩).run P w = .ok (.value v) w' := by
  simp [execOp, resolve, invoke, builtin, h]

/-- append onto a nil slice. -/
theorem SOps.appendNilS {T e by_ : Nat} {xo yo : Operand} {U : TypeId} {s : ByteArray} (hT : sliceB C.P T e 1 = true) (hE : elemB C.P e 1 by_ = true) (hx : st.val xo = some (.v (.slice none 0 0))) (hy : st.val yo = some (.v (.string s)))
    (hU : strB C.P U = true) (hne : bytesD s ≠ []) (hB : (bytesD s).length ≤ lenB) (hby : (bytesD s).length * by_ ≤ 140737488355328)
    (hrest : ∀ b, st.fresh b → SOps C ops rest ⟨st.n, (t, .sl b 1 0 (bytesD s).length) :: st.slots, (b, .row e 1 (bytesD s)) :: st.heap⟩ R)
    (hg : st.wants ops g = some true := by rfl) (ht : Nat.blt t st.n = true := by rfl) :
    SOps C ops (⟨some t, .call { callee := .builtin .append, args := #[xo, yo], argTypes := #[T, U] }, ty, pos, aft, g⟩ :: rest) st R := by
  refine SOps.op (R1 := fun st' => ∃ b, st.fresh b ∧ st' = ⟨st.n, (t, .sl b 1 0 (bytesD s).length) :: st.slots, (b, .row e 1 (bytesD s)) :: st.heap⟩) hg ?_ (fun st' ⟨b, hb, e⟩ => e ▸ hrest b hb)
  intro base ok a w F hs K Q hK
  obtain ⟨g', cap', w', hr, hcap, hloc, hst, hrow, cs, hcs1, hcs2⟩ := append_runS (P := C.P) (es := []) hT hE s hU rfl (fun b hb => (hs.lt b hb).1) (.inl ⟨(hs.val hx).inv_v.1, rfl⟩) hne (by simpa using hB) (by simpa using hby) ty
  have hg' : g' = w.heap.size := by
    rcases hloc with ⟨A, n, c, h⟩ | h
    · rw [(hs.val hx).inv_v.1] at h; simp at h
    · exact h
  subst hg'
  unfold Oper.wp
  rw [exec_appendS a xo yo T U (by rw [(hs.val hy).inv_v.1]; exact hr), Oper.upon_value]
  have h1 := hs.world (hst.then (T' := fun _ => False) (Step.refl _ _) (fun _ _ h => h.elim) |>.mono (fun i hi h => absurd hi (by rw [h]; exact Nat.lt_irrefl _)))
  have hfresh : st.fresh w.heap.size := fun p hp e => Nat.lt_irrefl _ (e ▸ (hs.heap p hp).2.2.lt)
  refine hK _ _ _ ⟨w.heap.size, hfresh, rfl⟩ ⟨F, ?_⟩
  have hrow' : ObjRep w' F w.heap.size (.row e 1 (bytesD s)) := by simpa using hrow
  have h2 : SimF C.E base F ⟨st.n, st.slots, (w.heap.size, .row e 1 (bytesD s)) :: st.heap⟩ a w' := {
    keep := h1.keep, base_lt := h1.base_lt, sub := h1.sub, lt := h1.lt, env := h1.env, size := h1.size, slots := h1.slots
    heap := fun p hp => by
      rcases List.mem_cons.1 hp with rfl | hp
      · exact ⟨.inr hs.keep.size, fun hF => Nat.lt_irrefl _ (hs.lt _ hF).1, hrow'⟩
      · exact h1.heap p hp
    keys := by
      simp only [List.map_cons, List.nodup_cons]
      refine ⟨fun hm => ?_, h1.keys⟩
      obtain ⟨p, hp, e⟩ := List.mem_map.1 hm
      exact hfresh p hp e
    defers := h1.defers }
  refine SimF.put (st := ⟨st.n, st.slots, (w.heap.size, .row e 1 (bytesD s)) :: st.heap⟩) h2 (by simpa using ht) ?_
  have := Rep.sl (w := w') (F := F) (b := w.heap.size) (sz := 1) (off := 0) (len := (bytesD s).length) (cap := cap') (e := e) (n := cs.size) (by simpa using hcap) (by simp [World.shape?, hcs1]) (by simpa using hcs2) hB
  simpa using this

/-- append onto a slice that owns its row. -/
theorem SOps.appendOwnS (i : Nat) {T e by_ b n : Nat} {xo yo : Operand} {U : TypeId} {s : ByteArray} {es : List (List DV)} (hT : sliceB C.P T e 1 = true) (hE : elemB C.P e 1 by_ = true) (hx : st.val xo = some (.sl b 1 0 n)) (hy : st.val yo = some (.v (.string s)))
    (hi : st.heap[i]? = some (b, .row e 1 es)) (hn : es.length = n) (hU : strB C.P U = true) (hne : bytesD s ≠ []) (hB : n + (bytesD s).length ≤ lenB) (hby : (n + (bytesD s).length) * by_ ≤ 140737488355328)
    (hrest : ∀ b', (b' = b ∨ st.fresh b') → SOps C ops rest ⟨st.n, (t, .sl b' 1 0 (n + (bytesD s).length)) :: st.slots, st.heap.set i (b', .row e 1 (es ++ (bytesD s)))⟩ R)
    (hg : st.wants ops g = some true := by rfl) (ht : Nat.blt t st.n = true := by rfl) :
    SOps C ops (⟨some t, .call { callee := .builtin .append, args := #[xo, yo], argTypes := #[T, U] }, ty, pos, aft, g⟩ :: rest) st R := by
  refine SOps.op (R1 := fun st' => ∃ b', (b' = b ∨ st.fresh b') ∧ st' = ⟨st.n, (t, .sl b' 1 0 (n + (bytesD s).length)) :: st.slots, st.heap.set i (b', .row e 1 (es ++ (bytesD s)))⟩) hg ?_ (fun st' ⟨b', hb, e⟩ => e ▸ hrest b' hb)
  intro base ok a w F hs K Q hK
  have hmem := hs.heap _ (List.mem_of_getElem? hi)
  have h1 := hs.val hx
  have hyr := hs.val hy
  generalize hv : a.eval xo = v at h1
  cases h1 with
  | @sl b _ off len cap e' q q1 q2 q3 q4 =>
    have hrow0 := hmem.2.2
    obtain ⟨cs, k1, k2, k3, k4⟩ := hrow0
    have hsh : w.shape? b = some (e, cs.size) := by simp [World.shape?, k1]
    have hcapq : cap * 1 ≤ cs.size := by
      rw [hsh] at q2
      have := (Prod.mk.inj (Option.some.inj q2)).2
      rw [this]; simpa using q3
    obtain ⟨g', cap', w', hr, hcap, hloc, hst, hrow, cs', hcs1, hcs2⟩ := append_runS (P := C.P) (x := .slice (some ⟨b, 0, none⟩) n cap) (es := es) hT hE s hU rfl (fun b hb => (hs.lt b hb).1)
      (.inr ⟨b, cap, cs, by rw [hn], hmem.2.1, by rw [hn]; exact q1, hcapq, k1, hmem.2.2⟩) hne (by rw [hn]; exact hB) (by rw [hn]; exact hby) ty
    rw [hn] at hr hcap
    unfold Oper.wp
    rw [exec_appendS a xo yo T U (by rw [hv, hyr.inv_v.1]; simpa using hr), Oper.upon_value]
    have hrep : Rep w' F (.slice (some ⟨g', 0, none⟩) (n + (bytesD s).length) cap') (.sl g' 1 0 (n + (bytesD s).length)) := by
      have := Rep.sl (w := w') (F := F) (b := g') (sz := 1) (off := 0) (len := n + (bytesD s).length) (cap := cap') (e := e) (n := cs'.size) hcap (by simp [World.shape?, hcs1]) (by simpa using hcs2) hB
      simpa using this
    by_cases hgb : g' = b
    · subst hgb
      refine hK _ _ _ ⟨g', .inl rfl, rfl⟩ ⟨F, ?_⟩
      exact SimF.put (st := ⟨st.n, st.slots, st.heap.set i (g', .row e 1 (es ++ (bytesD s)))⟩) (hs.write hi hst hrow) (by simpa using ht) hrep
    · have hnew : g' = w.heap.size := by
        rcases hloc with ⟨A, n', c, h⟩ | h
        · injection h with h1; injection h1 with h1; injection h1 with h1 _; exact absurd h1.symm hgb
        · exact h
      subst hnew
      have hfresh : st.fresh w.heap.size := fun p hp e => Nat.lt_irrefl _ (e ▸ (hs.heap p hp).2.2.lt)
      have h2 := hs.world (hst.mono (T' := fun _ => False) (fun i hi h => absurd hi (by rw [h]; exact Nat.lt_irrefl _)))
      refine hK _ _ _ ⟨w.heap.size, .inr hfresh, rfl⟩ ⟨F, ?_⟩
      have h3 : SimF C.E base F ⟨st.n, st.slots, st.heap.set i (w.heap.size, .row e 1 (es ++ (bytesD s)))⟩ a w' := {
        keep := h2.keep, base_lt := h2.base_lt, sub := h2.sub, lt := h2.lt, env := h2.env, size := h2.size, slots := h2.slots
        heap := fun p hp => by
          rcases mem_set hp with rfl | ⟨j, hj, hp⟩
          · exact ⟨.inr hs.keep.size, fun hF => Nat.lt_irrefl _ (hs.lt _ hF).1, hrow⟩
          · exact h2.heap p (List.mem_of_getElem? hp)
        keys := by
          rw [List.map_set]
          exact nodup_set h2.keys (fun hm => by
            obtain ⟨p, hp, e⟩ := List.mem_map.1 hm
            exact hfresh p hp e)
        defers := h2.defers }
      exact SimF.put (st := ⟨st.n, st.slots, st.heap.set i (w.heap.size, .row e 1 (es ++ (bytesD s)))⟩) h3 (by simpa using ht) hrep
theorem SOps.appendAccS (H1 H2 : DHeap) {T e by_ b : Nat} {xo yo : Operand} {U : TypeId} {s : ByteArray} {es : List (List DV)} (hT : sliceB C.P T e 1 = true) (hE : elemB C.P e 1 by_ = true) (hx : st.val xo = some (accD 1 b es)) (hy : st.val yo = some (.v (.string s)))
    (hh : st.heap = H1 ++ (accH e 1 b es ++ H2)) (hU : strB C.P U = true) (hne : bytesD s ≠ []) (hB : es.length + (bytesD s).length ≤ lenB) (hby : (es.length + (bytesD s).length) * by_ ≤ 140737488355328)
    (hrest : ∀ b', SOps C ops rest ⟨st.n, (t, accD 1 b' (es ++ (bytesD s))) :: st.slots, H1 ++ (accH e 1 b' (es ++ (bytesD s)) ++ H2)⟩ R)
    (hg : st.wants ops g = some true := by rfl) (ht : Nat.blt t st.n = true := by rfl) :
    SOps C ops (⟨some t, .call { callee := .builtin .append, args := #[xo, yo], argTypes := #[T, U] }, ty, pos, aft, g⟩ :: rest) st R := by
  have hcons : ∀ b', accD 1 b' (es ++ (bytesD s)) = .sl b' 1 0 (es.length + (bytesD s).length) ∧ accH e 1 b' (es ++ (bytesD s)) = [(b', .row e 1 (es ++ (bytesD s)))] := fun b' => by
    cases hl : es ++ (bytesD s) with
    | nil => simp at hl; exact absurd hl.2 hne
    | cons x l =>
      have : es.length + (bytesD s).length = l.length + 1 := by rw [← List.length_append, hl]; rfl
      exact ⟨by simp [accD, this], rfl⟩
  cases es with
  | nil =>
    refine SOps.appendNilS hT hE hx hy hU hne (by simpa using hB) (by simpa using hby) (fun b' hb' => ?_) hg ht
    have := hrest b'
    rw [(hcons b').1, (hcons b').2] at this
    simp only [List.length_nil, Nat.zero_add, List.nil_append] at this
    refine SOps.weaken (st' := ⟨st.n, (t, .sl b' 1 0 (bytesD s).length) :: st.slots, H1 ++ ([(b', .row e 1 (bytesD s))] ++ H2)⟩) ⟨rfl, fun u e hu => .inl hu, (b', .row e 1 (bytesD s)) :: st.heap, ?_, List.Sublist.refl _⟩ this
    rw [hh]
    simp only [accH, List.nil_append, List.singleton_append]
    exact List.perm_middle
  | cons x l =>
    have hi : st.heap[H1.length]? = some (b, .row e 1 (x :: l)) := by rw [hh]; simp [accH]
    refine SOps.appendOwnS H1.length (n := (x :: l).length) hT hE hx hy hi rfl hU hne hB hby (fun b' hb' => ?_) hg ht
    have := hrest b'
    rw [(hcons b').1, (hcons b').2] at this
    have e1 : st.heap.set H1.length (b', .row e 1 (x :: l ++ (bytesD s))) = H1 ++ ([(b', .row e 1 (x :: l ++ (bytesD s)))] ++ H2) := by
      rw [hh]; simp [accH, List.set_append]
    rw [e1]
    exact this

theorem append_zeroS {P : Program} {w : World} {T U e sz : Nat} {s : ByteArray} (hT : sliceB P T e sz = true) (hU : strB P U = true) (h0 : s.size = 0) (ty : TypeId) (A : Option Addr) (len cap : Nat) (hcap : len ≤ cap) :
    (Builtin.append_ #[T, U] ty #[.slice A len cap, .string s]).run P w = .ok (.slice A len cap) w := by
  obtain ⟨hu, i, hi, hs⟩ := sliceB_spec hT
  have hU' := strB_spec hU
  have hd : s = ⟨#[]⟩ := by
    cases s with
    | mk d => simp at h0; rw [h0]; rfl
  subst hd
  unfold Builtin.append_
  simp only [List.getElem?_toArray, List.getElem?_cons_zero, List.getElem?_cons_succ, Sem.run_bind, run_underlying hu, run_underlying hU', Result.andThen_ok, sizeOf, typeInfo, run_program, hi, Sem.run_pure, pure_bind, Builtin.lenOf, Bool.false_eq_true, if_false, Bool.not_false, if_true]
  rw [if_pos (show len + (ByteArray.mk #[]).size ≤ cap from hcap)]
  cases A <;> simp [Builtin.firstCells, storeCells] <;> rfl
/-- A string, which may be empty, is appended to an accumulator. -/
theorem SOps.appendAccES (H1 H2 : DHeap) {T e by_ b : Nat} {xo yo : Operand} {U : TypeId} {s : ByteArray} {es : List (List DV)} (hT : sliceB C.P T e 1 = true) (hE : elemB C.P e 1 by_ = true) (hx : st.val xo = some (accD 1 b es)) (hy : st.val yo = some (.v (.string s)))
    (hh : st.heap = H1 ++ (accH e 1 b es ++ H2)) (hU : strB C.P U = true) (hB : es.length + (bytesD s).length ≤ lenB) (hby : (es.length + (bytesD s).length) * by_ ≤ 140737488355328)
    (hrest : ∀ b', SOps C ops rest ⟨st.n, (t, accD 1 b' (es ++ (bytesD s))) :: st.slots, H1 ++ (accH e 1 b' (es ++ (bytesD s)) ++ H2)⟩ R)
    (hg : st.wants ops g = some true := by rfl) (ht : Nat.blt t st.n = true := by rfl) :
    SOps C ops (⟨some t, .call { callee := .builtin .append, args := #[xo, yo], argTypes := #[T, U] }, ty, pos, aft, g⟩ :: rest) st R := by
  by_cases hne : bytesD s = []
  · have h0 : s.size = 0 := by rw [← bytesD_length, hne]; rfl
    have h1 := hrest b
    rw [hne, List.append_nil, ← hh] at h1
    refine SOps.val rfl hg ht (fun base a w F hs => ?_) h1
    have h2 := hs.val hx
    refine ⟨a.eval xo, ?_, h2⟩
    have key : ∃ A len cap, a.eval xo = .slice A len cap ∧ len ≤ cap := by
      generalize a.eval xo = v at h2
      cases es with
      | nil => exact ⟨none, 0, 0, h2.inv_v.1, Nat.le_refl _⟩
      | cons x l =>
        have h3 : Rep w F v (.sl b 1 0 (l.length + 1)) := h2
        cases h3 with
        | sl q1 q2 q3 q4 => exact ⟨_, _, _, rfl, q1⟩
    obtain ⟨A, len, cap, h4, h5⟩ := key
    have := append_zeroS (P := C.P) (w := w) hT hU h0 ty A len cap h5
    rw [exec_appendS a xo yo T U (v := .slice A len cap) (w' := w) (by rw [(hs.val hy).inv_v.1, h4]; exact this), h4]
  · exact SOps.appendAccS H1 H2 hT hE hx hy hh hU hne hB hby hrest hg ht

end
end Go.GH
namespace Go.GH
open Go Go.Proofs
variable {E : Env}

/-! #### strings.Builder -/
def adrB (b : Nat) : Bool → DV
  | true => .vref b 84 2
  | false => .v (.pointer none)
def bldH (b g : Nat) (used : Bool) (bs : List UInt8) : DHeap := (b, .row 84 2 [[adrB b used, accD 1 g (bs.map encY)]]) :: accH 5 1 g (bs.map encY)
theorem ptr_B : ptrB Tryd.prog 81 84 := ⟨by kernel_rfl, by
  have h : (Tryd.prog.info? 84).map (fun j => decide (j.size ≠ 0)) = some true := by kernel_rfl
  obtain ⟨j, h1, h2⟩ := Option.map_eq_some_iff.1 h
  exact ⟨j, h1, of_decide_eq_true h2⟩⟩
theorem up_B : Tryd.prog.underlying 98 = some .unsafePointer := by kernel_rfl
theorem lies_B : liesAt Tryd.prog Tryd.prog.depth 84 (2 / Tryd.prog.cellsOf 84) 0 84 1 = true := by kernel_rfl
theorem noEsc_B : noEscB Tryd.prog 69 := ⟨Tryd.f69, Tryd.func69, by kernel_rfl, by kernel_rfl, by kernel_rfl, by kernel_rfl⟩
theorem fld0_B : fieldB Tryd.prog 84 0 0 = true := by kernel_rfl
theorem fld1_B : fieldB Tryd.prog 84 1 1 = true := by kernel_rfl
theorem flatP_B : flatB Tryd.prog 81 = true := by kernel_rfl
theorem flatS_B : flatB Tryd.prog 82 = true := by kernel_rfl
theorem oneP_B : oneB Tryd.prog 81 = true := by kernel_rfl
theorem oneS_B : oneB Tryd.prog 82 = true := by kernel_rfl
theorem slice_B : sliceB Tryd.prog 82 5 1 = true := by kernel_rfl
theorem elem_B : elemB Tryd.prog 5 1 1 = true := by kernel_rfl
theorem zero_By : zeroIs Tryd.prog 5 (.int .u8 0) := by unfold zeroIs; kernel_rfl
theorem mixed_B : Tryd.prog.follows .mixedOrders = true := by kernel_rfl
theorem ptr_By : Tryd.prog.underlying 95 = some (.pointer 5) := by kernel_rfl
theorem int_By : intB Tryd.prog 5 .u8 = true := by kernel_rfl
theorem cells_By : Tryd.prog.cellsOf 5 = 1 := by kernel_rfl
theorem bCopy (b : Nat) (used : Bool) (x : DV) (hx : x.one = true) : GCall Tryd.prog E 65 [.vref b 84 2] [(b, .row 84 2 [[adrB b used, x]])] (fun d H => d = .v (.tuple #[]) ∧ H = [(b, .row 84 2 [[adrB b true, x]])]) := by
  refine GCall.body (C := ⟨Tryd.prog, E, false⟩) Tryd.func65 rfl (fun h => by cases h) (by kernel_rfl) rfl ?_
  refine SCode.seqR ?_
  refine SOps.move rfl ?_
  refine SOps.nilCheck rfl rfl ?_
  refine SOps.fieldV rfl fld0_B ?_
  refine SOps.loadRef 0 0 0 rfl flatP_B rfl rfl rfl rfl ?_
  cases used with
  | true =>
    refine SOps.eqNil false ptr_B rfl (.inl ⟨rfl, rfl⟩) rfl ?_
    refine SOps.nil ?_
    refine SCode.cond rfl (fun h => by cases h) (fun _ => ?_)
    refine SCode.seqR ?_
    refine SOps.move rfl ?_
    refine SOps.nilCheck rfl rfl ?_
    refine SOps.fieldV rfl fld0_B ?_
    refine SOps.loadRef 0 0 0 rfl flatP_B rfl rfl rfl rfl ?_
    refine SOps.move rfl ?_
    refine SOps.eqPtr ptr_B rfl rfl ?_
    refine SOps.nil ?_
    refine SCode.cond rfl (fun h => by cases h) (fun _ => ?_)
    refine SCode.skip ?_
    exact ⟨_, Res.none, rfl, rfl⟩
  | false =>
    refine SOps.eqNil true ptr_B rfl (.inr ⟨rfl, rfl⟩) rfl ?_
    refine SOps.nil ?_
    refine SCode.cond rfl (fun _ => ?_) (fun h => by cases h)
    refine SCode.region ?_
    refine SOps.move rfl ?_
    refine SOps.move rfl ?_
    refine SOps.toUnsafe rfl ptr_B up_B (by decide) ?_
    refine SOps.noEscape noEsc_B rfl ?_
    refine SOps.fromUnsafe rfl up_B ptr_B lies_B ?_
    refine SOps.nilCheck rfl rfl ?_
    refine SOps.fieldV rfl fld0_B ?_
    refine SOps.store 0 0 0 rfl rfl oneP_B rfl rfl rfl (by decide) rfl ?_
    refine SOps.nil ?_
    exact ⟨_, Res.none, rfl, rfl⟩

theorem bWriteByte (b g : Nat) (used : Bool) (bs : List UInt8) (y : UInt8) (hl : bs.length ≤ 70368744177664) : GCall Tryd.prog E 55 [.vref b 84 2, .v (.int .u8 (y.toNat : Int))] (bldH b g used bs) (fun d H => ∃ g', d = .v .nilIface ∧ H = bldH b g' true (bs ++ [y])) := by
  refine GCall.body (C := ⟨Tryd.prog, E, false⟩) Tryd.func55 rfl (fun h => by cases h) (by kernel_rfl) rfl ?_
  refine SCode.seqR ?_
  refine SOps.assign rfl ?_
  refine SOps.nil ?_
  refine SCode.seqR ?_
  refine SOps.move rfl ?_
  refine SOps.call (H := [(b, .row 84 2 [[adrB b used, accD 1 g (bs.map encY)]])]) (G := accH 5 1 g (bs.map encY)) (bCopy b used _ (accD_one ..)) rfl rfl ?_
  rintro _ _ ⟨rfl, rfl⟩
  refine SOps.nil ?_
  refine SCode.seqR ?_
  refine SOps.move rfl ?_
  refine SOps.move rfl ?_
  refine SOps.nilCheck rfl rfl ?_
  refine SOps.fieldV rfl fld1_B ?_
  refine SOps.loadRef 0 0 1 rfl flatS_B rfl rfl rfl rfl ?_
  refine SOps.move rfl ?_
  refine SOps.litO slice_B zero_By rfl (fun b0 hb_0 => ?_)
  refine SOps.appendAcc [_, _] [] slice_B elem_B rfl rfl (by rw [List.append_nil]; rfl) (.own 0 rfl (Nat.le_refl _)) (by simp) (by simp [lenB]; omega) (by simp; omega) (fun g' => ?_)
  refine SOps.nilCheck rfl rfl ?_
  refine SOps.fieldV rfl fld1_B ?_
  refine SOps.store 1 0 1 rfl rfl oneS_B rfl rfl rfl (by decide) (accD_one ..) ?_
  refine SOps.nil ?_
  refine SCode.seqR ?_
  refine SOps.assign rfl ?_
  refine SOps.nil ?_
  refine SCode.weaken (st' := ⟨_, [(4, .v .nilIface)], bldH b g' true (bs ++ [y])⟩) (St.Le.ofSub ⟨rfl, trivial⟩ ?_) (SCode.ret ⟨_, Res.one (.tmp rfl), g', rfl, rfl⟩)
  have e1 : (bs ++ [y]).map encY = bs.map encY ++ [encY y] := by rw [List.map_append]; rfl
  unfold bldH
  rw [e1]
  simp only [List.append_nil]
  exact List.Sublist.cons _ (List.Sublist.refl _)
theorem str_B : strB Tryd.prog 9 = true := by kernel_rfl

theorem bWriteString (b g : Nat) (used : Bool) (bs : List UInt8) (s : ByteArray) (hl : bs.length + s.size ≤ 70368744177664) : GCall Tryd.prog E 56 [.vref b 84 2, .v (.string s)] (bldH b g used bs) (fun d H => ∃ g', d = .tup [.v (.int .i64 (s.size : Int)), .v .nilIface] ∧ H = bldH b g' true (bs ++ s.data.toList)) := by
  refine GCall.body (C := ⟨Tryd.prog, E, false⟩) Tryd.func56 rfl (fun h => by cases h) (by kernel_rfl) rfl ?_
  refine SCode.seqR ?_
  refine SOps.assign rfl ?_
  refine SOps.assign rfl ?_
  refine SOps.nil ?_
  refine SCode.seqR ?_
  refine SOps.move rfl ?_
  refine SOps.call (H := [(b, .row 84 2 [[adrB b used, accD 1 g (bs.map encY)]])]) (G := accH 5 1 g (bs.map encY)) (bCopy b used _ (accD_one ..)) rfl rfl ?_
  rintro _ _ ⟨rfl, rfl⟩
  refine SOps.nil ?_
  refine SCode.seqR ?_
  refine SOps.move rfl ?_
  refine SOps.move rfl ?_
  refine SOps.nilCheck rfl rfl ?_
  refine SOps.fieldV rfl fld1_B ?_
  refine SOps.loadRef 0 0 1 rfl flatS_B rfl rfl rfl rfl ?_
  refine SOps.move rfl ?_
  refine SOps.appendAccES [_] [] slice_B elem_B rfl rfl (by rw [List.append_nil]; rfl) str_B (by rw [bytesD_length, List.length_map]; simp only [lenB]; omega) (by rw [bytesD_length, List.length_map]; omega) (fun g' => ?_)
  refine SOps.nilCheck rfl rfl ?_
  refine SOps.fieldV rfl fld1_B ?_
  refine SOps.store 0 0 1 rfl rfl oneS_B rfl rfl rfl (by decide) (accD_one ..) ?_
  refine SOps.nil ?_
  refine SCode.seqR ?_
  refine SOps.move rfl ?_
  refine SOps.lenStr rfl str_B ?_
  refine SOps.assign rfl ?_
  refine SOps.assign rfl ?_
  refine SOps.nil ?_
  refine SCode.ret ⟨_, Res.two (.tmp rfl) (.tmp rfl), g', rfl, ?_⟩
  unfold bldH bytesD
  rw [List.map_append, List.append_nil]
  rfl

theorem bString (b g : Nat) (used : Bool) (bs : List UInt8) (hl : bs.length ≤ 70368744177664) : GCall Tryd.prog E 57 [.vref b 84 2] (bldH b g used bs) (fun d H => d = .v (.string ⟨bs.toArray⟩) ∧ H = []) := by
  refine GCall.body (C := ⟨Tryd.prog, E, false⟩) Tryd.func57 rfl (fun h => by cases h) (by kernel_rfl) rfl ?_
  refine SCode.seqR ?_
  refine SOps.assign rfl ?_
  refine SOps.nil ?_
  refine SCode.seq ?_
  refine SCode.drawSeqAt 10 (fun st => ∃ s2 : St, s2.Le st ∧ s2.get 2 = some (.v (.string ⟨bs.toArray⟩))) 8 mixed_B
    [(3, .vref b 84 2), (4, .vref b 84 2), (5, .ref b 1), (6, accD 1 g (bs.map encY)), (7, dataD g bs), (8, .vref b 84 2), (9, .vref b 84 2), (10, .ref b 1), (11, accD 1 g (bs.map encY)), (12, .v (.int .i64 (bs.length : Int)))] [3, 4, 5, 6, 7, 8, 9, 10, 11, 12]
    [[.inr 0], [.inl 0], [.inl 1], [.inl 2], [.inl 3], [.inr 0], [.inl 5], [.inl 6], [.inl 7], [.inl 8]] [[(0, .vref b 84 2)], [(3, .vref b 84 2)], [(4, .vref b 84 2)], [(5, .ref b 1)], [(6, accD 1 g (bs.map encY))], [(0, .vref b 84 2)], [(8, .vref b 84 2)], [(9, .vref b 84 2)], [(10, .ref b 1)], [(11, accD 1 g (bs.map encY))]]
    rfl (by kernel_rfl) (by kernel_rfl) (by kernel_rfl) (by kernel_rfl) rfl rfl ?_ ?_ ?_
  · refine OpsOk.cons (fun rest => SOps.move rfl (SOps.nil rfl)) ?_
    refine OpsOk.cons (fun rest => SOps.nilCheck rfl rfl (SOps.nil rfl)) ?_
    refine OpsOk.cons (fun rest => SOps.fieldV rfl fld1_B (SOps.nil rfl)) ?_
    refine OpsOk.cons (fun rest => SOps.loadRef 0 0 1 rfl flatS_B rfl rfl rfl rfl (SOps.nil rfl)) ?_
    refine OpsOk.cons (fun rest => SOps.sliceData rfl (SOps.nil rfl)) ?_
    refine OpsOk.cons (fun rest => SOps.move rfl (SOps.nil rfl)) ?_
    refine OpsOk.cons (fun rest => SOps.nilCheck rfl rfl (SOps.nil rfl)) ?_
    refine OpsOk.cons (fun rest => SOps.fieldV rfl fld1_B (SOps.nil rfl)) ?_
    refine OpsOk.cons (fun rest => SOps.loadRef 0 0 1 rfl flatS_B rfl rfl rfl rfl (SOps.nil rfl)) ?_
    refine OpsOk.cons (fun rest => SOps.lenAcc rfl slice_B (SOps.nil (by rw [List.length_map]; rfl))) ?_
    exact OpsOk.nil
  · refine SeqOk.cons (R1 := fun st => ∃ s2 : St, s2.Le st ∧ s2.n = 14 ∧ s2.get 13 = some (.v (.string ⟨bs.toArray⟩))) (fun st hle => SOps.weaken hle ?_) ?_
    · exact SOps.unsafeStr [_] [] ptr_By cells_By rfl rfl (by rw [List.append_nil]; rfl) (SOps.nil ⟨_, ⟨rfl, fun t d h => .inl h, _, .refl _, List.Sublist.refl _⟩, rfl, rfl⟩)
    · refine SeqOk.cons (fun st ⟨s2, h1, h2, h3⟩ => SOps.weaken h1 ?_) SeqOk.nil
      exact SOps.assign h3 (SOps.nil ⟨_, ⟨rfl, fun t d h => .inl h, _, .refl _, List.Sublist.refl _⟩, St.get_put_same s2 2 _⟩) rfl (by rw [h2]; rfl)
  · rintro st ⟨s2, h1, h2⟩
    refine ⟨⟨st.n, [(2, .v (.string ⟨bs.toArray⟩))], []⟩, ⟨rfl, fun t d h => .inl ?_, [], .refl _, List.nil_sublist _⟩, SCode.ret ⟨_, Res.one (.tmp rfl), rfl, rfl⟩⟩
    have h3 := h1.slots 2 _ h2
    have ht : t = 2 ∧ d = .v (.string ⟨bs.toArray⟩) := by
      have h : getL [(2, DV.v (.string ⟨bs.toArray⟩))] t = some d := h
      rw [getL_cons] at h
      split at h
      · rename_i e; exact ⟨e.symm, (Option.some.inj h).symm⟩
      · simp [getL] at h
    obtain ⟨rfl, rfl⟩ := ht
    rcases h3 with h3 | ⟨h3, _⟩
    · exact h3
    · cases h3

end Go.GH
namespace Go.GH
open Go Go.Proofs
variable {E : Env}
theorem fieldB_48_0_0 : fieldB Tryd.prog 48 0 0 = true := by kernel_rfl
theorem fieldB_48_1_1 : fieldB Tryd.prog 48 1 1 = true := by kernel_rfl
theorem flatB_4 : flatB Tryd.prog 4 = true := by kernel_rfl
theorem flatB_46 : flatB Tryd.prog 46 = true := by kernel_rfl
theorem sliceB_46_9_1 : sliceB Tryd.prog 46 9 1 = true := by kernel_rfl
theorem qText (ln : Ln) (hw : ∀ w ∈ ln.words, w.size ≤ 1048576) (hl : ln.words.length ≤ 1048576) : GCall Tryd.prog E 30 [.agg (encLn ln)] [] (fun d H => d = .v (.string (textL ln)) ∧ H = []) := by
  refine GCall.body (C := ⟨Tryd.prog, E, true⟩) Tryd.func30 rfl (fun _ => rfl) (by kernel_rfl) rfl ?_
  refine SCode.seqR ?_
  refine SOps.boxAM rfl rfl ?_
  refine SOps.assign rfl ?_
  refine SOps.nil ?_
  refine SCode.seqR ?_
  refine SOps.assign rfl ?_
  refine SOps.nil ?_
  refine SCode.seq ?_
  refine SCode.seqR ?_
  refine SOps.fieldPin rfl fieldB_48_0_0 ?_
  refine SOps.loadPin rfl flatB_46 ?_
  refine SOps.lenM rfl sliceB_46_9_1 ?_
  refine SOps.move rfl ?_
  refine SOps.nil ?_
  refine SCode.block ?_
  refine SCode.loop1 (fun (i : Nat) => (⟨27, [(1, .ipin (encLn ln)), (3, .v (.string (catW (ln.words.take i)))), (7, DStrs ln.words), (8, .v (.int .i64 (ln.words.length : Int))), (9, .v (.int .i64 (i : Int)))], []⟩ : St)) (fun (i : Nat) => i ≤ ln.words.length) (fun (i : Nat) => ln.words.length - i) (0) (by exact Nat.zero_le _) (St.Le.of ⟨(by first | rfl | (show some _ = some _; simp)), (by first | rfl | (show some _ = some _; simp)), (by first | rfl | (show some _ = some _; simp)), (by first | rfl | (show some _ = some _; simp)), (by first | rfl | (show some _ = some _; simp)), trivial⟩ rfl (by first | rfl | (simp))) ?_
  rintro i hi
  have hcs := catW_size i hw hi
  refine SCode.seqR ?_
  refine SOps.bin rfl rfl rfl ?_
  refine SOps.nil ?_
  refine SCode.seq ?_
  refine SCode.cond rfl (fun hc1 => ?_) (fun hc1 => ?_)
  · try simp only [decide_eq_true_eq, decide_eq_false_iff_not, Bool.not_eq_true', Bool.not_eq_false', beq_iff_eq, bne_iff_ne, ne_eq, beq_eq_false_iff_ne, bne_eq_false_iff_eq, Int.not_lt, Int.not_le, Nat.not_lt, Nat.not_le, Int.ofNat_lt, Int.ofNat_le, Bool.not_eq_eq_eq_not, Bool.not_true, Bool.not_false] at hc1
    refine SCode.skip ?_
    show SCode _ _ _ _
    refine SCode.seq ?_
    refine SCode.block ?_
    refine SCode.seqR ?_
    have hil : i < ln.words.length := by omega
    have hwi := hw _ (List.getElem_mem hil)
    have hct := catW_take hil
    refine SOps.move rfl ?_
    refine SOps.indexM (i) rfl rfl sliceB_46_9_1 (by first | omega | (simp only [lenB] <;> omega)) (by first | omega | (simp only [lenB] <;> omega)) ?_
    refine SOps.loadPin rfl flatB_9 ?_
    refine SOps.assign rfl ?_
    refine SOps.assign rfl ?_
    refine SOps.nil ?_
    refine SCode.seq ?_
    refine SCode.seqR ?_
    refine SOps.move rfl ?_
    refine SOps.bin rfl rfl rfl ?_
    refine SOps.nil ?_
    refine SCode.cond rfl (fun hc2 => ?_) (fun hc2 => ?_)
    · try simp only [decide_eq_true_eq, decide_eq_false_iff_not, Bool.not_eq_true', Bool.not_eq_false', beq_iff_eq, bne_iff_ne, ne_eq, beq_eq_false_iff_ne, bne_eq_false_iff_eq, Int.not_lt, Int.not_le, Nat.not_lt, Nat.not_le, Int.ofNat_lt, Int.ofNat_le, Bool.not_eq_eq_eq_not, Bool.not_true, Bool.not_false] at hc2
      have h0 : ¬ i = 0 := by omega
      have hctA := hct
      rw [if_neg h0] at hctA
      refine SCode.region ?_
      refine SOps.move rfl ?_
      refine SOps.concat rfl rfl (by simp only [lenB, ByteArray.size_append]; have : sp1.size = 1 := rfl; have : (ByteArray.mk #[32]).size = 1 := rfl; have : (ByteArray.mk #[45]).size = 1 := rfl; omega) ?_
      refine SOps.assign rfl ?_
      refine SOps.nil ?_
      show SCode _ _ _ _
      refine SCode.region ?_
      refine SOps.move rfl ?_
      refine SOps.move rfl ?_
      refine SOps.concat rfl rfl (by simp only [lenB, ByteArray.size_append]; have : sp1.size = 1 := rfl; have : (ByteArray.mk #[32]).size = 1 := rfl; have : (ByteArray.mk #[45]).size = 1 := rfl; omega) ?_
      refine SOps.assign rfl ?_
      refine SOps.nil ?_
      show SCode _ _ _ _
      refine SCode.region ?_
      refine SOps.addI rfl rfl (by first | omega | (simp only [lenB] <;> omega)) (by first | omega | (simp only [lenB] <;> omega)) ?_
      refine SOps.move rfl ?_
      refine SOps.nil ?_
      first
        | exact ⟨i + 1, by omega, by omega, St.Le.of ⟨rfl, congrArg (fun z => some (DV.v (.string z))) hctA.symm, rfl, rfl, rfl, trivial⟩⟩
        | exact ⟨i + 1, by omega, by omega, St.Le.of ⟨rfl, congrArg (fun z => some (DV.v (.string z))) hctB.symm, rfl, rfl, rfl, trivial⟩⟩
    · try simp only [decide_eq_true_eq, decide_eq_false_iff_not, Bool.not_eq_true', Bool.not_eq_false', beq_iff_eq, bne_iff_ne, ne_eq, beq_eq_false_iff_ne, bne_eq_false_iff_eq, Int.not_lt, Int.not_le, Nat.not_lt, Nat.not_le, Int.ofNat_lt, Int.ofNat_le, Bool.not_eq_eq_eq_not, Bool.not_true, Bool.not_false] at hc2
      have h0 : i = 0 := by omega
      have hctB : (catW (ln.words.take (i + 1))) = (catW (ln.words.take i)) ++ ln.words[i] := by rw [hct, if_pos h0, show (catW (ln.words.take i)) = .empty from by rw [h0]; rfl, ByteArray.empty_append]
      refine SCode.skip ?_
      show SCode _ _ _ _
      refine SCode.region ?_
      refine SOps.move rfl ?_
      refine SOps.move rfl ?_
      refine SOps.concat rfl rfl (by simp only [lenB, ByteArray.size_append]; have : sp1.size = 1 := rfl; have : (ByteArray.mk #[32]).size = 1 := rfl; have : (ByteArray.mk #[45]).size = 1 := rfl; omega) ?_
      refine SOps.assign rfl ?_
      refine SOps.nil ?_
      show SCode _ _ _ _
      refine SCode.region ?_
      refine SOps.addI rfl rfl (by first | omega | (simp only [lenB] <;> omega)) (by first | omega | (simp only [lenB] <;> omega)) ?_
      refine SOps.move rfl ?_
      refine SOps.nil ?_
      first
        | exact ⟨i + 1, by omega, by omega, St.Le.of ⟨rfl, congrArg (fun z => some (DV.v (.string z))) hctA.symm, rfl, rfl, rfl, trivial⟩⟩
        | exact ⟨i + 1, by omega, by omega, St.Le.of ⟨rfl, congrArg (fun z => some (DV.v (.string z))) hctB.symm, rfl, rfl, rfl, trivial⟩⟩
  · try simp only [decide_eq_true_eq, decide_eq_false_iff_not, Bool.not_eq_true', Bool.not_eq_false', beq_iff_eq, bne_iff_ne, ne_eq, beq_eq_false_iff_ne, bne_eq_false_iff_eq, Int.not_lt, Int.not_le, Nat.not_lt, Nat.not_le, Int.ofNat_lt, Int.ofNat_le, Bool.not_eq_eq_eq_not, Bool.not_true, Bool.not_false] at hc1
    refine SCode.exit ?_
    show SCode _ _ _ _
    refine SCode.seq ?_
    refine SCode.seqR ?_
    refine SOps.fieldPin rfl fieldB_48_1_1 ?_
    refine SOps.loadPin rfl flatB_4 ?_
    refine SOps.nil ?_
    refine SCode.cond rfl (fun hc3 => ?_) (fun hc3 => ?_)
    · try simp only [decide_eq_true_eq, decide_eq_false_iff_not, Bool.not_eq_true', Bool.not_eq_false', beq_iff_eq, bne_iff_ne, ne_eq, beq_eq_false_iff_ne, bne_eq_false_iff_eq, Int.not_lt, Int.not_le, Nat.not_lt, Nat.not_le, Int.ofNat_lt, Int.ofNat_le, Bool.not_eq_eq_eq_not, Bool.not_true, Bool.not_false] at hc3
      refine SCode.region ?_
      refine SOps.move rfl ?_
      refine SOps.concat rfl rfl (by simp only [lenB, ByteArray.size_append]; have : sp1.size = 1 := rfl; have : (ByteArray.mk #[32]).size = 1 := rfl; have : (ByteArray.mk #[45]).size = 1 := rfl; omega) ?_
      refine SOps.assign rfl ?_
      refine SOps.nil ?_
      show SCode _ _ _ _
      refine SCode.seqR ?_
      refine SOps.move rfl ?_
      refine SOps.assign rfl ?_
      refine SOps.nil ?_
      refine SCode.ret ?_
      exact ⟨_, Res.one (.tmp rfl), by rw [textL, List.take_of_length_le (show ln.words.length ≤ i by omega)]; simp_all [hy1], rfl⟩
    · try simp only [decide_eq_true_eq, decide_eq_false_iff_not, Bool.not_eq_true', Bool.not_eq_false', beq_iff_eq, bne_iff_ne, ne_eq, beq_eq_false_iff_ne, bne_eq_false_iff_eq, Int.not_lt, Int.not_le, Nat.not_lt, Nat.not_le, Int.ofNat_lt, Int.ofNat_le, Bool.not_eq_eq_eq_not, Bool.not_true, Bool.not_false] at hc3
      refine SCode.skip ?_
      show SCode _ _ _ _
      refine SCode.seqR ?_
      refine SOps.move rfl ?_
      refine SOps.assign rfl ?_
      refine SOps.nil ?_
      refine SCode.ret ?_
      exact ⟨_, Res.one (.tmp rfl), by rw [textL, List.take_of_length_le (show ln.words.length ≤ i by omega)]; simp_all [hy1], rfl⟩
end Go.GH
namespace Go.GH
open Go Go.Proofs
variable {E : Env}
theorem zeroBld : zeroIs Tryd.prog 84 (.agg #[.pointer none, .slice none 0 0]) := by unfold zeroIs; kernel_rfl
theorem sText (ln : Ln) (hw : ∀ w ∈ ln.words, w.size ≤ 1048576) (hl : ln.words.length ≤ 1048576) : GCall Tryd.prog E 29 [.agg (encLn ln)] [] (fun d H => d = .v (.string (textL ln)) ∧ H = []) := by
  refine GCall.body (C := ⟨Tryd.prog, E, true⟩) Tryd.func29 rfl (fun _ => rfl) (by kernel_rfl) rfl ?_
  refine SCode.seqR ?_
  refine SOps.boxAM rfl rfl ?_
  refine SOps.assign rfl ?_
  refine SOps.nil ?_
  refine SCode.seqR ?_
  refine SOps.allocV (sz := 2) zeroBld (fun b0 hb_0 => ?_)
  refine SOps.nil ?_
  refine SCode.seq ?_
  refine SCode.seqR ?_
  refine SOps.fieldPin rfl fieldB_48_0_0 ?_
  refine SOps.loadPin rfl flatB_46 ?_
  refine SOps.lenM rfl sliceB_46_9_1 ?_
  refine SOps.move rfl ?_
  refine SOps.nil ?_
  refine SCode.block ?_
  refine SCode.loop3 (fun (i : Nat) (g : Nat) (u : Bool) => (⟨24, [(1, .ipin (encLn ln)), (3, .vref b0 84 2), (7, DStrs ln.words), (8, .v (.int .i64 (ln.words.length : Int))), (9, .v (.int .i64 (i : Int)))], bldH b0 g u (catW (ln.words.take i)).data.toList⟩ : St)) (fun (i : Nat) (g : Nat) (u : Bool) => i ≤ ln.words.length) (fun (i : Nat) (g : Nat) (u : Bool) => ln.words.length - i) (0) (0) (false) (by exact Nat.zero_le _) (St.Le.of ⟨(by first | rfl | (show some _ = some _; simp)), (by first | rfl | (show some _ = some _; simp)), (by first | rfl | (show some _ = some _; simp)), (by first | rfl | (show some _ = some _; simp)), (by first | rfl | (show some _ = some _; simp)), trivial⟩ rfl (by first | rfl | (simp))) ?_
  rintro i g u hi
  have hcs := catW_size i hw hi
  have hcl : (catW (ln.words.take i)).data.toList.length = (catW (ln.words.take i)).size := by simp
  refine SCode.seqR ?_
  refine SOps.bin rfl rfl rfl ?_
  refine SOps.nil ?_
  refine SCode.seq ?_
  refine SCode.cond rfl (fun hc1 => ?_) (fun hc1 => ?_)
  · try simp only [decide_eq_true_eq, decide_eq_false_iff_not, Bool.not_eq_true', Bool.not_eq_false', beq_iff_eq, bne_iff_ne, ne_eq, beq_eq_false_iff_ne, bne_eq_false_iff_eq, Int.not_lt, Int.not_le, Nat.not_lt, Nat.not_le, Int.ofNat_lt, Int.ofNat_le, Bool.not_eq_eq_eq_not, Bool.not_true, Bool.not_false] at hc1
    refine SCode.skip ?_
    show SCode _ _ _ _
    refine SCode.seq ?_
    refine SCode.block ?_
    refine SCode.seqR ?_
    have hil : i < ln.words.length := by omega
    have hwi := hw _ (List.getElem_mem hil)
    have hct := catW_take hil
    refine SOps.move rfl ?_
    refine SOps.indexM (i) rfl rfl sliceB_46_9_1 (by first | omega | (simp only [lenB] <;> omega)) (by first | omega | (simp only [lenB] <;> omega)) ?_
    refine SOps.loadPin rfl flatB_9 ?_
    refine SOps.assign rfl ?_
    refine SOps.assign rfl ?_
    refine SOps.nil ?_
    refine SCode.seq ?_
    refine SCode.seqR ?_
    refine SOps.move rfl ?_
    refine SOps.bin rfl rfl rfl ?_
    refine SOps.nil ?_
    refine SCode.cond rfl (fun hc2 => ?_) (fun hc2 => ?_)
    · try simp only [decide_eq_true_eq, decide_eq_false_iff_not, Bool.not_eq_true', Bool.not_eq_false', beq_iff_eq, bne_iff_ne, ne_eq, beq_eq_false_iff_ne, bne_eq_false_iff_eq, Int.not_lt, Int.not_le, Nat.not_lt, Nat.not_le, Int.ofNat_lt, Int.ofNat_le, Bool.not_eq_eq_eq_not, Bool.not_true, Bool.not_false] at hc2
      have h0 : ¬ i = 0 := by omega
      have hctA : (catW (ln.words.take (i + 1))).data.toList = (catW (ln.words.take i)).data.toList ++ [32] ++ (ln.words[i]).data.toList := by rw [hct, if_neg h0, data_app2, data_app2]; rfl
      refine SCode.region ?_
      refine SOps.callR (bldH _ _ _ _) [] (bWriteByte _ _ _ _ 32 (by first | (simp; omega) | (simp [ByteArray.size_append]; omega))) rfl rfl ?_
      rintro _ _ ⟨g7, rfl, rfl⟩
      refine SOps.nil ?_
      show SCode _ _ _ _
      refine SCode.region ?_
      refine SOps.move rfl ?_
      refine SOps.callR (bldH _ _ _ _) [] (bWriteString _ _ _ _ _ (by first | (simp; omega) | (simp [ByteArray.size_append]; omega))) rfl rfl ?_
      rintro _ _ ⟨g7, rfl, rfl⟩
      refine SOps.nil ?_
      show SCode _ _ _ _
      refine SCode.region ?_
      refine SOps.addI rfl rfl (by first | omega | (simp only [lenB] <;> omega)) (by first | omega | (simp only [lenB] <;> omega)) ?_
      refine SOps.move rfl ?_
      refine SOps.nil ?_
      first
        | exact ⟨i + 1, g7, true, by omega, by omega, St.Le.of ⟨rfl, rfl, rfl, rfl, rfl, trivial⟩ rfl (congrArg (bldH b0 g7 true) hctA)⟩
        | exact ⟨i + 1, g7, true, by omega, by omega, St.Le.of ⟨rfl, rfl, rfl, rfl, rfl, trivial⟩ rfl (congrArg (bldH b0 g7 true) hctB)⟩
    · try simp only [decide_eq_true_eq, decide_eq_false_iff_not, Bool.not_eq_true', Bool.not_eq_false', beq_iff_eq, bne_iff_ne, ne_eq, beq_eq_false_iff_ne, bne_eq_false_iff_eq, Int.not_lt, Int.not_le, Nat.not_lt, Nat.not_le, Int.ofNat_lt, Int.ofNat_le, Bool.not_eq_eq_eq_not, Bool.not_true, Bool.not_false] at hc2
      have h0 : i = 0 := by omega
      have hctB : (catW (ln.words.take (i + 1))).data.toList = (catW (ln.words.take i)).data.toList ++ (ln.words[i]).data.toList := by rw [hct, if_pos h0, show (catW (ln.words.take i)) = .empty from by rw [h0]; rfl]; rfl
      refine SCode.skip ?_
      show SCode _ _ _ _
      refine SCode.region ?_
      refine SOps.move rfl ?_
      refine SOps.callR (bldH _ _ _ _) [] (bWriteString _ _ _ _ _ (by first | (simp; omega) | (simp [ByteArray.size_append]; omega))) rfl rfl ?_
      rintro _ _ ⟨g7, rfl, rfl⟩
      refine SOps.nil ?_
      show SCode _ _ _ _
      refine SCode.region ?_
      refine SOps.addI rfl rfl (by first | omega | (simp only [lenB] <;> omega)) (by first | omega | (simp only [lenB] <;> omega)) ?_
      refine SOps.move rfl ?_
      refine SOps.nil ?_
      first
        | exact ⟨i + 1, g7, true, by omega, by omega, St.Le.of ⟨rfl, rfl, rfl, rfl, rfl, trivial⟩ rfl (congrArg (bldH b0 g7 true) hctA)⟩
        | exact ⟨i + 1, g7, true, by omega, by omega, St.Le.of ⟨rfl, rfl, rfl, rfl, rfl, trivial⟩ rfl (congrArg (bldH b0 g7 true) hctB)⟩
  · try simp only [decide_eq_true_eq, decide_eq_false_iff_not, Bool.not_eq_true', Bool.not_eq_false', beq_iff_eq, bne_iff_ne, ne_eq, beq_eq_false_iff_ne, bne_eq_false_iff_eq, Int.not_lt, Int.not_le, Nat.not_lt, Nat.not_le, Int.ofNat_lt, Int.ofNat_le, Bool.not_eq_eq_eq_not, Bool.not_true, Bool.not_false] at hc1
    refine SCode.exit ?_
    show SCode _ _ _ _
    refine SCode.seq ?_
    refine SCode.seqR ?_
    refine SOps.fieldPin rfl fieldB_48_1_1 ?_
    refine SOps.loadPin rfl flatB_4 ?_
    refine SOps.nil ?_
    refine SCode.cond rfl (fun hc3 => ?_) (fun hc3 => ?_)
    · try simp only [decide_eq_true_eq, decide_eq_false_iff_not, Bool.not_eq_true', Bool.not_eq_false', beq_iff_eq, bne_iff_ne, ne_eq, beq_eq_false_iff_ne, bne_eq_false_iff_eq, Int.not_lt, Int.not_le, Nat.not_lt, Nat.not_le, Int.ofNat_lt, Int.ofNat_le, Bool.not_eq_eq_eq_not, Bool.not_true, Bool.not_false] at hc3
      have hk9 : ln.words.take i = ln.words := List.take_of_length_le (by omega)
      have hx : textL ln = catW ln.words ++ hy1 := by rw [textL, if_pos hc3]
      refine SCode.region ?_
      refine SOps.callR (bldH _ _ _ _) [] (bWriteByte _ _ _ _ 45 (by first | (simp; omega) | (simp [ByteArray.size_append]; omega))) rfl rfl ?_
      rintro _ _ ⟨g7, rfl, rfl⟩
      refine SOps.nil ?_
      show SCode _ _ _ _
      refine SCode.seqR ?_
      refine SOps.callR (bldH _ _ _ _) [] (bString _ _ _ _ (by first | (simp; omega) | (simp [ByteArray.size_append]; omega))) rfl rfl ?_
      rintro _ _ ⟨rfl, rfl⟩
      refine SOps.assign rfl ?_
      refine SOps.nil ?_
      refine SCode.ret ?_
      exact ⟨_, Res.one (.tmp rfl), (by rw [hx]; exact congrArg (fun z => DV.v (.string z)) (by rw [hk9]; exact ba_list (catW ln.words ++ hy1))), rfl⟩
    · try simp only [decide_eq_true_eq, decide_eq_false_iff_not, Bool.not_eq_true', Bool.not_eq_false', beq_iff_eq, bne_iff_ne, ne_eq, beq_eq_false_iff_ne, bne_eq_false_iff_eq, Int.not_lt, Int.not_le, Nat.not_lt, Nat.not_le, Int.ofNat_lt, Int.ofNat_le, Bool.not_eq_eq_eq_not, Bool.not_true, Bool.not_false] at hc3
      have hk9 : ln.words.take i = ln.words := List.take_of_length_le (by omega)
      have hx : textL ln = catW ln.words := by rw [textL, if_neg (by rw [hc3]; simp)]
      refine SCode.skip ?_
      show SCode _ _ _ _
      refine SCode.seqR ?_
      refine SOps.callR (bldH _ _ _ _) [] (bString _ _ _ _ (by first | (simp; omega) | (simp [ByteArray.size_append]; omega))) rfl rfl ?_
      rintro _ _ ⟨rfl, rfl⟩
      refine SOps.assign rfl ?_
      refine SOps.nil ?_
      refine SCode.ret ?_
      exact ⟨_, Res.one (.tmp rfl), (by rw [hx]; exact congrArg (fun z => DV.v (.string z)) (by rw [hk9] <;> exact ba_list (catW ln.words))), rfl⟩
end Go.GH
namespace Go.GH
open Go Go.Lib
def pairL (l : Ln) : Bool × List ByteArray := (l.hyph, l.words)
def lnsEq (x y : List Ln) : Bool := decide (x.map pairL = y.map pairL)
def bigB (n m : Nat) (b : Bx) : Bool := decide (n < b.word.size) || decide (m < b.pts.length)
def cntB (l : List Bx) : Nat := 1 + (l.map (fun b => 1 + b.pts.length)).sum
def largeB (l : List Bx) : Bool := l.any (bigB 300 11) || decide (11 < cntB l)
def manyB (l : List Bx) : Bool := l.any (bigB 100 20) || decide (40 < l.length)
def hyphN (l : List Ln) : Nat := (l.filter (·.hyph)).length
def bigL (l : Ln) : Bool := decide (30 < l.words.length) || l.words.any (fun w => decide (300 < w.size))
def wideLs (l : List Ln) : Bool := decide (30 < l.length) || l.any bigL
theorem cntB_take {l : List Bx} {i : Nat} (h : i < l.length) : cntB (l.take (i + 1)) = cntB (l.take i) + (1 + (l[i]).pts.length) := by
  unfold cntB
  rw [List.take_add_one, List.getElem?_eq_getElem h, List.map_append, List.sum_append]
  show 1 + (_ + ([1 + (l[i]).pts.length]).sum) = _
  rw [List.sum_cons, List.sum_nil]
  omega
theorem cntB_mono (l : List Bx) (i : Nat) : cntB (l.take i) ≤ cntB l := by
  unfold cntB
  have := congrArg List.sum (congrArg (List.map (fun b : Bx => 1 + b.pts.length)) (List.take_append_drop i l))
  rw [List.map_append, List.sum_append] at this
  omega
theorem hyphN_take {l : List Ln} {i : Nat} (h : i < l.length) : hyphN (l.take (i + 1)) = hyphN (l.take i) + if (l[i]).hyph then 1 else 0 := by
  unfold hyphN
  rw [List.take_add_one, List.getElem?_eq_getElem h, List.filter_append, List.length_append]
  cases hh : (l[i]).hyph <;> simp [hh]
theorem hyphN_le (l : List Ln) : hyphN l ≤ l.length := List.length_filter_le _ _
theorem largeB_bad {l : List Bx} {i : Nat} (h : i < l.length) (h2 : bigB 300 11 l[i] = true) : largeB l = true := by
  unfold largeB; rw [List.any_eq_true.2 ⟨_, List.getElem_mem h, h2⟩]; rfl
theorem manyB_bad {l : List Bx} {i : Nat} (h : i < l.length) (h2 : bigB 100 20 l[i] = true) : manyB l = true := by
  unfold manyB; rw [List.any_eq_true.2 ⟨_, List.getElem_mem h, h2⟩]; rfl
theorem bigB_iff {n m : Nat} {b : Bx} : bigB n m b = true ↔ n < b.word.size ∨ m < b.pts.length := by simp [bigB]
theorem pair_take {x y : List Ln} {i : Nat} (hx : i < x.length) (hy : i < y.length) (hf : (x.take i).map pairL = (y.take i).map pairL) (h : pairL x[i] = pairL y[i]) : (x.take (i + 1)).map pairL = (y.take (i + 1)).map pairL := by
  rw [List.take_add_one, List.take_add_one, List.getElem?_eq_getElem hx, List.getElem?_eq_getElem hy, List.map_append, List.map_append, hf]
  simp [h]
end Go.GH
namespace Go.GH
open Go Go.Proofs
variable {E : Env}
theorem aggB_48_2 : aggB Tryd.prog 48 2 = true := by kernel_rfl
theorem boolTy_4 : boolTy Tryd.prog 4 = true := by kernel_rfl
theorem sliceB_25_48_2 : sliceB Tryd.prog 25 48 2 = true := by kernel_rfl
theorem zeroIs_48 : zeroIs Tryd.prog 48 (.agg #[.slice none 0 0, .bool false]) := by unfold zeroIs; kernel_rfl
theorem qWords (x y : List ByteArray)  : GCall Tryd.prog E 31 [DStrs x, DStrs y] [] (fun d H => d = .v (.bool (decide (x = y))) ∧ H = []) := by
  refine GCall.body (C := ⟨Tryd.prog, E, true⟩) Tryd.func31 rfl (fun _ => rfl) (by kernel_rfl) rfl ?_
  refine SCode.seqR ?_
  refine SOps.assign rfl ?_
  refine SOps.nil ?_
  refine SCode.seq ?_
  refine SCode.seqR ?_
  refine SOps.move rfl ?_
  refine SOps.lenM rfl sliceB_46_9_1 ?_
  refine SOps.move rfl ?_
  refine SOps.lenM rfl sliceB_46_9_1 ?_
  refine SOps.bin rfl rfl rfl ?_
  refine SOps.nil ?_
  refine SCode.cond rfl (fun hc1 => ?_) (fun hc1 => ?_)
  · try simp only [decide_eq_true_eq, decide_eq_false_iff_not, Bool.not_eq_true', Bool.not_eq_false', beq_iff_eq, bne_iff_ne, ne_eq, beq_eq_false_iff_ne, bne_eq_false_iff_eq, Int.not_lt, Int.not_le, Nat.not_lt, Nat.not_le, Int.ofNat_lt, Int.ofNat_le, Bool.not_eq_eq_eq_not, Bool.not_true, Bool.not_false] at hc1
    refine SCode.seqR ?_
    refine SOps.assign rfl ?_
    refine SOps.nil ?_
    refine SCode.ret ?_
    exact ⟨_, Res.one (.tmp rfl), congrArg (fun b => DV.v (.bool b)) ((decide_eq_false (fun e => hc1 (by rw [e]))).symm), rfl⟩
  · try simp only [decide_eq_true_eq, decide_eq_false_iff_not, Bool.not_eq_true', Bool.not_eq_false', beq_iff_eq, bne_iff_ne, ne_eq, beq_eq_false_iff_ne, bne_eq_false_iff_eq, Int.not_lt, Int.not_le, Nat.not_lt, Nat.not_le, Int.ofNat_lt, Int.ofNat_le, Bool.not_eq_eq_eq_not, Bool.not_true, Bool.not_false] at hc1
    refine SCode.skip ?_
    show SCode _ _ _ _
    refine SCode.seq ?_
    refine SCode.seqR ?_
    refine SOps.move rfl ?_
    refine SOps.lenM rfl sliceB_46_9_1 ?_
    refine SOps.move rfl ?_
    refine SOps.nil ?_
    refine SCode.block ?_
    refine SCode.loop1 (fun (i : Nat) => (⟨26, [(0, DStrs x), (1, DStrs y), (11, DStrs x), (12, .v (.int .i64 (x.length : Int))), (13, .v (.int .i64 (i : Int)))], []⟩ : St)) (fun (i : Nat) => i ≤ x.length ∧ x.take i = y.take i) (fun (i : Nat) => x.length - i) (0) (by simp) (St.Le.of ⟨(by first | rfl | (show some _ = some _; simp)), (by first | rfl | (show some _ = some _; simp)), (by first | rfl | (show some _ = some _; simp)), (by first | rfl | (show some _ = some _; simp)), (by first | rfl | (show some _ = some _; simp)), trivial⟩ rfl (by first | rfl | (simp))) ?_
    rintro i ⟨hi, hf⟩
    refine SCode.fact (isl_len (t := 0) rfl) (fun hB => ?_)
    simp only [List.length_map, lenB] at hB
    refine SCode.seqR ?_
    refine SOps.bin rfl rfl rfl ?_
    refine SOps.nil ?_
    refine SCode.seq ?_
    refine SCode.cond rfl (fun hc2 => ?_) (fun hc2 => ?_)
    · try simp only [decide_eq_true_eq, decide_eq_false_iff_not, Bool.not_eq_true', Bool.not_eq_false', beq_iff_eq, bne_iff_ne, ne_eq, beq_eq_false_iff_ne, bne_eq_false_iff_eq, Int.not_lt, Int.not_le, Nat.not_lt, Nat.not_le, Int.ofNat_lt, Int.ofNat_le, Bool.not_eq_eq_eq_not, Bool.not_true, Bool.not_false] at hc2
      refine SCode.skip ?_
      show SCode _ _ _ _
      refine SCode.seq ?_
      refine SCode.block ?_
      refine SCode.seqR ?_
      refine SOps.move rfl ?_
      refine SOps.assign rfl ?_
      refine SOps.nil ?_
      refine SCode.seq ?_
      have hx : i < x.length := by omega
      have hy : i < y.length := by omega
      apply SCode.drawAuto mixed_ [16, 17, 18, 19, 20, 21, 22, 23, 24] [[.inr 0], [.inr 5], [.inl 0, .inl 1], [.inl 2], [.inr 1], [.inr 5], [.inl 4, .inl 5], [.inl 6], [.inl 3, .inl 7]]
      · kernel_rfl
      · kernel_rfl
      · apply DOk.cons 16 
        · rfl
        · exact (NeedIs.inr _ rfl NeedIs.nil)
        · intro rest
          refine SOps.move rfl ?_
          exact SOps.nil rfl
        apply DOk.cons 17 
        · rfl
        · exact (NeedIs.inr _ rfl NeedIs.nil)
        · intro rest
          refine SOps.move rfl ?_
          exact SOps.nil rfl
        apply DOk.cons 18 
        · rfl
        · exact (NeedIs.inl 1 _ _ rfl rfl (NeedIs.inl 0 _ _ rfl rfl NeedIs.nil))
        · intro rest
          refine SOps.indexM (i) rfl rfl sliceB_46_9_1 (by first | omega | (simp only [lenB] <;> omega)) (by first | omega | (simp only [lenB] <;> omega)) ?_
          exact SOps.nil rfl
        apply DOk.cons 19 
        · rfl
        · exact (NeedIs.inl 0 _ _ rfl rfl NeedIs.nil)
        · intro rest
          refine SOps.loadPin rfl flatB_9 ?_
          exact SOps.nil rfl
        apply DOk.cons 20 
        · rfl
        · exact (NeedIs.inr _ rfl NeedIs.nil)
        · intro rest
          refine SOps.move rfl ?_
          exact SOps.nil rfl
        apply DOk.cons 21 
        · rfl
        · exact (NeedIs.inr _ rfl NeedIs.nil)
        · intro rest
          refine SOps.move rfl ?_
          exact SOps.nil rfl
        apply DOk.cons 22 
        · rfl
        · exact (NeedIs.inl 1 _ _ rfl rfl (NeedIs.inl 0 _ _ rfl rfl NeedIs.nil))
        · intro rest
          refine SOps.indexM (i) rfl rfl sliceB_46_9_1 (by first | omega | (simp only [lenB] <;> omega)) (by first | omega | (simp only [lenB] <;> omega)) ?_
          exact SOps.nil rfl
        apply DOk.cons 23 
        · rfl
        · exact (NeedIs.inl 0 _ _ rfl rfl NeedIs.nil)
        · intro rest
          refine SOps.loadPin rfl flatB_9 ?_
          exact SOps.nil rfl
        apply DOk.cons 24 
        · rfl
        · exact (NeedIs.inl 4 _ _ rfl rfl (NeedIs.inl 0 _ _ rfl rfl NeedIs.nil))
        · intro rest
          refine SOps.bin rfl rfl rfl ?_
          exact SOps.nil rfl
        exact DOk.nil
      · rfl
      · show SCode _ _ _ _
        refine SCode.cond rfl (fun hc3 => ?_) (fun hc3 => ?_)
        · try simp only [decide_eq_true_eq, decide_eq_false_iff_not, Bool.not_eq_true', Bool.not_eq_false', beq_iff_eq, bne_iff_ne, ne_eq, beq_eq_false_iff_ne, bne_eq_false_iff_eq, Int.not_lt, Int.not_le, Nat.not_lt, Nat.not_le, Int.ofNat_lt, Int.ofNat_le, Bool.not_eq_eq_eq_not, Bool.not_true, Bool.not_false] at hc3
          refine SCode.seqR ?_
          refine SOps.assign rfl ?_
          refine SOps.nil ?_
          refine SCode.ret ?_
          exact ⟨_, Res.one (.tmp rfl), congrArg (fun b => DV.v (.bool b)) ((decide_eq_false (fun e => by subst e; simp at hc3)).symm), rfl⟩
        · try simp only [decide_eq_true_eq, decide_eq_false_iff_not, Bool.not_eq_true', Bool.not_eq_false', beq_iff_eq, bne_iff_ne, ne_eq, beq_eq_false_iff_ne, bne_eq_false_iff_eq, Int.not_lt, Int.not_le, Nat.not_lt, Nat.not_le, Int.ofNat_lt, Int.ofNat_le, Bool.not_eq_eq_eq_not, Bool.not_true, Bool.not_false] at hc3
          refine SCode.skip ?_
          show SCode _ _ _ _
          refine SCode.region ?_
          refine SOps.addI rfl rfl (by first | omega | (simp only [lenB] <;> omega)) (by first | omega | (simp only [lenB] <;> omega)) ?_
          refine SOps.move rfl ?_
          refine SOps.nil ?_
          exact ⟨i + 1, by exact ⟨by omega, take_eq_succ hx hy hf (by simpa using hc3)⟩, by omega, (St.Le.of ⟨(by first | rfl | (show some _ = some _; simp)), (by first | rfl | (show some _ = some _; simp)), (by first | rfl | (show some _ = some _; simp)), (by first | rfl | (show some _ = some _; simp)), (by first | rfl | (show some _ = some _; simp)), trivial⟩ rfl (by first | rfl | (simp)))⟩
    · try simp only [decide_eq_true_eq, decide_eq_false_iff_not, Bool.not_eq_true', Bool.not_eq_false', beq_iff_eq, bne_iff_ne, ne_eq, beq_eq_false_iff_ne, bne_eq_false_iff_eq, Int.not_lt, Int.not_le, Nat.not_lt, Nat.not_le, Int.ofNat_lt, Int.ofNat_le, Bool.not_eq_eq_eq_not, Bool.not_true, Bool.not_false] at hc2
      refine SCode.exit ?_
      show SCode _ _ _ _
      refine SCode.seqR ?_
      refine SOps.assign rfl ?_
      refine SOps.nil ?_
      refine SCode.ret ?_
      exact ⟨_, Res.one (.tmp rfl), congrArg (fun b => DV.v (.bool b)) ((decide_eq_true (take_full (by omega) (by omega) hf)).symm), rfl⟩
theorem lLarge (l : List Bx)  : GCall Tryd.prog E 13 [DBxs l] [] (fun d H => d = .v (.bool (largeB l)) ∧ H = []) := by
  refine GCall.body (C := ⟨Tryd.prog, E, true⟩) Tryd.func13 rfl (fun _ => rfl) (by kernel_rfl) rfl ?_
  refine SCode.seqR ?_
  refine SOps.assign rfl ?_
  refine SOps.nil ?_
  refine SCode.seqR ?_
  refine SOps.assign rfl ?_
  refine SOps.nil ?_
  refine SCode.seq ?_
  refine SCode.seqR ?_
  refine SOps.move rfl ?_
  refine SOps.lenM rfl sliceB_22_43_2 ?_
  refine SOps.move rfl ?_
  refine SOps.nil ?_
  refine SCode.block ?_
  refine SCode.loop1 (fun (k : Nat) => (⟨31, [(3, .v (.int .i64 (((cntB (l.take k)) : Nat) : Int))), (6, DBxs l), (7, .v (.int .i64 (l.length : Int))), (8, .v (.int .i64 (k : Int)))], []⟩ : St)) (fun (k : Nat) => k ≤ l.length ∧ cntB (l.take k) ≤ 11 ∧ ∀ x ∈ l.take k, bigB 300 11 x = false) (fun (k : Nat) => l.length - k) (0) (by exact ⟨Nat.zero_le _, (by rw [List.take_zero]; decide), by simp⟩) (St.Le.of ⟨(by first | rfl | (show some _ = some _; simp)), (by first | rfl | (show some _ = some _; simp)), (by first | rfl | (show some _ = some _; simp)), (by first | rfl | (show some _ = some _; simp)), trivial⟩ rfl (by first | rfl | (simp))) ?_
  rintro k ⟨hk, hcn, hg⟩
  refine SCode.fact (isl_len (t := 6) rfl) (fun hB => ?_)
  simp only [List.length_map, lenB] at hB
  refine SCode.seqR ?_
  refine SOps.bin rfl rfl rfl ?_
  refine SOps.nil ?_
  refine SCode.seq ?_
  refine SCode.cond rfl (fun hc1 => ?_) (fun hc1 => ?_)
  · try simp only [decide_eq_true_eq, decide_eq_false_iff_not, Bool.not_eq_true', Bool.not_eq_false', beq_iff_eq, bne_iff_ne, ne_eq, beq_eq_false_iff_ne, bne_eq_false_iff_eq, Int.not_lt, Int.not_le, Nat.not_lt, Nat.not_le, Int.ofNat_lt, Int.ofNat_le, Bool.not_eq_eq_eq_not, Bool.not_true, Bool.not_false] at hc1
    refine SCode.skip ?_
    show SCode _ _ _ _
    refine SCode.seq ?_
    refine SCode.block ?_
    refine SCode.seqR ?_
    refine SOps.indexM (k) rfl rfl sliceB_22_43_2 (by first | omega | (simp only [lenB] <;> omega)) (by first | omega | (simp only [lenB] <;> omega)) ?_
    refine SOps.loadPinA rfl aggB_43_2 (Nat.le_of_ble_eq_true rfl) ?_
    refine SOps.alloc (sz := 2) zeroIs_43 (fun b0 hb_0 => ?_)
    refine SOps.storeAM 0 rfl rfl aggB_43_2 rfl ?_
    refine SOps.freezeRef (t := 5) 0 0 rfl rfl rfl rfl rfl ?_
    refine SOps.nil ?_
    refine SCode.seq ?_
    refine SCode.seqR ?_
    have hkl : k < l.length := by omega
    have hct := cntB_take hkl
    have hcm := cntB_mono l (k + 1)
    refine SOps.fieldPin rfl fieldB_43_0_0 ?_
    refine SOps.loadPin rfl flatB_9 ?_
    refine SOps.lenStr rfl strB_9 ?_
    refine SOps.bin rfl rfl rfl ?_
    refine SOps.move rfl ?_
    refine SOps.caseB 16 rfl (fun hb2 => ?_) (fun hb2 => ?_)
    · try simp only [decide_eq_true_eq, decide_eq_false_iff_not, Bool.not_eq_true', Bool.not_eq_false', beq_iff_eq, bne_iff_ne, ne_eq, beq_eq_false_iff_ne, bne_eq_false_iff_eq, Int.not_lt, Int.not_le, Nat.not_lt, Nat.not_le, Int.ofNat_lt, Int.ofNat_le, Bool.not_eq_eq_eq_not, Bool.not_true, Bool.not_false] at hb2
      refine SOps.skip rfl ?_
      refine SOps.skip rfl ?_
      refine SOps.skip rfl ?_
      refine SOps.skip rfl ?_
      refine SOps.pick rfl rfl ?_
      refine SOps.nil ?_
      refine SCode.cond rfl (fun _ => ?_) (fun h => by cases h)
      refine SCode.seqR ?_
      refine SOps.assign rfl ?_
      refine SOps.nil ?_
      refine SCode.ret ?_
      exact ⟨_, Res.one (.tmp rfl), congrArg (fun b => DV.v (.bool b)) (by first | exact (largeB_bad hkl (bigB_iff.2 (by omega))).symm | (unfold largeB; rw [decide_eq_true (show 11 < cntB l by omega), Bool.or_true]) | (have hkk : l.take k = l := List.take_of_length_le (by omega); rw [hkk] at hcn hg; unfold largeB; rw [decide_eq_false (show ¬ 11 < cntB l by omega), List.any_eq_false.2 (fun x hx => by rw [hg x hx]; simp)]; rfl)), rfl⟩
    · try simp only [decide_eq_true_eq, decide_eq_false_iff_not, Bool.not_eq_true', Bool.not_eq_false', beq_iff_eq, bne_iff_ne, ne_eq, beq_eq_false_iff_ne, bne_eq_false_iff_eq, Int.not_lt, Int.not_le, Nat.not_lt, Nat.not_le, Int.ofNat_lt, Int.ofNat_le, Bool.not_eq_eq_eq_not, Bool.not_true, Bool.not_false] at hb2
      refine SOps.fieldPin rfl fieldB_43_1_1 ?_
      refine SOps.loadPin rfl flatB_41 ?_
      refine SOps.lenM rfl sliceB_41_3_1 ?_
      refine SOps.bin rfl rfl rfl ?_
      refine SOps.pick rfl rfl ?_
      refine SOps.nil ?_
      refine SCode.cond rfl (fun hc3 => ?_) (fun hc3 => ?_)
      · try simp only [decide_eq_true_eq, decide_eq_false_iff_not, Bool.not_eq_true', Bool.not_eq_false', beq_iff_eq, bne_iff_ne, ne_eq, beq_eq_false_iff_ne, bne_eq_false_iff_eq, Int.not_lt, Int.not_le, Nat.not_lt, Nat.not_le, Int.ofNat_lt, Int.ofNat_le, Bool.not_eq_eq_eq_not, Bool.not_true, Bool.not_false] at hc3
        refine SCode.seqR ?_
        refine SOps.assign rfl ?_
        refine SOps.nil ?_
        refine SCode.ret ?_
        exact ⟨_, Res.one (.tmp rfl), congrArg (fun b => DV.v (.bool b)) (by first | exact (largeB_bad hkl (bigB_iff.2 (by omega))).symm | (unfold largeB; rw [decide_eq_true (show 11 < cntB l by omega), Bool.or_true]) | (have hkk : l.take k = l := List.take_of_length_le (by omega); rw [hkk] at hcn hg; unfold largeB; rw [decide_eq_false (show ¬ 11 < cntB l by omega), List.any_eq_false.2 (fun x hx => by rw [hg x hx]; simp)]; rfl)), rfl⟩
      · try simp only [decide_eq_true_eq, decide_eq_false_iff_not, Bool.not_eq_true', Bool.not_eq_false', beq_iff_eq, bne_iff_ne, ne_eq, beq_eq_false_iff_ne, bne_eq_false_iff_eq, Int.not_lt, Int.not_le, Nat.not_lt, Nat.not_le, Int.ofNat_lt, Int.ofNat_le, Bool.not_eq_eq_eq_not, Bool.not_true, Bool.not_false] at hc3
        refine SCode.skip ?_
        show SCode _ _ _ _
        refine SCode.seqR ?_
        refine SOps.move rfl ?_
        refine SOps.addI rfl rfl (by first | omega | (simp only [lenB] <;> omega)) (by first | omega | (simp only [lenB] <;> omega)) ?_
        refine SOps.fieldPin rfl fieldB_43_1_1 ?_
        refine SOps.loadPin rfl flatB_41 ?_
        refine SOps.lenM rfl sliceB_41_3_1 ?_
        refine SOps.addI rfl rfl (by first | omega | (simp only [lenB] <;> omega)) (by first | omega | (simp only [lenB] <;> omega)) ?_
        refine SOps.assign rfl ?_
        refine SOps.nil ?_
        refine SCode.seqR ?_
        refine SOps.move rfl ?_
        refine SOps.bin rfl rfl rfl ?_
        refine SOps.nil ?_
        refine SCode.cond rfl (fun hc4 => ?_) (fun hc4 => ?_)
        · try simp only [decide_eq_true_eq, decide_eq_false_iff_not, Bool.not_eq_true', Bool.not_eq_false', beq_iff_eq, bne_iff_ne, ne_eq, beq_eq_false_iff_ne, bne_eq_false_iff_eq, Int.not_lt, Int.not_le, Nat.not_lt, Nat.not_le, Int.ofNat_lt, Int.ofNat_le, Bool.not_eq_eq_eq_not, Bool.not_true, Bool.not_false] at hc4
          refine SCode.seqR ?_
          refine SOps.assign rfl ?_
          refine SOps.nil ?_
          refine SCode.ret ?_
          exact ⟨_, Res.one (.tmp rfl), congrArg (fun b => DV.v (.bool b)) (by first | exact (largeB_bad hkl (bigB_iff.2 (by omega))).symm | (unfold largeB; rw [decide_eq_true (show 11 < cntB l by omega), Bool.or_true]) | (have hkk : l.take k = l := List.take_of_length_le (by omega); rw [hkk] at hcn hg; unfold largeB; rw [decide_eq_false (show ¬ 11 < cntB l by omega), List.any_eq_false.2 (fun x hx => by rw [hg x hx]; simp)]; rfl)), rfl⟩
        · try simp only [decide_eq_true_eq, decide_eq_false_iff_not, Bool.not_eq_true', Bool.not_eq_false', beq_iff_eq, bne_iff_ne, ne_eq, beq_eq_false_iff_ne, bne_eq_false_iff_eq, Int.not_lt, Int.not_le, Nat.not_lt, Nat.not_le, Int.ofNat_lt, Int.ofNat_le, Bool.not_eq_eq_eq_not, Bool.not_true, Bool.not_false] at hc4
          refine SCode.skip ?_
          show SCode _ _ _ _
          refine SCode.region ?_
          refine SOps.addI rfl rfl (by first | omega | (simp only [lenB] <;> omega)) (by first | omega | (simp only [lenB] <;> omega)) ?_
          refine SOps.move rfl ?_
          refine SOps.nil ?_
          exact ⟨k + 1, ⟨by omega, by omega, take_more hg hkl (Bool.eq_false_iff.2 (fun h => by rw [bigB_iff] at h; omega))⟩, by omega, St.Le.of ⟨congrArg (fun z => some (DV.v (.int .i64 z))) (by omega), rfl, rfl, rfl, trivial⟩⟩
  · try simp only [decide_eq_true_eq, decide_eq_false_iff_not, Bool.not_eq_true', Bool.not_eq_false', beq_iff_eq, bne_iff_ne, ne_eq, beq_eq_false_iff_ne, bne_eq_false_iff_eq, Int.not_lt, Int.not_le, Nat.not_lt, Nat.not_le, Int.ofNat_lt, Int.ofNat_le, Bool.not_eq_eq_eq_not, Bool.not_true, Bool.not_false] at hc1
    refine SCode.exit ?_
    show SCode _ _ _ _
    refine SCode.seqR ?_
    refine SOps.assign rfl ?_
    refine SOps.nil ?_
    refine SCode.ret ?_
    exact ⟨_, Res.one (.tmp rfl), congrArg (fun b => DV.v (.bool b)) (by first | exact (largeB_bad hkl (bigB_iff.2 (by omega))).symm | (unfold largeB; rw [decide_eq_true (show 11 < cntB l by omega), Bool.or_true]) | (have hkk : l.take k = l := List.take_of_length_le (by omega); rw [hkk] at hcn hg; unfold largeB; rw [decide_eq_false (show ¬ 11 < cntB l by omega), List.any_eq_false.2 (fun x hx => by rw [hg x hx]; simp)]; rfl)), rfl⟩
theorem lMany (l : List Bx)  : GCall Tryd.prog E 25 [DBxs l] [] (fun d H => d = .v (.bool (manyB l)) ∧ H = []) := by
  refine GCall.body (C := ⟨Tryd.prog, E, true⟩) Tryd.func25 rfl (fun _ => rfl) (by kernel_rfl) rfl ?_
  refine SCode.seqR ?_
  refine SOps.assign rfl ?_
  refine SOps.nil ?_
  refine SCode.seq ?_
  refine SCode.seqR ?_
  refine SOps.move rfl ?_
  refine SOps.lenM rfl sliceB_22_43_2 ?_
  refine SOps.move rfl ?_
  refine SOps.nil ?_
  refine SCode.block ?_
  refine SCode.loop1 (fun (k : Nat) => (⟨25, [(0, DBxs l), (5, DBxs l), (6, .v (.int .i64 (l.length : Int))), (7, .v (.int .i64 (k : Int)))], []⟩ : St)) (fun (k : Nat) => k ≤ l.length ∧ ∀ x ∈ l.take k, bigB 100 20 x = false) (fun (k : Nat) => l.length - k) (0) (by exact ⟨Nat.zero_le _, by simp⟩) (St.Le.of ⟨(by first | rfl | (show some _ = some _; simp)), (by first | rfl | (show some _ = some _; simp)), (by first | rfl | (show some _ = some _; simp)), (by first | rfl | (show some _ = some _; simp)), trivial⟩ rfl (by first | rfl | (simp))) ?_
  rintro k ⟨hk, hg⟩
  refine SCode.fact (isl_len (t := 5) rfl) (fun hB => ?_)
  simp only [List.length_map, lenB] at hB
  refine SCode.seqR ?_
  refine SOps.bin rfl rfl rfl ?_
  refine SOps.nil ?_
  refine SCode.seq ?_
  refine SCode.cond rfl (fun hc1 => ?_) (fun hc1 => ?_)
  · try simp only [decide_eq_true_eq, decide_eq_false_iff_not, Bool.not_eq_true', Bool.not_eq_false', beq_iff_eq, bne_iff_ne, ne_eq, beq_eq_false_iff_ne, bne_eq_false_iff_eq, Int.not_lt, Int.not_le, Nat.not_lt, Nat.not_le, Int.ofNat_lt, Int.ofNat_le, Bool.not_eq_eq_eq_not, Bool.not_true, Bool.not_false] at hc1
    refine SCode.skip ?_
    show SCode _ _ _ _
    refine SCode.seq ?_
    refine SCode.block ?_
    refine SCode.seqR ?_
    refine SOps.indexM (k) rfl rfl sliceB_22_43_2 (by first | omega | (simp only [lenB] <;> omega)) (by first | omega | (simp only [lenB] <;> omega)) ?_
    refine SOps.loadPinA rfl aggB_43_2 (Nat.le_of_ble_eq_true rfl) ?_
    refine SOps.alloc (sz := 2) zeroIs_43 (fun b0 hb_0 => ?_)
    refine SOps.storeAM 0 rfl rfl aggB_43_2 rfl ?_
    refine SOps.freezeRef (t := 4) 0 0 rfl rfl rfl rfl rfl ?_
    refine SOps.nil ?_
    refine SCode.seqR ?_
    have hkl : k < l.length := by omega
    refine SOps.fieldPin rfl fieldB_43_0_0 ?_
    refine SOps.loadPin rfl flatB_9 ?_
    refine SOps.lenStr rfl strB_9 ?_
    refine SOps.bin rfl rfl rfl ?_
    refine SOps.move rfl ?_
    refine SOps.caseB 15 rfl (fun hb2 => ?_) (fun hb2 => ?_)
    · try simp only [decide_eq_true_eq, decide_eq_false_iff_not, Bool.not_eq_true', Bool.not_eq_false', beq_iff_eq, bne_iff_ne, ne_eq, beq_eq_false_iff_ne, bne_eq_false_iff_eq, Int.not_lt, Int.not_le, Nat.not_lt, Nat.not_le, Int.ofNat_lt, Int.ofNat_le, Bool.not_eq_eq_eq_not, Bool.not_true, Bool.not_false] at hb2
      refine SOps.skip rfl ?_
      refine SOps.skip rfl ?_
      refine SOps.skip rfl ?_
      refine SOps.skip rfl ?_
      refine SOps.pick rfl rfl ?_
      refine SOps.nil ?_
      refine SCode.cond rfl (fun _ => ?_) (fun h => by cases h)
      refine SCode.seqR ?_
      refine SOps.assign rfl ?_
      refine SOps.nil ?_
      refine SCode.ret ?_
      exact ⟨_, Res.one (.tmp rfl), congrArg (fun b => DV.v (.bool b)) (by first | exact (manyB_bad hkl (bigB_iff.2 (by omega))).symm | (have hkk : l.take k = l := List.take_of_length_le (by omega); rw [hkk] at hg; unfold manyB; rw [List.any_eq_false.2 (fun x hx => by rw [hg x hx]; simp), Bool.false_or]; exact decide_eq_decide.2 (by omega))), rfl⟩
    · try simp only [decide_eq_true_eq, decide_eq_false_iff_not, Bool.not_eq_true', Bool.not_eq_false', beq_iff_eq, bne_iff_ne, ne_eq, beq_eq_false_iff_ne, bne_eq_false_iff_eq, Int.not_lt, Int.not_le, Nat.not_lt, Nat.not_le, Int.ofNat_lt, Int.ofNat_le, Bool.not_eq_eq_eq_not, Bool.not_true, Bool.not_false] at hb2
      refine SOps.fieldPin rfl fieldB_43_1_1 ?_
      refine SOps.loadPin rfl flatB_41 ?_
      refine SOps.lenM rfl sliceB_41_3_1 ?_
      refine SOps.bin rfl rfl rfl ?_
      refine SOps.pick rfl rfl ?_
      refine SOps.nil ?_
      refine SCode.cond rfl (fun hc3 => ?_) (fun hc3 => ?_)
      · try simp only [decide_eq_true_eq, decide_eq_false_iff_not, Bool.not_eq_true', Bool.not_eq_false', beq_iff_eq, bne_iff_ne, ne_eq, beq_eq_false_iff_ne, bne_eq_false_iff_eq, Int.not_lt, Int.not_le, Nat.not_lt, Nat.not_le, Int.ofNat_lt, Int.ofNat_le, Bool.not_eq_eq_eq_not, Bool.not_true, Bool.not_false] at hc3
        refine SCode.seqR ?_
        refine SOps.assign rfl ?_
        refine SOps.nil ?_
        refine SCode.ret ?_
        exact ⟨_, Res.one (.tmp rfl), congrArg (fun b => DV.v (.bool b)) (by first | exact (manyB_bad hkl (bigB_iff.2 (by omega))).symm | (have hkk : l.take k = l := List.take_of_length_le (by omega); rw [hkk] at hg; unfold manyB; rw [List.any_eq_false.2 (fun x hx => by rw [hg x hx]; simp), Bool.false_or]; exact decide_eq_decide.2 (by omega))), rfl⟩
      · try simp only [decide_eq_true_eq, decide_eq_false_iff_not, Bool.not_eq_true', Bool.not_eq_false', beq_iff_eq, bne_iff_ne, ne_eq, beq_eq_false_iff_ne, bne_eq_false_iff_eq, Int.not_lt, Int.not_le, Nat.not_lt, Nat.not_le, Int.ofNat_lt, Int.ofNat_le, Bool.not_eq_eq_eq_not, Bool.not_true, Bool.not_false] at hc3
        refine SCode.skip ?_
        show SCode _ _ _ _
        refine SCode.region ?_
        refine SOps.addI rfl rfl (by first | omega | (simp only [lenB] <;> omega)) (by first | omega | (simp only [lenB] <;> omega)) ?_
        refine SOps.move rfl ?_
        refine SOps.nil ?_
        exact ⟨k + 1, ⟨by omega, take_more hg hkl (Bool.eq_false_iff.2 (fun h => by rw [bigB_iff] at h; omega))⟩, by omega, St.Le.of ⟨rfl, rfl, rfl, rfl, trivial⟩⟩
  · try simp only [decide_eq_true_eq, decide_eq_false_iff_not, Bool.not_eq_true', Bool.not_eq_false', beq_iff_eq, bne_iff_ne, ne_eq, beq_eq_false_iff_ne, bne_eq_false_iff_eq, Int.not_lt, Int.not_le, Nat.not_lt, Nat.not_le, Int.ofNat_lt, Int.ofNat_le, Bool.not_eq_eq_eq_not, Bool.not_true, Bool.not_false] at hc1
    refine SCode.exit ?_
    show SCode _ _ _ _
    refine SCode.seqR ?_
    refine SOps.move rfl ?_
    refine SOps.lenM rfl sliceB_22_43_2 ?_
    refine SOps.bin rfl rfl rfl ?_
    refine SOps.assign rfl ?_
    refine SOps.nil ?_
    refine SCode.ret ?_
    exact ⟨_, Res.one (.tmp rfl), congrArg (fun b => DV.v (.bool b)) (by first | exact (manyB_bad hkl (bigB_iff.2 (by omega))).symm | (have hkk : l.take k = l := List.take_of_length_le (by omega); rw [hkk] at hg; unfold manyB; rw [List.any_eq_false.2 (fun x hx => by rw [hg x hx]; simp), Bool.false_or]; exact decide_eq_decide.2 (by omega))), rfl⟩
theorem lHyphens (l : List Ln)  : GCall Tryd.prog E 26 [DLns l] [] (fun d H => d = .v (.int .i64 ((hyphN l : Nat) : Int)) ∧ H = []) := by
  refine GCall.body (C := ⟨Tryd.prog, E, true⟩) Tryd.func26 rfl (fun _ => rfl) (by kernel_rfl) rfl ?_
  refine SCode.seqR ?_
  refine SOps.assign rfl ?_
  refine SOps.nil ?_
  refine SCode.seqR ?_
  refine SOps.assign rfl ?_
  refine SOps.nil ?_
  refine SCode.seq ?_
  refine SCode.seqR ?_
  refine SOps.move rfl ?_
  refine SOps.lenM rfl sliceB_25_48_2 ?_
  refine SOps.move rfl ?_
  refine SOps.nil ?_
  refine SCode.block ?_
  refine SCode.loop1 (fun (k : Nat) => (⟨18, [(3, .v (.int .i64 (((hyphN (l.take k)) : Nat) : Int))), (6, DLns l), (7, .v (.int .i64 (l.length : Int))), (8, .v (.int .i64 (k : Int)))], []⟩ : St)) (fun (k : Nat) => k ≤ l.length) (fun (k : Nat) => l.length - k) (0) (by exact Nat.zero_le _) (St.Le.of ⟨(by first | rfl | (show some _ = some _; simp)), (by first | rfl | (show some _ = some _; simp)), (by first | rfl | (show some _ = some _; simp)), (by first | rfl | (show some _ = some _; simp)), trivial⟩ rfl (by first | rfl | (simp))) ?_
  rintro k hk
  refine SCode.fact (isl_len (t := 6) rfl) (fun hB => ?_)
  simp only [List.length_map, lenB] at hB
  refine SCode.seqR ?_
  refine SOps.bin rfl rfl rfl ?_
  refine SOps.nil ?_
  refine SCode.seq ?_
  refine SCode.cond rfl (fun hc1 => ?_) (fun hc1 => ?_)
  · try simp only [decide_eq_true_eq, decide_eq_false_iff_not, Bool.not_eq_true', Bool.not_eq_false', beq_iff_eq, bne_iff_ne, ne_eq, beq_eq_false_iff_ne, bne_eq_false_iff_eq, Int.not_lt, Int.not_le, Nat.not_lt, Nat.not_le, Int.ofNat_lt, Int.ofNat_le, Bool.not_eq_eq_eq_not, Bool.not_true, Bool.not_false] at hc1
    refine SCode.skip ?_
    show SCode _ _ _ _
    refine SCode.seq ?_
    refine SCode.block ?_
    refine SCode.seqR ?_
    refine SOps.indexM (k) rfl rfl sliceB_25_48_2 (by first | omega | (simp only [lenB] <;> omega)) (by first | omega | (simp only [lenB] <;> omega)) ?_
    refine SOps.loadPinA rfl aggB_48_2 (Nat.le_of_ble_eq_true rfl) ?_
    refine SOps.alloc (sz := 2) zeroIs_48 (fun b0 hb_0 => ?_)
    refine SOps.storeAM 0 rfl rfl aggB_48_2 rfl ?_
    refine SOps.freezeRef (t := 5) 0 0 rfl rfl rfl rfl rfl ?_
    refine SOps.nil ?_
    refine SCode.seqR ?_
    have hkl : k < l.length := by omega
    have hct := hyphN_take hkl
    have hhl := hyphN_le (l.take k)
    have hhk : (l.take k).length = k := by simp; omega
    refine SOps.fieldPin rfl fieldB_48_1_1 ?_
    refine SOps.loadPin rfl flatB_4 ?_
    refine SOps.nil ?_
    refine SCode.cond rfl (fun hc2 => ?_) (fun hc2 => ?_)
    · try simp only [decide_eq_true_eq, decide_eq_false_iff_not, Bool.not_eq_true', Bool.not_eq_false', beq_iff_eq, bne_iff_ne, ne_eq, beq_eq_false_iff_ne, bne_eq_false_iff_eq, Int.not_lt, Int.not_le, Nat.not_lt, Nat.not_le, Int.ofNat_lt, Int.ofNat_le, Bool.not_eq_eq_eq_not, Bool.not_true, Bool.not_false] at hc2
      have hst : ((hyphN (l.take (k + 1)) : Nat) : Int) = ((hyphN (l.take k) : Nat) : Int) + 1 := by rw [hct, if_pos hc2]; rfl
      refine SCode.region ?_
      refine SOps.move rfl ?_
      refine SOps.addI rfl rfl (by first | omega | (simp only [lenB] <;> omega)) (by first | omega | (simp only [lenB] <;> omega)) ?_
      refine SOps.assign rfl ?_
      refine SOps.nil ?_
      show SCode _ _ _ _
      refine SCode.region ?_
      refine SOps.addI rfl rfl (by first | omega | (simp only [lenB] <;> omega)) (by first | omega | (simp only [lenB] <;> omega)) ?_
      refine SOps.move rfl ?_
      refine SOps.nil ?_
      exact ⟨k + 1, by omega, by omega, St.Le.of ⟨congrArg (fun z => some (DV.v (.int .i64 z))) hst.symm, rfl, rfl, rfl, trivial⟩⟩
    · try simp only [decide_eq_true_eq, decide_eq_false_iff_not, Bool.not_eq_true', Bool.not_eq_false', beq_iff_eq, bne_iff_ne, ne_eq, beq_eq_false_iff_ne, bne_eq_false_iff_eq, Int.not_lt, Int.not_le, Nat.not_lt, Nat.not_le, Int.ofNat_lt, Int.ofNat_le, Bool.not_eq_eq_eq_not, Bool.not_true, Bool.not_false] at hc2
      have hst : ((hyphN (l.take (k + 1)) : Nat) : Int) = ((hyphN (l.take k) : Nat) : Int) := by rw [hct, if_neg (by rw [hc2]; simp)]; rfl
      refine SCode.skip ?_
      show SCode _ _ _ _
      refine SCode.region ?_
      refine SOps.addI rfl rfl (by first | omega | (simp only [lenB] <;> omega)) (by first | omega | (simp only [lenB] <;> omega)) ?_
      refine SOps.move rfl ?_
      refine SOps.nil ?_
      exact ⟨k + 1, by omega, by omega, St.Le.of ⟨congrArg (fun z => some (DV.v (.int .i64 z))) hst.symm, rfl, rfl, rfl, trivial⟩⟩
  · try simp only [decide_eq_true_eq, decide_eq_false_iff_not, Bool.not_eq_true', Bool.not_eq_false', beq_iff_eq, bne_iff_ne, ne_eq, beq_eq_false_iff_ne, bne_eq_false_iff_eq, Int.not_lt, Int.not_le, Nat.not_lt, Nat.not_le, Int.ofNat_lt, Int.ofNat_le, Bool.not_eq_eq_eq_not, Bool.not_true, Bool.not_false] at hc1
    refine SCode.exit ?_
    show SCode _ _ _ _
    refine SCode.seqR ?_
    refine SOps.move rfl ?_
    refine SOps.assign rfl ?_
    refine SOps.nil ?_
    refine SCode.ret ?_
    exact ⟨_, Res.one (.tmp rfl), by rw [List.take_of_length_le (show l.length ≤ k by omega)], rfl⟩
theorem pair_at {x y : List Ln} {i : Nat} (e : x.map pairL = y.map pairL) (hx : i < x.length) (hy : i < y.length) : (x[i]).hyph = (y[i]).hyph ∧ (x[i]).words = (y[i]).words := by
  have h8 := congrArg (fun z => z[i]?) e
  simp only [List.getElem?_map, List.getElem?_eq_getElem hx, List.getElem?_eq_getElem hy, Option.map_some, Option.some.injEq, pairL, Prod.mk.injEq] at h8
  exact h8
theorem wide_bad {l : List Ln} {k : Nat} (h : k < l.length) (h2 : bigL l[k] = true) : wideLs l = true := by
  unfold wideLs; rw [List.any_eq_true.2 ⟨_, List.getElem_mem h, h2⟩, Bool.or_true]
theorem bigL_word {ln : Ln} {i : Nat} (h : i < ln.words.length) (h2 : 300 < (ln.words[i]).size) : bigL ln = true := by
  unfold bigL; rw [List.any_eq_true.2 ⟨_, List.getElem_mem h, decide_eq_true h2⟩, Bool.or_true]
theorem bigL_ok {ln : Ln} (h : ln.words.length ≤ 30) (h2 : ∀ w ∈ ln.words, w.size ≤ 300) : bigL ln = false := by
  unfold bigL
  rw [decide_eq_false (by omega), List.any_eq_false.2 (fun w hw => by rw [decide_eq_false (by have := h2 w hw; omega)]; simp)]; rfl
theorem bigL_iff {ln : Ln} : bigL ln = false ↔ ln.words.length ≤ 30 ∧ ∀ w ∈ ln.words, w.size ≤ 300 := by
  constructor
  · intro h
    unfold bigL at h
    rw [Bool.or_eq_false_iff, decide_eq_false_iff_not, List.any_eq_false] at h
    exact ⟨by omega, fun w hw => by have := h.2 w hw; simp at this; omega⟩
  · exact fun h => bigL_ok h.1 h.2
theorem lWide (l : List Ln)  : GCall Tryd.prog E 28 [DLns l] [] (fun d H => d = .v (.bool (wideLs l)) ∧ H = []) := by
  refine GCall.body (C := ⟨Tryd.prog, E, true⟩) Tryd.func28 rfl (fun _ => rfl) (by kernel_rfl) rfl ?_
  refine SCode.seqR ?_
  refine SOps.assign rfl ?_
  refine SOps.nil ?_
  refine SCode.seq ?_
  refine SCode.seqR ?_
  refine SOps.move rfl ?_
  refine SOps.lenM rfl sliceB_25_48_2 ?_
  refine SOps.bin rfl rfl rfl ?_
  refine SOps.nil ?_
  refine SCode.cond rfl (fun hc1 => ?_) (fun hc1 => ?_)
  · try simp only [decide_eq_true_eq, decide_eq_false_iff_not, Bool.not_eq_true', Bool.not_eq_false', beq_iff_eq, bne_iff_ne, ne_eq, beq_eq_false_iff_ne, bne_eq_false_iff_eq, Int.not_lt, Int.not_le, Nat.not_lt, Nat.not_le, Int.ofNat_lt, Int.ofNat_le, Bool.not_eq_eq_eq_not, Bool.not_true, Bool.not_false] at hc1
    refine SCode.seqR ?_
    refine SOps.assign rfl ?_
    refine SOps.nil ?_
    refine SCode.ret ?_
    exact ⟨_, Res.one (.tmp rfl), congrArg (fun b => DV.v (.bool b)) (by first | (unfold wideLs; rw [decide_eq_true (show 30 < l.length by omega)]; rfl) | exact (wide_bad hkl (bigL_word hil (by omega))).symm | (exact (wide_bad hkl (by unfold bigL; rw [decide_eq_true (by omega)]; rfl)).symm) | (unfold wideLs; rw [decide_eq_false (show ¬ 30 < l.length by omega), List.any_eq_false.2 (fun x hx => by rw [all_of (show l.length ≤ k by omega) hg x hx]; simp)]; rfl)), rfl⟩
  · try simp only [decide_eq_true_eq, decide_eq_false_iff_not, Bool.not_eq_true', Bool.not_eq_false', beq_iff_eq, bne_iff_ne, ne_eq, beq_eq_false_iff_ne, bne_eq_false_iff_eq, Int.not_lt, Int.not_le, Nat.not_lt, Nat.not_le, Int.ofNat_lt, Int.ofNat_le, Bool.not_eq_eq_eq_not, Bool.not_true, Bool.not_false] at hc1
    refine SCode.skip ?_
    show SCode _ _ _ _
    refine SCode.seq ?_
    refine SCode.seqR ?_
    refine SOps.move rfl ?_
    refine SOps.lenM rfl sliceB_25_48_2 ?_
    refine SOps.move rfl ?_
    refine SOps.nil ?_
    refine SCode.block ?_
    refine SCode.loop1 (fun (k : Nat) => (⟨32, [(10, DLns l), (11, .v (.int .i64 (l.length : Int))), (12, .v (.int .i64 (k : Int)))], []⟩ : St)) (fun (k : Nat) => k ≤ l.length ∧ ∀ x ∈ l.take k, bigL x = false) (fun (k : Nat) => l.length - k) (0) (by exact ⟨Nat.zero_le _, by simp⟩) (St.Le.of ⟨(by first | rfl | (show some _ = some _; simp)), (by first | rfl | (show some _ = some _; simp)), (by first | rfl | (show some _ = some _; simp)), trivial⟩ rfl (by first | rfl | (simp))) ?_
    rintro k ⟨hk, hg⟩
    refine SCode.fact (isl_len (t := 10) rfl) (fun hB => ?_)
    simp only [List.length_map, lenB] at hB
    refine SCode.seqR ?_
    refine SOps.bin rfl rfl rfl ?_
    refine SOps.nil ?_
    refine SCode.seq ?_
    refine SCode.cond rfl (fun hc2 => ?_) (fun hc2 => ?_)
    · try simp only [decide_eq_true_eq, decide_eq_false_iff_not, Bool.not_eq_true', Bool.not_eq_false', beq_iff_eq, bne_iff_ne, ne_eq, beq_eq_false_iff_ne, bne_eq_false_iff_eq, Int.not_lt, Int.not_le, Nat.not_lt, Nat.not_le, Int.ofNat_lt, Int.ofNat_le, Bool.not_eq_eq_eq_not, Bool.not_true, Bool.not_false] at hc2
      refine SCode.skip ?_
      show SCode _ _ _ _
      refine SCode.seq ?_
      refine SCode.block ?_
      refine SCode.seqR ?_
      refine SOps.indexM (k) rfl rfl sliceB_25_48_2 (by first | omega | (simp only [lenB] <;> omega)) (by first | omega | (simp only [lenB] <;> omega)) ?_
      refine SOps.loadPinA rfl aggB_48_2 (Nat.le_of_ble_eq_true rfl) ?_
      refine SOps.alloc (sz := 2) zeroIs_48 (fun b0 hb_0 => ?_)
      refine SOps.storeAM 0 rfl rfl aggB_48_2 rfl ?_
      refine SOps.freezeRef (t := 4) 0 0 rfl rfl rfl rfl rfl ?_
      refine SOps.nil ?_
      refine SCode.seq ?_
      refine SCode.seqR ?_
      have hkl : k < l.length := by omega
      refine SOps.fieldPin rfl fieldB_48_0_0 ?_
      refine SOps.loadPin rfl flatB_46 ?_
      refine SOps.lenM rfl sliceB_46_9_1 ?_
      refine SOps.bin rfl rfl rfl ?_
      refine SOps.nil ?_
      refine SCode.cond rfl (fun hc3 => ?_) (fun hc3 => ?_)
      · try simp only [decide_eq_true_eq, decide_eq_false_iff_not, Bool.not_eq_true', Bool.not_eq_false', beq_iff_eq, bne_iff_ne, ne_eq, beq_eq_false_iff_ne, bne_eq_false_iff_eq, Int.not_lt, Int.not_le, Nat.not_lt, Nat.not_le, Int.ofNat_lt, Int.ofNat_le, Bool.not_eq_eq_eq_not, Bool.not_true, Bool.not_false] at hc3
        refine SCode.seqR ?_
        refine SOps.assign rfl ?_
        refine SOps.nil ?_
        refine SCode.ret ?_
        exact ⟨_, Res.one (.tmp rfl), congrArg (fun b => DV.v (.bool b)) (by first | (unfold wideLs; rw [decide_eq_true (show 30 < l.length by omega)]; rfl) | exact (wide_bad hkl (bigL_word hil (by omega))).symm | (exact (wide_bad hkl (by unfold bigL; rw [decide_eq_true (by omega)]; rfl)).symm) | (unfold wideLs; rw [decide_eq_false (show ¬ 30 < l.length by omega), List.any_eq_false.2 (fun x hx => by rw [all_of (show l.length ≤ k by omega) hg x hx]; simp)]; rfl)), rfl⟩
      · try simp only [decide_eq_true_eq, decide_eq_false_iff_not, Bool.not_eq_true', Bool.not_eq_false', beq_iff_eq, bne_iff_ne, ne_eq, beq_eq_false_iff_ne, bne_eq_false_iff_eq, Int.not_lt, Int.not_le, Nat.not_lt, Nat.not_le, Int.ofNat_lt, Int.ofNat_le, Bool.not_eq_eq_eq_not, Bool.not_true, Bool.not_false] at hc3
        refine SCode.skip ?_
        show SCode _ _ _ _
        refine SCode.seqR ?_
        refine SOps.fieldPin rfl fieldB_48_0_0 ?_
        refine SOps.loadPin rfl flatB_46 ?_
        refine SOps.lenM rfl sliceB_46_9_1 ?_
        refine SOps.move rfl ?_
        refine SOps.nil ?_
        refine SCode.block ?_
        refine SCode.loop1 (fun (i : Nat) => (⟨32, [(10, DLns l), (11, .v (.int .i64 (l.length : Int))), (12, .v (.int .i64 (k : Int))), (21, DStrs (l[k]).words), (22, .v (.int .i64 ((l[k]).words.length : Int))), (23, .v (.int .i64 (i : Int)))], []⟩ : St)) (fun (i : Nat) => i ≤ (l[k]).words.length ∧ ∀ w ∈ (l[k]).words.take i, w.size ≤ 300) (fun (i : Nat) => (l[k]).words.length - i) (0) (by exact ⟨Nat.zero_le _, by simp⟩) (St.Le.of ⟨(by first | rfl | (show some _ = some _; simp)), (by first | rfl | (show some _ = some _; simp)), (by first | rfl | (show some _ = some _; simp)), (by first | rfl | (show some _ = some _; simp)), (by first | rfl | (show some _ = some _; simp)), (by first | rfl | (show some _ = some _; simp)), trivial⟩ rfl (by first | rfl | (simp))) ?_
        rintro i ⟨hi, hf⟩
        refine SCode.seqR ?_
        refine SOps.bin rfl rfl rfl ?_
        refine SOps.nil ?_
        refine SCode.seq ?_
        refine SCode.cond rfl (fun hc4 => ?_) (fun hc4 => ?_)
        · try simp only [decide_eq_true_eq, decide_eq_false_iff_not, Bool.not_eq_true', Bool.not_eq_false', beq_iff_eq, bne_iff_ne, ne_eq, beq_eq_false_iff_ne, bne_eq_false_iff_eq, Int.not_lt, Int.not_le, Nat.not_lt, Nat.not_le, Int.ofNat_lt, Int.ofNat_le, Bool.not_eq_eq_eq_not, Bool.not_true, Bool.not_false] at hc4
          refine SCode.skip ?_
          show SCode _ _ _ _
          refine SCode.seq ?_
          refine SCode.block ?_
          refine SCode.seqR ?_
          refine SOps.indexM (i) rfl rfl sliceB_46_9_1 (by first | omega | (simp only [lenB] <;> omega)) (by first | omega | (simp only [lenB] <;> omega)) ?_
          refine SOps.loadPin rfl flatB_9 ?_
          refine SOps.assign rfl ?_
          refine SOps.nil ?_
          refine SCode.seqR ?_
          have hil : i < (l[k]).words.length := by omega
          refine SOps.move rfl ?_
          refine SOps.lenStr rfl strB_9 ?_
          refine SOps.bin rfl rfl rfl ?_
          refine SOps.nil ?_
          refine SCode.cond rfl (fun hc5 => ?_) (fun hc5 => ?_)
          · try simp only [decide_eq_true_eq, decide_eq_false_iff_not, Bool.not_eq_true', Bool.not_eq_false', beq_iff_eq, bne_iff_ne, ne_eq, beq_eq_false_iff_ne, bne_eq_false_iff_eq, Int.not_lt, Int.not_le, Nat.not_lt, Nat.not_le, Int.ofNat_lt, Int.ofNat_le, Bool.not_eq_eq_eq_not, Bool.not_true, Bool.not_false] at hc5
            refine SCode.seqR ?_
            refine SOps.assign rfl ?_
            refine SOps.nil ?_
            refine SCode.ret ?_
            exact ⟨_, Res.one (.tmp rfl), congrArg (fun b => DV.v (.bool b)) (by first | (unfold wideLs; rw [decide_eq_true (show 30 < l.length by omega)]; rfl) | exact (wide_bad hkl (bigL_word hil (by omega))).symm | (exact (wide_bad hkl (by unfold bigL; rw [decide_eq_true (by omega)]; rfl)).symm) | (unfold wideLs; rw [decide_eq_false (show ¬ 30 < l.length by omega), List.any_eq_false.2 (fun x hx => by rw [all_of (show l.length ≤ k by omega) hg x hx]; simp)]; rfl)), rfl⟩
          · try simp only [decide_eq_true_eq, decide_eq_false_iff_not, Bool.not_eq_true', Bool.not_eq_false', beq_iff_eq, bne_iff_ne, ne_eq, beq_eq_false_iff_ne, bne_eq_false_iff_eq, Int.not_lt, Int.not_le, Nat.not_lt, Nat.not_le, Int.ofNat_lt, Int.ofNat_le, Bool.not_eq_eq_eq_not, Bool.not_true, Bool.not_false] at hc5
            refine SCode.skip ?_
            show SCode _ _ _ _
            refine SCode.region ?_
            refine SOps.addI rfl rfl (by first | omega | (simp only [lenB] <;> omega)) (by first | omega | (simp only [lenB] <;> omega)) ?_
            refine SOps.move rfl ?_
            refine SOps.nil ?_
            exact ⟨i + 1, ⟨by omega, take_more hf hil (by omega)⟩, by omega, St.Le.of ⟨rfl, rfl, rfl, rfl, rfl, rfl, trivial⟩⟩
        · try simp only [decide_eq_true_eq, decide_eq_false_iff_not, Bool.not_eq_true', Bool.not_eq_false', beq_iff_eq, bne_iff_ne, ne_eq, beq_eq_false_iff_ne, bne_eq_false_iff_eq, Int.not_lt, Int.not_le, Nat.not_lt, Nat.not_le, Int.ofNat_lt, Int.ofNat_le, Bool.not_eq_eq_eq_not, Bool.not_true, Bool.not_false] at hc4
          refine SCode.exit ?_
          show SCode _ _ _ _
          refine SCode.region ?_
          refine SOps.addI rfl rfl (by first | omega | (simp only [lenB] <;> omega)) (by first | omega | (simp only [lenB] <;> omega)) ?_
          refine SOps.move rfl ?_
          refine SOps.nil ?_
          exact ⟨k + 1, ⟨by omega, take_more hg hkl (bigL_ok (by omega) (all_of (by omega) hf))⟩, by omega, St.Le.of ⟨rfl, rfl, rfl, trivial⟩⟩
    · try simp only [decide_eq_true_eq, decide_eq_false_iff_not, Bool.not_eq_true', Bool.not_eq_false', beq_iff_eq, bne_iff_ne, ne_eq, beq_eq_false_iff_ne, bne_eq_false_iff_eq, Int.not_lt, Int.not_le, Nat.not_lt, Nat.not_le, Int.ofNat_lt, Int.ofNat_le, Bool.not_eq_eq_eq_not, Bool.not_true, Bool.not_false] at hc2
      refine SCode.exit ?_
      show SCode _ _ _ _
      refine SCode.seqR ?_
      refine SOps.assign rfl ?_
      refine SOps.nil ?_
      refine SCode.ret ?_
      exact ⟨_, Res.one (.tmp rfl), congrArg (fun b => DV.v (.bool b)) (by first | (unfold wideLs; rw [decide_eq_true (show 30 < l.length by omega)]; rfl) | exact (wide_bad hkl (bigL_word hil (by omega))).symm | (exact (wide_bad hkl (by unfold bigL; rw [decide_eq_true (by omega)]; rfl)).symm) | (unfold wideLs; rw [decide_eq_false (show ¬ 30 < l.length by omega), List.any_eq_false.2 (fun x hx => by rw [all_of (show l.length ≤ k by omega) hg x hx]; simp)]; rfl)), rfl⟩
theorem lIndexFuncS {f : FuncId} {cap : List DV} (q : ByteArray → Bool) (l : List ByteArray) (hf : ∀ x ∈ l, GCall Tryd.prog E f ([.v (.string x)] ++ cap) [] (fun d H => d = .v (.bool (q x)) ∧ H = [])) : GCall Tryd.prog E 66 [DStrs l, .fn f cap] [] (fun d H => d = .v (.int .i64 (findI q l)) ∧ H = []) := by
  refine GCall.body (C := ⟨Tryd.prog, E, true⟩) Tryd.func66 rfl (fun _ => rfl) (by kernel_rfl) rfl ?_
  refine SCode.seqR ?_
  refine SOps.assign rfl ?_
  refine SOps.nil ?_
  refine SCode.seq ?_
  refine SCode.seqR ?_
  refine SOps.move rfl ?_
  refine SOps.lenM rfl sliceB_46_9_1 ?_
  refine SOps.move rfl ?_
  refine SOps.nil ?_
  refine SCode.block ?_
  refine SCode.loop1 (fun (i : Nat) => (⟨19, [(0, DStrs l), (1, .fn f cap), (4, .v (.int .i64 0)), (7, .v (.int .i64 (l.length : Int))), (8, .v (.int .i64 (i : Int)))], []⟩ : St)) (fun (i : Nat) => i ≤ l.length ∧ ∀ x ∈ l.take i, q x = false) (fun (i : Nat) => l.length - i) (0) (by simp) (St.Le.of ⟨(by first | rfl | (show some _ = some _; simp)), (by first | rfl | (show some _ = some _; simp)), (by first | rfl | (show some _ = some _; simp)), (by first | rfl | (show some _ = some _; simp)), (by first | rfl | (show some _ = some _; simp)), trivial⟩ rfl (by first | rfl | (simp))) ?_
  rintro i ⟨hi, hq⟩
  refine SCode.fact (isl_len (t := 0) rfl) (fun hB => ?_)
  simp only [List.length_map, lenB] at hB
  refine SCode.seqR ?_
  refine SOps.bin rfl rfl rfl ?_
  refine SOps.nil ?_
  refine SCode.seq ?_
  refine SCode.cond rfl (fun hc1 => ?_) (fun hc1 => ?_)
  · try simp only [decide_eq_true_eq, decide_eq_false_iff_not, Bool.not_eq_true', Bool.not_eq_false', beq_iff_eq, bne_iff_ne, ne_eq, beq_eq_false_iff_ne, bne_eq_false_iff_eq, Int.not_lt, Int.not_le, Nat.not_lt, Nat.not_le, Int.ofNat_lt, Int.ofNat_le, Bool.not_eq_eq_eq_not, Bool.not_true, Bool.not_false] at hc1
    refine SCode.skip ?_
    show SCode _ _ _ _
    refine SCode.seq ?_
    refine SCode.block ?_
    refine SCode.seqR ?_
    refine SOps.move rfl ?_
    refine SOps.assign rfl ?_
    refine SOps.nil ?_
    refine SCode.seqR ?_
    refine SOps.move rfl ?_
    refine SOps.move rfl ?_
    refine SOps.move rfl ?_
    refine SOps.indexM (i) rfl rfl sliceB_46_9_1 (by omega) (by omega) ?_
    refine SOps.loadPin rfl flatB_9 ?_
    refine SOps.callFn (ds := [_]) rfl (hf _ (List.getElem_mem (by omega))) rfl ?_
    rintro _ _ ⟨rfl, rfl⟩
    refine SOps.nil ?_
    refine SCode.cond rfl (fun hc2 => ?_) (fun hc2 => ?_)
    · try simp only [decide_eq_true_eq, decide_eq_false_iff_not, Bool.not_eq_true', Bool.not_eq_false', beq_iff_eq, bne_iff_ne, ne_eq, beq_eq_false_iff_ne, bne_eq_false_iff_eq, Int.not_lt, Int.not_le, Nat.not_lt, Nat.not_le, Int.ofNat_lt, Int.ofNat_le, Bool.not_eq_eq_eq_not, Bool.not_true, Bool.not_false] at hc2
      refine SCode.seqR ?_
      refine SOps.move rfl ?_
      refine SOps.assign rfl ?_
      refine SOps.nil ?_
      refine SCode.ret ?_
      exact ⟨_, Res.one (.tmp rfl), by rw [findI_at hq (by omega) hc2], rfl⟩
    · try simp only [decide_eq_true_eq, decide_eq_false_iff_not, Bool.not_eq_true', Bool.not_eq_false', beq_iff_eq, bne_iff_ne, ne_eq, beq_eq_false_iff_ne, bne_eq_false_iff_eq, Int.not_lt, Int.not_le, Nat.not_lt, Nat.not_le, Int.ofNat_lt, Int.ofNat_le, Bool.not_eq_eq_eq_not, Bool.not_true, Bool.not_false] at hc2
      refine SCode.skip ?_
      show SCode _ _ _ _
      refine SCode.region ?_
      refine SOps.addI rfl rfl (by omega) (by omega) ?_
      refine SOps.move rfl ?_
      refine SOps.nil ?_
      exact ⟨i + 1, by exact ⟨by omega, take_more hq (by omega) hc2⟩, by omega, (St.Le.of ⟨(by first | rfl | (show some _ = some _; simp)), (by first | rfl | (show some _ = some _; simp)), (by first | rfl | (show some _ = some _; simp)), (by first | rfl | (show some _ = some _; simp)), (by first | rfl | (show some _ = some _; simp)), trivial⟩ rfl (by first | rfl | (simp)))⟩
  · try simp only [decide_eq_true_eq, decide_eq_false_iff_not, Bool.not_eq_true', Bool.not_eq_false', beq_iff_eq, bne_iff_ne, ne_eq, beq_eq_false_iff_ne, bne_eq_false_iff_eq, Int.not_lt, Int.not_le, Nat.not_lt, Nat.not_le, Int.ofNat_lt, Int.ofNat_le, Bool.not_eq_eq_eq_not, Bool.not_true, Bool.not_false] at hc1
    refine SCode.exit ?_
    show SCode _ _ _ _
    refine SCode.seqR ?_
    refine SOps.assign rfl ?_
    refine SOps.nil ?_
    refine SCode.ret ?_
    exact ⟨_, Res.one (.tmp rfl), by rw [findI_none (all_of (by omega) hq)], rfl⟩
theorem lContainsFuncS {f : FuncId} {cap : List DV} (q : ByteArray → Bool) (l : List ByteArray) (hf : ∀ x ∈ l, GCall Tryd.prog E f ([.v (.string x)] ++ cap) [] (fun d H => d = .v (.bool (q x)) ∧ H = [])) : GCall Tryd.prog E 58 [DStrs l, .fn f cap] [] (fun d H => d = .v (.bool (l.any q)) ∧ H = []) := by
  refine GCall.body (C := ⟨Tryd.prog, E, true⟩) Tryd.func58 rfl (fun _ => rfl) (by kernel_rfl) rfl ?_
  refine SCode.seqR ?_
  refine SOps.assign rfl ?_
  refine SOps.nil ?_
  refine SCode.seqR ?_
  refine SOps.move rfl ?_
  refine SOps.move rfl ?_
  refine SOps.callP (lIndexFuncS q l hf) rfl ?_
  rintro _ rfl
  refine SOps.bin rfl rfl rfl ?_
  refine SOps.assign rfl ?_
  refine SOps.nil ?_
  refine SCode.ret ?_
  exact ⟨_, Res.one (.tmp rfl), congrArg (fun b => DV.v (.bool b)) findI_nonneg, rfl⟩
theorem sCost1 (hV : VS E) (s : ByteArray) (hs : s.size ≤ 1048576) : GCall Tryd.prog E 59 [.v (.string s)] [] (fun d H => d = .v (.bool (!wordB s)) ∧ H = []) := by
  refine GCall.body (C := ⟨Tryd.prog, E, true⟩) Tryd.func59 rfl (fun _ => rfl) (by kernel_rfl) rfl ?_
  refine SCode.seqR ?_
  refine SOps.assign rfl ?_
  refine SOps.nil ?_
  refine SCode.seqR ?_
  refine SOps.move rfl ?_
  refine SOps.callP (sPrintable hV _ (by assumption)) rfl ?_
  rintro _ rfl
  refine SOps.un rfl rfl ?_
  refine SOps.assign rfl ?_
  refine SOps.nil ?_
  refine SCode.ret ?_
  exact ⟨_, Res.one (.tmp rfl), rfl, rfl⟩
theorem lTexts (x : List ByteArray) (l : List Bx)  : GCall Tryd.prog E 62 [DStrs x, DBxs l] [] (fun d H => d = .v (.bool (decide (x = l.map (·.word)))) ∧ H = []) := by
  refine GCall.body (C := ⟨Tryd.prog, E, true⟩) Tryd.func62 rfl (fun _ => rfl) (by kernel_rfl) rfl ?_
  refine SCode.seqR ?_
  refine SOps.assign rfl ?_
  refine SOps.nil ?_
  refine SCode.seq ?_
  refine SCode.seqR ?_
  refine SOps.move rfl ?_
  refine SOps.lenM rfl sliceB_46_9_1 ?_
  refine SOps.move rfl ?_
  refine SOps.lenM rfl sliceB_22_43_2 ?_
  refine SOps.bin rfl rfl rfl ?_
  refine SOps.nil ?_
  refine SCode.cond rfl (fun hc1 => ?_) (fun hc1 => ?_)
  · try simp only [decide_eq_true_eq, decide_eq_false_iff_not, Bool.not_eq_true', Bool.not_eq_false', beq_iff_eq, bne_iff_ne, ne_eq, beq_eq_false_iff_ne, bne_eq_false_iff_eq, Int.not_lt, Int.not_le, Nat.not_lt, Nat.not_le, Int.ofNat_lt, Int.ofNat_le, Bool.not_eq_eq_eq_not, Bool.not_true, Bool.not_false] at hc1
    refine SCode.seqR ?_
    refine SOps.assign rfl ?_
    refine SOps.nil ?_
    refine SCode.ret ?_
    exact ⟨_, Res.one (.tmp rfl), congrArg (fun b => DV.v (.bool b)) ((decide_eq_false (fun e => hc1 (by rw [e]; simp))).symm), rfl⟩
  · try simp only [decide_eq_true_eq, decide_eq_false_iff_not, Bool.not_eq_true', Bool.not_eq_false', beq_iff_eq, bne_iff_ne, ne_eq, beq_eq_false_iff_ne, bne_eq_false_iff_eq, Int.not_lt, Int.not_le, Nat.not_lt, Nat.not_le, Int.ofNat_lt, Int.ofNat_le, Bool.not_eq_eq_eq_not, Bool.not_true, Bool.not_false] at hc1
    refine SCode.skip ?_
    show SCode _ _ _ _
    refine SCode.seq ?_
    refine SCode.seqR ?_
    refine SOps.assign rfl ?_
    refine SOps.nil ?_
    refine SCode.block ?_
    refine SCode.loop1 (fun (i : Nat) => (⟨27, [(0, DStrs x), (1, DBxs l), (5, .v (.int .i64 (i : Int)))], []⟩ : St)) (fun (i : Nat) => i ≤ x.length ∧ x.take i = (l.map (·.word)).take i) (fun (i : Nat) => x.length - i) (0) (by simp) (St.Le.of ⟨(by first | rfl | (show some _ = some _; simp)), (by first | rfl | (show some _ = some _; simp)), (by first | rfl | (show some _ = some _; simp)), trivial⟩ rfl (by first | rfl | (simp))) ?_
    rintro i ⟨hi, hf⟩
    refine SCode.fact (isl_len (t := 0) rfl) (fun hB => ?_)
    simp only [List.length_map, lenB] at hB
    refine SCode.seq ?_
    refine SCode.seqR ?_
    refine SOps.move rfl ?_
    refine SOps.move rfl ?_
    refine SOps.lenM rfl sliceB_46_9_1 ?_
    refine SOps.bin rfl rfl rfl ?_
    refine SOps.nil ?_
    refine SCode.cond rfl (fun hc2 => ?_) (fun hc2 => ?_)
    · try simp only [decide_eq_true_eq, decide_eq_false_iff_not, Bool.not_eq_true', Bool.not_eq_false', beq_iff_eq, bne_iff_ne, ne_eq, beq_eq_false_iff_ne, bne_eq_false_iff_eq, Int.not_lt, Int.not_le, Nat.not_lt, Nat.not_le, Int.ofNat_lt, Int.ofNat_le, Bool.not_eq_eq_eq_not, Bool.not_true, Bool.not_false] at hc2
      refine SCode.skip ?_
      show SCode _ _ _ _
      refine SCode.seq ?_
      refine SCode.block ?_
      refine SCode.seq ?_
      have hx : i < x.length := by omega
      have hyl : i < l.length := by omega
      have hy : i < (l.map (·.word)).length := by simpa using hyl
      apply SCode.drawAuto mixed_ [17, 18, 19, 20, 21, 22, 23, 24, 25, 26] [[.inr 0], [.inr 5], [.inl 0, .inl 1], [.inl 2], [.inr 1], [.inr 5], [.inl 4, .inl 5], [.inl 6], [.inl 7], [.inl 3, .inl 8]]
      · kernel_rfl
      · kernel_rfl
      · apply DOk.cons 17 
        · rfl
        · exact (NeedIs.inr _ rfl NeedIs.nil)
        · intro rest
          refine SOps.move rfl ?_
          exact SOps.nil rfl
        apply DOk.cons 18 
        · rfl
        · exact (NeedIs.inr _ rfl NeedIs.nil)
        · intro rest
          refine SOps.move rfl ?_
          exact SOps.nil rfl
        apply DOk.cons 19 
        · rfl
        · exact (NeedIs.inl 1 _ _ rfl rfl (NeedIs.inl 0 _ _ rfl rfl NeedIs.nil))
        · intro rest
          refine SOps.indexM (i) rfl rfl sliceB_46_9_1 (by first | omega | (simp only [lenB] <;> omega)) (by first | omega | (simp only [lenB] <;> omega)) ?_
          exact SOps.nil rfl
        apply DOk.cons 20 
        · rfl
        · exact (NeedIs.inl 0 _ _ rfl rfl NeedIs.nil)
        · intro rest
          refine SOps.loadPin rfl flatB_9 ?_
          exact SOps.nil rfl
        apply DOk.cons 21 
        · rfl
        · exact (NeedIs.inr _ rfl NeedIs.nil)
        · intro rest
          refine SOps.move rfl ?_
          exact SOps.nil rfl
        apply DOk.cons 22 
        · rfl
        · exact (NeedIs.inr _ rfl NeedIs.nil)
        · intro rest
          refine SOps.move rfl ?_
          exact SOps.nil rfl
        apply DOk.cons 23 
        · rfl
        · exact (NeedIs.inl 1 _ _ rfl rfl (NeedIs.inl 0 _ _ rfl rfl NeedIs.nil))
        · intro rest
          refine SOps.indexM (i) rfl rfl sliceB_22_43_2 (by first | omega | (simp only [lenB] <;> omega)) (by first | omega | (simp only [lenB] <;> omega)) ?_
          exact SOps.nil rfl
        apply DOk.cons 24 
        · rfl
        · exact (NeedIs.inl 0 _ _ rfl rfl NeedIs.nil)
        · intro rest
          refine SOps.fieldPin rfl fieldB_43_0_0 ?_
          exact SOps.nil rfl
        apply DOk.cons 25 
        · rfl
        · exact (NeedIs.inl 0 _ _ rfl rfl NeedIs.nil)
        · intro rest
          refine SOps.loadPin rfl flatB_9 ?_
          exact SOps.nil rfl
        apply DOk.cons 26 
        · rfl
        · exact (NeedIs.inl 5 _ _ rfl rfl (NeedIs.inl 0 _ _ rfl rfl NeedIs.nil))
        · intro rest
          refine SOps.bin rfl rfl rfl ?_
          exact SOps.nil rfl
        exact DOk.nil
      · rfl
      · show SCode _ _ _ _
        refine SCode.cond rfl (fun hc3 => ?_) (fun hc3 => ?_)
        · try simp only [decide_eq_true_eq, decide_eq_false_iff_not, Bool.not_eq_true', Bool.not_eq_false', beq_iff_eq, bne_iff_ne, ne_eq, beq_eq_false_iff_ne, bne_eq_false_iff_eq, Int.not_lt, Int.not_le, Nat.not_lt, Nat.not_le, Int.ofNat_lt, Int.ofNat_le, Bool.not_eq_eq_eq_not, Bool.not_true, Bool.not_false] at hc3
          refine SCode.seqR ?_
          refine SOps.assign rfl ?_
          refine SOps.nil ?_
          refine SCode.ret ?_
          exact ⟨_, Res.one (.tmp rfl), congrArg (fun b => DV.v (.bool b)) ((decide_eq_false (fun e => by subst e; simp at hc3)).symm), rfl⟩
        · try simp only [decide_eq_true_eq, decide_eq_false_iff_not, Bool.not_eq_true', Bool.not_eq_false', beq_iff_eq, bne_iff_ne, ne_eq, beq_eq_false_iff_ne, bne_eq_false_iff_eq, Int.not_lt, Int.not_le, Nat.not_lt, Nat.not_le, Int.ofNat_lt, Int.ofNat_le, Bool.not_eq_eq_eq_not, Bool.not_true, Bool.not_false] at hc3
          refine SCode.skip ?_
          show SCode _ _ _ _
          refine SCode.region ?_
          refine SOps.move rfl ?_
          refine SOps.addI rfl rfl (by first | omega | (simp only [lenB] <;> omega)) (by first | omega | (simp only [lenB] <;> omega)) ?_
          refine SOps.assign rfl ?_
          refine SOps.nil ?_
          exact ⟨i + 1, by exact ⟨by omega, take_eq_succ hx hy hf (by simpa using hc3)⟩, by omega, (St.Le.of ⟨(by first | rfl | (show some _ = some _; simp)), (by first | rfl | (show some _ = some _; simp)), (by first | rfl | (show some _ = some _; simp)), trivial⟩ rfl (by first | rfl | (simp)))⟩
    · try simp only [decide_eq_true_eq, decide_eq_false_iff_not, Bool.not_eq_true', Bool.not_eq_false', beq_iff_eq, bne_iff_ne, ne_eq, beq_eq_false_iff_ne, bne_eq_false_iff_eq, Int.not_lt, Int.not_le, Nat.not_lt, Nat.not_le, Int.ofNat_lt, Int.ofNat_le, Bool.not_eq_eq_eq_not, Bool.not_true, Bool.not_false] at hc2
      refine SCode.exit ?_
      show SCode _ _ _ _
      refine SCode.seqR ?_
      refine SOps.assign rfl ?_
      refine SOps.nil ?_
      refine SCode.ret ?_
      exact ⟨_, Res.one (.tmp rfl), congrArg (fun b => DV.v (.bool b)) ((decide_eq_true (take_full (by omega) (by rw [List.length_map]; omega) hf)).symm), rfl⟩
theorem qSameLs (x y : List Ln)  : GCall Tryd.prog E 20 [DLns x, DLns y] [] (fun d H => d = .v (.bool (lnsEq x y)) ∧ H = []) := by
  refine GCall.body (C := ⟨Tryd.prog, E, true⟩) Tryd.func20 rfl (fun _ => rfl) (by kernel_rfl) rfl ?_
  refine SCode.seqR ?_
  refine SOps.assign rfl ?_
  refine SOps.nil ?_
  refine SCode.seq ?_
  refine SCode.seqR ?_
  refine SOps.move rfl ?_
  refine SOps.lenM rfl sliceB_25_48_2 ?_
  refine SOps.move rfl ?_
  refine SOps.lenM rfl sliceB_25_48_2 ?_
  refine SOps.bin rfl rfl rfl ?_
  refine SOps.nil ?_
  refine SCode.cond rfl (fun hc1 => ?_) (fun hc1 => ?_)
  · try simp only [decide_eq_true_eq, decide_eq_false_iff_not, Bool.not_eq_true', Bool.not_eq_false', beq_iff_eq, bne_iff_ne, ne_eq, beq_eq_false_iff_ne, bne_eq_false_iff_eq, Int.not_lt, Int.not_le, Nat.not_lt, Nat.not_le, Int.ofNat_lt, Int.ofNat_le, Bool.not_eq_eq_eq_not, Bool.not_true, Bool.not_false] at hc1
    refine SCode.seqR ?_
    refine SOps.assign rfl ?_
    refine SOps.nil ?_
    refine SCode.ret ?_
    exact ⟨_, Res.one (.tmp rfl), congrArg (fun b => DV.v (.bool b)) ((decide_eq_false (fun e => hc1 (by have h9 := congrArg List.length e; simp only [List.length_map] at h9; rw [h9]))).symm), rfl⟩
  · try simp only [decide_eq_true_eq, decide_eq_false_iff_not, Bool.not_eq_true', Bool.not_eq_false', beq_iff_eq, bne_iff_ne, ne_eq, beq_eq_false_iff_ne, bne_eq_false_iff_eq, Int.not_lt, Int.not_le, Nat.not_lt, Nat.not_le, Int.ofNat_lt, Int.ofNat_le, Bool.not_eq_eq_eq_not, Bool.not_true, Bool.not_false] at hc1
    refine SCode.skip ?_
    show SCode _ _ _ _
    refine SCode.seq ?_
    refine SCode.seqR ?_
    refine SOps.move rfl ?_
    refine SOps.lenM rfl sliceB_25_48_2 ?_
    refine SOps.move rfl ?_
    refine SOps.nil ?_
    refine SCode.block ?_
    refine SCode.loop1 (fun (i : Nat) => (⟨42, [(0, DLns x), (1, DLns y), (11, DLns x), (12, .v (.int .i64 (x.length : Int))), (13, .v (.int .i64 (i : Int)))], []⟩ : St)) (fun (i : Nat) => i ≤ x.length ∧ (x.take i).map pairL = (y.take i).map pairL) (fun (i : Nat) => x.length - i) (0) (by simp) (St.Le.of ⟨(by first | rfl | (show some _ = some _; simp)), (by first | rfl | (show some _ = some _; simp)), (by first | rfl | (show some _ = some _; simp)), (by first | rfl | (show some _ = some _; simp)), (by first | rfl | (show some _ = some _; simp)), trivial⟩ rfl (by first | rfl | (simp))) ?_
    rintro i ⟨hi, hf⟩
    refine SCode.fact (isl_len (t := 0) rfl) (fun hB => ?_)
    simp only [List.length_map, lenB] at hB
    refine SCode.seqR ?_
    refine SOps.bin rfl rfl rfl ?_
    refine SOps.nil ?_
    refine SCode.seq ?_
    refine SCode.cond rfl (fun hc2 => ?_) (fun hc2 => ?_)
    · try simp only [decide_eq_true_eq, decide_eq_false_iff_not, Bool.not_eq_true', Bool.not_eq_false', beq_iff_eq, bne_iff_ne, ne_eq, beq_eq_false_iff_ne, bne_eq_false_iff_eq, Int.not_lt, Int.not_le, Nat.not_lt, Nat.not_le, Int.ofNat_lt, Int.ofNat_le, Bool.not_eq_eq_eq_not, Bool.not_true, Bool.not_false] at hc2
      refine SCode.skip ?_
      show SCode _ _ _ _
      refine SCode.seq ?_
      refine SCode.block ?_
      refine SCode.seqR ?_
      refine SOps.move rfl ?_
      refine SOps.assign rfl ?_
      refine SOps.nil ?_
      refine SCode.seq ?_
      have hx : i < x.length := by omega
      have hy : i < y.length := by omega
      rcases (show ((x[i]).hyph = (y[i]).hyph ∧ (x[i]).words = (y[i]).words) ∨ ((x[i]).hyph = (y[i]).hyph ∧ ¬ (x[i]).words = (y[i]).words) ∨ ¬ (x[i]).hyph = (y[i]).hyph from by by_cases h1 : (x[i]).hyph = (y[i]).hyph; by_cases h2 : (x[i]).words = (y[i]).words; exact .inl ⟨h1, h2⟩; exact .inr (.inl ⟨h1, h2⟩); exact .inr (.inr h1)) with ⟨hq1, hq2⟩ | ⟨hq1, hq2⟩ | hq1
      · apply SCode.drawAuto mixed_ [16, 17, 18, 19, 20, 21, 22, 23, 24, 25, 26, 27, 28, 29, 30, 31, 32, 33, 34, 35, 36, 37, 38, 39, 40] [[.inr 0], [.inr 5], [.inl 0, .inl 1], [.inl 2], [.inl 3], [.inr 1], [.inr 5], [.inl 5, .inl 6], [.inl 7], [.inl 8], [.inl 4, .inl 9], [.inl 10], [.inl 11, .inr 0], [.inl 11, .inr 5], [.inl 11, .inl 12, .inl 13], [.inl 11, .inl 14], [.inl 11, .inl 15], [.inl 11, .inr 1], [.inl 11, .inr 5], [.inl 11, .inl 17, .inl 18], [.inl 11, .inl 19], [.inl 11, .inl 20], [.inl 11, .inl 16, .inl 21], [.inl 11, .inl 22], [.inl 11, .inl 23]]
        · kernel_rfl
        · kernel_rfl
        · apply DOk.cons 16 
          · rfl
          · exact (NeedIs.inr _ rfl NeedIs.nil)
          · intro rest
            refine SOps.move rfl ?_
            exact SOps.nil rfl
          apply DOk.cons 17 
          · rfl
          · exact (NeedIs.inr _ rfl NeedIs.nil)
          · intro rest
            refine SOps.move rfl ?_
            exact SOps.nil rfl
          apply DOk.cons 18 
          · rfl
          · exact (NeedIs.inl 1 _ _ rfl rfl (NeedIs.inl 0 _ _ rfl rfl NeedIs.nil))
          · intro rest
            refine SOps.indexM (i) rfl rfl sliceB_25_48_2 (by first | omega | (simp only [lenB] <;> omega)) (by first | omega | (simp only [lenB] <;> omega)) ?_
            exact SOps.nil rfl
          apply DOk.cons 19 
          · rfl
          · exact (NeedIs.inl 0 _ _ rfl rfl NeedIs.nil)
          · intro rest
            refine SOps.fieldPin rfl fieldB_48_1_1 ?_
            exact SOps.nil rfl
          apply DOk.cons 20 
          · rfl
          · exact (NeedIs.inl 0 _ _ rfl rfl NeedIs.nil)
          · intro rest
            refine SOps.loadPin rfl flatB_4 ?_
            exact SOps.nil rfl
          apply DOk.cons 21 
          · rfl
          · exact (NeedIs.inr _ rfl NeedIs.nil)
          · intro rest
            refine SOps.move rfl ?_
            exact SOps.nil rfl
          apply DOk.cons 22 
          · rfl
          · exact (NeedIs.inr _ rfl NeedIs.nil)
          · intro rest
            refine SOps.move rfl ?_
            exact SOps.nil rfl
          apply DOk.cons 23 
          · rfl
          · exact (NeedIs.inl 1 _ _ rfl rfl (NeedIs.inl 0 _ _ rfl rfl NeedIs.nil))
          · intro rest
            refine SOps.indexM (i) rfl rfl sliceB_25_48_2 (by first | omega | (simp only [lenB] <;> omega)) (by first | omega | (simp only [lenB] <;> omega)) ?_
            exact SOps.nil rfl
          apply DOk.cons 24 
          · rfl
          · exact (NeedIs.inl 0 _ _ rfl rfl NeedIs.nil)
          · intro rest
            refine SOps.fieldPin rfl fieldB_48_1_1 ?_
            exact SOps.nil rfl
          apply DOk.cons 25 
          · rfl
          · exact (NeedIs.inl 0 _ _ rfl rfl NeedIs.nil)
          · intro rest
            refine SOps.loadPin rfl flatB_4 ?_
            exact SOps.nil rfl
          apply DOk.cons 26 (.v (.bool false))
          · rfl
          · exact (NeedIs.inl 5 _ _ rfl rfl (NeedIs.inl 0 _ _ rfl rfl NeedIs.nil))
          · intro rest
            refine SOps.boolNe rfl rfl boolTy_4 ?_
            exact SOps.nil (congrArg (fun b => St.put _ 26 (.v (.bool b))) (by rw [hq1]; simp))
          apply DOk.cons 27 
          · rfl
          · exact (NeedIs.inl 0 _ _ rfl rfl NeedIs.nil)
          · intro rest
            refine SOps.move rfl ?_
            exact SOps.nil rfl
          apply DOk.cons 28 
          · rfl
          · exact (NeedIs.inl 0 _ _ rfl rfl (NeedIs.inr _ rfl NeedIs.nil))
          · intro rest
            refine SOps.move rfl ?_
            exact SOps.nil rfl
          apply DOk.cons 29 
          · rfl
          · exact (NeedIs.inl 1 _ _ rfl rfl (NeedIs.inr _ rfl NeedIs.nil))
          · intro rest
            refine SOps.move rfl ?_
            exact SOps.nil rfl
          apply DOk.cons 30 
          · rfl
          · exact (NeedIs.inl 2 _ _ rfl rfl (NeedIs.inl 1 _ _ rfl rfl (NeedIs.inl 0 _ _ rfl rfl NeedIs.nil)))
          · intro rest
            refine SOps.indexM (i) rfl rfl sliceB_25_48_2 (by first | omega | (simp only [lenB] <;> omega)) (by first | omega | (simp only [lenB] <;> omega)) ?_
            exact SOps.nil rfl
          apply DOk.cons 31 
          · rfl
          · exact (NeedIs.inl 3 _ _ rfl rfl (NeedIs.inl 0 _ _ rfl rfl NeedIs.nil))
          · intro rest
            refine SOps.fieldPin rfl fieldB_48_0_0 ?_
            exact SOps.nil rfl
          apply DOk.cons 32 
          · rfl
          · exact (NeedIs.inl 4 _ _ rfl rfl (NeedIs.inl 0 _ _ rfl rfl NeedIs.nil))
          · intro rest
            refine SOps.loadPin rfl flatB_46 ?_
            exact SOps.nil rfl
          apply DOk.cons 33 
          · rfl
          · exact (NeedIs.inl 5 _ _ rfl rfl (NeedIs.inr _ rfl NeedIs.nil))
          · intro rest
            refine SOps.move rfl ?_
            exact SOps.nil rfl
          apply DOk.cons 34 
          · rfl
          · exact (NeedIs.inl 6 _ _ rfl rfl (NeedIs.inr _ rfl NeedIs.nil))
          · intro rest
            refine SOps.move rfl ?_
            exact SOps.nil rfl
          apply DOk.cons 35 
          · rfl
          · exact (NeedIs.inl 7 _ _ rfl rfl (NeedIs.inl 1 _ _ rfl rfl (NeedIs.inl 0 _ _ rfl rfl NeedIs.nil)))
          · intro rest
            refine SOps.indexM (i) rfl rfl sliceB_25_48_2 (by first | omega | (simp only [lenB] <;> omega)) (by first | omega | (simp only [lenB] <;> omega)) ?_
            exact SOps.nil rfl
          apply DOk.cons 36 
          · rfl
          · exact (NeedIs.inl 8 _ _ rfl rfl (NeedIs.inl 0 _ _ rfl rfl NeedIs.nil))
          · intro rest
            refine SOps.fieldPin rfl fieldB_48_0_0 ?_
            exact SOps.nil rfl
          apply DOk.cons 37 
          · rfl
          · exact (NeedIs.inl 9 _ _ rfl rfl (NeedIs.inl 0 _ _ rfl rfl NeedIs.nil))
          · intro rest
            refine SOps.loadPin rfl flatB_46 ?_
            exact SOps.nil rfl
          apply DOk.cons 38 (.v (.bool true))
          · rfl
          · exact (NeedIs.inl 10 _ _ rfl rfl (NeedIs.inl 5 _ _ rfl rfl (NeedIs.inl 0 _ _ rfl rfl NeedIs.nil)))
          · intro rest
            refine SOps.callP (qWords _ _) rfl ?_
            rintro _ rfl
            exact SOps.nil (congrArg (fun b => St.put _ 38 (.v (.bool b))) (decide_eq_true hq2))
          apply DOk.cons 39 
          · rfl
          · exact (NeedIs.inl 11 _ _ rfl rfl (NeedIs.inl 0 _ _ rfl rfl NeedIs.nil))
          · intro rest
            refine SOps.un rfl rfl ?_
            exact SOps.nil rfl
          apply DOk.cons 40 
          · rfl
          · exact (NeedIs.inl 12 _ _ rfl rfl (NeedIs.inl 0 _ _ rfl rfl NeedIs.nil))
          · intro rest
            refine SOps.pick rfl rfl ?_
            exact SOps.nil rfl
          exact DOk.nil
        · rfl
        · show SCode _ _ _ _
          refine SCode.cond rfl (fun h => by cases h) (fun _ => ?_)
          refine SCode.skip ?_
          show SCode _ _ _ _
          refine SCode.region ?_
          refine SOps.addI rfl rfl (by first | omega | (simp only [lenB] <;> omega)) (by first | omega | (simp only [lenB] <;> omega)) ?_
          refine SOps.move rfl ?_
          refine SOps.nil ?_
          exact ⟨i + 1, by exact ⟨by omega, pair_take hx hy hf (by unfold pairL; rw [hq1, hq2])⟩, by omega, (St.Le.of ⟨(by first | rfl | (show some _ = some _; simp)), (by first | rfl | (show some _ = some _; simp)), (by first | rfl | (show some _ = some _; simp)), (by first | rfl | (show some _ = some _; simp)), (by first | rfl | (show some _ = some _; simp)), trivial⟩ rfl (by first | rfl | (simp)))⟩
      · apply SCode.drawAuto mixed_ [16, 17, 18, 19, 20, 21, 22, 23, 24, 25, 26, 27, 28, 29, 30, 31, 32, 33, 34, 35, 36, 37, 38, 39, 40] [[.inr 0], [.inr 5], [.inl 0, .inl 1], [.inl 2], [.inl 3], [.inr 1], [.inr 5], [.inl 5, .inl 6], [.inl 7], [.inl 8], [.inl 4, .inl 9], [.inl 10], [.inl 11, .inr 0], [.inl 11, .inr 5], [.inl 11, .inl 12, .inl 13], [.inl 11, .inl 14], [.inl 11, .inl 15], [.inl 11, .inr 1], [.inl 11, .inr 5], [.inl 11, .inl 17, .inl 18], [.inl 11, .inl 19], [.inl 11, .inl 20], [.inl 11, .inl 16, .inl 21], [.inl 11, .inl 22], [.inl 11, .inl 23]]
        · kernel_rfl
        · kernel_rfl
        · apply DOk.cons 16 
          · rfl
          · exact (NeedIs.inr _ rfl NeedIs.nil)
          · intro rest
            refine SOps.move rfl ?_
            exact SOps.nil rfl
          apply DOk.cons 17 
          · rfl
          · exact (NeedIs.inr _ rfl NeedIs.nil)
          · intro rest
            refine SOps.move rfl ?_
            exact SOps.nil rfl
          apply DOk.cons 18 
          · rfl
          · exact (NeedIs.inl 1 _ _ rfl rfl (NeedIs.inl 0 _ _ rfl rfl NeedIs.nil))
          · intro rest
            refine SOps.indexM (i) rfl rfl sliceB_25_48_2 (by first | omega | (simp only [lenB] <;> omega)) (by first | omega | (simp only [lenB] <;> omega)) ?_
            exact SOps.nil rfl
          apply DOk.cons 19 
          · rfl
          · exact (NeedIs.inl 0 _ _ rfl rfl NeedIs.nil)
          · intro rest
            refine SOps.fieldPin rfl fieldB_48_1_1 ?_
            exact SOps.nil rfl
          apply DOk.cons 20 
          · rfl
          · exact (NeedIs.inl 0 _ _ rfl rfl NeedIs.nil)
          · intro rest
            refine SOps.loadPin rfl flatB_4 ?_
            exact SOps.nil rfl
          apply DOk.cons 21 
          · rfl
          · exact (NeedIs.inr _ rfl NeedIs.nil)
          · intro rest
            refine SOps.move rfl ?_
            exact SOps.nil rfl
          apply DOk.cons 22 
          · rfl
          · exact (NeedIs.inr _ rfl NeedIs.nil)
          · intro rest
            refine SOps.move rfl ?_
            exact SOps.nil rfl
          apply DOk.cons 23 
          · rfl
          · exact (NeedIs.inl 1 _ _ rfl rfl (NeedIs.inl 0 _ _ rfl rfl NeedIs.nil))
          · intro rest
            refine SOps.indexM (i) rfl rfl sliceB_25_48_2 (by first | omega | (simp only [lenB] <;> omega)) (by first | omega | (simp only [lenB] <;> omega)) ?_
            exact SOps.nil rfl
          apply DOk.cons 24 
          · rfl
          · exact (NeedIs.inl 0 _ _ rfl rfl NeedIs.nil)
          · intro rest
            refine SOps.fieldPin rfl fieldB_48_1_1 ?_
            exact SOps.nil rfl
          apply DOk.cons 25 
          · rfl
          · exact (NeedIs.inl 0 _ _ rfl rfl NeedIs.nil)
          · intro rest
            refine SOps.loadPin rfl flatB_4 ?_
            exact SOps.nil rfl
          apply DOk.cons 26 (.v (.bool false))
          · rfl
          · exact (NeedIs.inl 5 _ _ rfl rfl (NeedIs.inl 0 _ _ rfl rfl NeedIs.nil))
          · intro rest
            refine SOps.boolNe rfl rfl boolTy_4 ?_
            exact SOps.nil (congrArg (fun b => St.put _ 26 (.v (.bool b))) (by rw [hq1]; simp))
          apply DOk.cons 27 
          · rfl
          · exact (NeedIs.inl 0 _ _ rfl rfl NeedIs.nil)
          · intro rest
            refine SOps.move rfl ?_
            exact SOps.nil rfl
          apply DOk.cons 28 
          · rfl
          · exact (NeedIs.inl 0 _ _ rfl rfl (NeedIs.inr _ rfl NeedIs.nil))
          · intro rest
            refine SOps.move rfl ?_
            exact SOps.nil rfl
          apply DOk.cons 29 
          · rfl
          · exact (NeedIs.inl 1 _ _ rfl rfl (NeedIs.inr _ rfl NeedIs.nil))
          · intro rest
            refine SOps.move rfl ?_
            exact SOps.nil rfl
          apply DOk.cons 30 
          · rfl
          · exact (NeedIs.inl 2 _ _ rfl rfl (NeedIs.inl 1 _ _ rfl rfl (NeedIs.inl 0 _ _ rfl rfl NeedIs.nil)))
          · intro rest
            refine SOps.indexM (i) rfl rfl sliceB_25_48_2 (by first | omega | (simp only [lenB] <;> omega)) (by first | omega | (simp only [lenB] <;> omega)) ?_
            exact SOps.nil rfl
          apply DOk.cons 31 
          · rfl
          · exact (NeedIs.inl 3 _ _ rfl rfl (NeedIs.inl 0 _ _ rfl rfl NeedIs.nil))
          · intro rest
            refine SOps.fieldPin rfl fieldB_48_0_0 ?_
            exact SOps.nil rfl
          apply DOk.cons 32 
          · rfl
          · exact (NeedIs.inl 4 _ _ rfl rfl (NeedIs.inl 0 _ _ rfl rfl NeedIs.nil))
          · intro rest
            refine SOps.loadPin rfl flatB_46 ?_
            exact SOps.nil rfl
          apply DOk.cons 33 
          · rfl
          · exact (NeedIs.inl 5 _ _ rfl rfl (NeedIs.inr _ rfl NeedIs.nil))
          · intro rest
            refine SOps.move rfl ?_
            exact SOps.nil rfl
          apply DOk.cons 34 
          · rfl
          · exact (NeedIs.inl 6 _ _ rfl rfl (NeedIs.inr _ rfl NeedIs.nil))
          · intro rest
            refine SOps.move rfl ?_
            exact SOps.nil rfl
          apply DOk.cons 35 
          · rfl
          · exact (NeedIs.inl 7 _ _ rfl rfl (NeedIs.inl 1 _ _ rfl rfl (NeedIs.inl 0 _ _ rfl rfl NeedIs.nil)))
          · intro rest
            refine SOps.indexM (i) rfl rfl sliceB_25_48_2 (by first | omega | (simp only [lenB] <;> omega)) (by first | omega | (simp only [lenB] <;> omega)) ?_
            exact SOps.nil rfl
          apply DOk.cons 36 
          · rfl
          · exact (NeedIs.inl 8 _ _ rfl rfl (NeedIs.inl 0 _ _ rfl rfl NeedIs.nil))
          · intro rest
            refine SOps.fieldPin rfl fieldB_48_0_0 ?_
            exact SOps.nil rfl
          apply DOk.cons 37 
          · rfl
          · exact (NeedIs.inl 9 _ _ rfl rfl (NeedIs.inl 0 _ _ rfl rfl NeedIs.nil))
          · intro rest
            refine SOps.loadPin rfl flatB_46 ?_
            exact SOps.nil rfl
          apply DOk.cons 38 (.v (.bool false))
          · rfl
          · exact (NeedIs.inl 10 _ _ rfl rfl (NeedIs.inl 5 _ _ rfl rfl (NeedIs.inl 0 _ _ rfl rfl NeedIs.nil)))
          · intro rest
            refine SOps.callP (qWords _ _) rfl ?_
            rintro _ rfl
            exact SOps.nil (congrArg (fun b => St.put _ 38 (.v (.bool b))) (decide_eq_false hq2))
          apply DOk.cons 39 
          · rfl
          · exact (NeedIs.inl 11 _ _ rfl rfl (NeedIs.inl 0 _ _ rfl rfl NeedIs.nil))
          · intro rest
            refine SOps.un rfl rfl ?_
            exact SOps.nil rfl
          apply DOk.cons 40 
          · rfl
          · exact (NeedIs.inl 12 _ _ rfl rfl (NeedIs.inl 0 _ _ rfl rfl NeedIs.nil))
          · intro rest
            refine SOps.pick rfl rfl ?_
            exact SOps.nil rfl
          exact DOk.nil
        · rfl
        · show SCode _ _ _ _
          refine SCode.cond rfl (fun _ => ?_) (fun h => by cases h)
          refine SCode.seqR ?_
          refine SOps.assign rfl ?_
          refine SOps.nil ?_
          refine SCode.ret ?_
          exact ⟨_, Res.one (.tmp rfl), congrArg (fun b => DV.v (.bool b)) ((decide_eq_false (fun e => hq2 (pair_at e hx hy).2)).symm), rfl⟩
      · apply SCode.drawAuto mixed_ [16, 17, 18, 19, 20, 21, 22, 23, 24, 25, 26, 27, 28, 29, 30, 31, 32, 33, 34, 35, 36, 37, 38, 39, 40] [[.inr 0], [.inr 5], [.inl 0, .inl 1], [.inl 2], [.inl 3], [.inr 1], [.inr 5], [.inl 5, .inl 6], [.inl 7], [.inl 8], [.inl 4, .inl 9], [.inl 10], [.inl 11], [.inl 11], [.inl 11], [.inl 11], [.inl 11], [.inl 11], [.inl 11], [.inl 11], [.inl 11], [.inl 11], [.inl 11], [.inl 11], [.inl 11, .inl 23]]
        · kernel_rfl
        · kernel_rfl
        · apply DOk.cons 16 
          · rfl
          · exact (NeedIs.inr _ rfl NeedIs.nil)
          · intro rest
            refine SOps.move rfl ?_
            exact SOps.nil rfl
          apply DOk.cons 17 
          · rfl
          · exact (NeedIs.inr _ rfl NeedIs.nil)
          · intro rest
            refine SOps.move rfl ?_
            exact SOps.nil rfl
          apply DOk.cons 18 
          · rfl
          · exact (NeedIs.inl 1 _ _ rfl rfl (NeedIs.inl 0 _ _ rfl rfl NeedIs.nil))
          · intro rest
            refine SOps.indexM (i) rfl rfl sliceB_25_48_2 (by first | omega | (simp only [lenB] <;> omega)) (by first | omega | (simp only [lenB] <;> omega)) ?_
            exact SOps.nil rfl
          apply DOk.cons 19 
          · rfl
          · exact (NeedIs.inl 0 _ _ rfl rfl NeedIs.nil)
          · intro rest
            refine SOps.fieldPin rfl fieldB_48_1_1 ?_
            exact SOps.nil rfl
          apply DOk.cons 20 
          · rfl
          · exact (NeedIs.inl 0 _ _ rfl rfl NeedIs.nil)
          · intro rest
            refine SOps.loadPin rfl flatB_4 ?_
            exact SOps.nil rfl
          apply DOk.cons 21 
          · rfl
          · exact (NeedIs.inr _ rfl NeedIs.nil)
          · intro rest
            refine SOps.move rfl ?_
            exact SOps.nil rfl
          apply DOk.cons 22 
          · rfl
          · exact (NeedIs.inr _ rfl NeedIs.nil)
          · intro rest
            refine SOps.move rfl ?_
            exact SOps.nil rfl
          apply DOk.cons 23 
          · rfl
          · exact (NeedIs.inl 1 _ _ rfl rfl (NeedIs.inl 0 _ _ rfl rfl NeedIs.nil))
          · intro rest
            refine SOps.indexM (i) rfl rfl sliceB_25_48_2 (by first | omega | (simp only [lenB] <;> omega)) (by first | omega | (simp only [lenB] <;> omega)) ?_
            exact SOps.nil rfl
          apply DOk.cons 24 
          · rfl
          · exact (NeedIs.inl 0 _ _ rfl rfl NeedIs.nil)
          · intro rest
            refine SOps.fieldPin rfl fieldB_48_1_1 ?_
            exact SOps.nil rfl
          apply DOk.cons 25 
          · rfl
          · exact (NeedIs.inl 0 _ _ rfl rfl NeedIs.nil)
          · intro rest
            refine SOps.loadPin rfl flatB_4 ?_
            exact SOps.nil rfl
          apply DOk.cons 26 (.v (.bool true))
          · rfl
          · exact (NeedIs.inl 5 _ _ rfl rfl (NeedIs.inl 0 _ _ rfl rfl NeedIs.nil))
          · intro rest
            refine SOps.boolNe rfl rfl boolTy_4 ?_
            exact SOps.nil (congrArg (fun b => St.put _ 26 (.v (.bool b))) (by simpa using hq1))
          apply DOk.cons 27 
          · rfl
          · exact (NeedIs.inl 0 _ _ rfl rfl NeedIs.nil)
          · intro rest
            refine SOps.move rfl ?_
            exact SOps.nil rfl
          apply DOk.cons 28 
          · rfl
          · exact (NeedIs.inl 0 _ _ rfl rfl NeedIs.nil)
          · intro rest
            refine SOps.skip rfl ?_
            exact SOps.nil rfl
          apply DOk.cons 29 
          · rfl
          · exact (NeedIs.inl 1 _ _ rfl rfl NeedIs.nil)
          · intro rest
            refine SOps.skip rfl ?_
            exact SOps.nil rfl
          apply DOk.cons 30 
          · rfl
          · exact (NeedIs.inl 2 _ _ rfl rfl NeedIs.nil)
          · intro rest
            refine SOps.skip rfl ?_
            exact SOps.nil rfl
          apply DOk.cons 31 
          · rfl
          · exact (NeedIs.inl 3 _ _ rfl rfl NeedIs.nil)
          · intro rest
            refine SOps.skip rfl ?_
            exact SOps.nil rfl
          apply DOk.cons 32 
          · rfl
          · exact (NeedIs.inl 4 _ _ rfl rfl NeedIs.nil)
          · intro rest
            refine SOps.skip rfl ?_
            exact SOps.nil rfl
          apply DOk.cons 33 
          · rfl
          · exact (NeedIs.inl 5 _ _ rfl rfl NeedIs.nil)
          · intro rest
            refine SOps.skip rfl ?_
            exact SOps.nil rfl
          apply DOk.cons 34 
          · rfl
          · exact (NeedIs.inl 6 _ _ rfl rfl NeedIs.nil)
          · intro rest
            refine SOps.skip rfl ?_
            exact SOps.nil rfl
          apply DOk.cons 35 
          · rfl
          · exact (NeedIs.inl 7 _ _ rfl rfl NeedIs.nil)
          · intro rest
            refine SOps.skip rfl ?_
            exact SOps.nil rfl
          apply DOk.cons 36 
          · rfl
          · exact (NeedIs.inl 8 _ _ rfl rfl NeedIs.nil)
          · intro rest
            refine SOps.skip rfl ?_
            exact SOps.nil rfl
          apply DOk.cons 37 
          · rfl
          · exact (NeedIs.inl 9 _ _ rfl rfl NeedIs.nil)
          · intro rest
            refine SOps.skip rfl ?_
            exact SOps.nil rfl
          apply DOk.cons 38 
          · rfl
          · exact (NeedIs.inl 10 _ _ rfl rfl NeedIs.nil)
          · intro rest
            refine SOps.skip rfl ?_
            exact SOps.nil rfl
          apply DOk.cons 39 
          · rfl
          · exact (NeedIs.inl 11 _ _ rfl rfl NeedIs.nil)
          · intro rest
            refine SOps.skip rfl ?_
            exact SOps.nil rfl
          apply DOk.cons 40 
          · rfl
          · exact (NeedIs.inl 12 _ _ rfl rfl (NeedIs.inl 0 _ _ rfl rfl NeedIs.nil))
          · intro rest
            refine SOps.pick rfl rfl ?_
            exact SOps.nil rfl
          exact DOk.nil
        · rfl
        · show SCode _ _ _ _
          refine SCode.cond rfl (fun _ => ?_) (fun h => by cases h)
          refine SCode.seqR ?_
          refine SOps.assign rfl ?_
          refine SOps.nil ?_
          refine SCode.ret ?_
          exact ⟨_, Res.one (.tmp rfl), congrArg (fun b => DV.v (.bool b)) ((decide_eq_false (fun e => hq1 (pair_at e hx hy).1)).symm), rfl⟩
    · try simp only [decide_eq_true_eq, decide_eq_false_iff_not, Bool.not_eq_true', Bool.not_eq_false', beq_iff_eq, bne_iff_ne, ne_eq, beq_eq_false_iff_ne, bne_eq_false_iff_eq, Int.not_lt, Int.not_le, Nat.not_lt, Nat.not_le, Int.ofNat_lt, Int.ofNat_le, Bool.not_eq_eq_eq_not, Bool.not_true, Bool.not_false] at hc2
      refine SCode.exit ?_
      show SCode _ _ _ _
      refine SCode.seqR ?_
      refine SOps.assign rfl ?_
      refine SOps.nil ?_
      refine SCode.ret ?_
      exact ⟨_, Res.one (.tmp rfl), congrArg (fun b => DV.v (.bool b)) ((decide_eq_true (show x.map pairL = y.map pairL from by have h1 : x.take i = x := List.take_of_length_le (by omega); have h2 : y.take i = y := List.take_of_length_le (by omega); rw [h1, h2] at hf; exact hf)).symm), rfl⟩
end Go.GH
namespace Go.GH
open Go Go.Lib
def freeL (w : Int) (l : Ln) : Int := w - (wlen (textL l) : Int)
def lnAt (l : List Ln) (i : Nat) : Ln := l.getD i ⟨[], false⟩
def costAt (l : List Ln) (w p : Int) (i : Nat) : Int := (if i + 1 < l.length then freeL w (lnAt l i) * freeL w (lnAt l i) else 0) + (if (lnAt l i).hyph then p else 0)
def sumK (l : List Ln) (w p : Int) : Nat → Int
  | 0 => 0
  | k + 1 => sumK l w p k + costAt l w p k
def sumL (l : List Ln) (w p : Int) : Int := sumK l w p l.length
/-- Lines of which no text is long. -/
def LnOK (l : Ln) : Prop := l.words.length ≤ 1000 ∧ ∀ w ∈ l.words, w.size ≤ 1000
theorem lnAt_lt {l : List Ln} {i : Nat} (h : i < l.length) : lnAt l i = l[i] := by
  unfold lnAt; rw [List.getD_eq_getElem?_getD, List.getElem?_eq_getElem h]; rfl
theorem LnOK.size {l : Ln} (h : LnOK l) : wlen (textL l) ≤ 1001001 := by
  have h1 := catW_size l.words.length h.2 (Nat.le_refl _)
  rw [List.take_length] at h1
  have h2 : (1000 + 1) * l.words.length ≤ 1001 * 1000 := Nat.mul_le_mul_left _ h.1
  have h3 : (textL l).size ≤ 1001001 := by
    unfold textL
    split
    · rw [ByteArray.size_append]; have : hy1.size = 1 := rfl; omega
    · omega
  have := runes_len (textL l)
  unfold wlen; omega
theorem LnOK.words {l : Ln} (h : LnOK l) : (∀ w ∈ l.words, w.size ≤ 1048576) ∧ l.words.length ≤ 1048576 :=
  ⟨fun w hw => by have := h.2 w hw; omega, by have := h.1; omega⟩
theorem freeL_bound {w : Int} {l : Ln} (h : LnOK l) (h1 : 0 ≤ w) (h2 : w ≤ 1000) : -1100000 ≤ freeL w l ∧ freeL w l ≤ 1100000 := by
  have := h.size
  unfold freeL; omega
theorem sq_bound {x : Int} (h1 : -1100000 ≤ x) (h2 : x ≤ 1100000) : 0 ≤ x * x ∧ x * x ≤ 1210000000000 := by
  rcases Int.le_total 0 x with h | h
  · exact ⟨Int.mul_nonneg h h, by have := Int.mul_le_mul h2 h2 h (by omega); omega⟩
  · have h3 : 0 ≤ -x := by omega
    have e : x * x = (-x) * (-x) := by rw [Int.neg_mul_neg]
    rw [e]
    exact ⟨Int.mul_nonneg h3 h3, by have := Int.mul_le_mul (show -x ≤ 1100000 by omega) (show -x ≤ 1100000 by omega) h3 (by omega); omega⟩
theorem costAt_bound {l : List Ln} {w p : Int} (h : ∀ x ∈ l, LnOK x) (h1 : 0 ≤ w) (h2 : w ≤ 1000) (h3 : 0 ≤ p) (h4 : p ≤ 1000000) {i : Nat} (hi : i < l.length) : 0 ≤ costAt l w p i ∧ costAt l w p i ≤ 1210001000000 := by
  have hx := h _ (List.getElem_mem hi)
  rw [← lnAt_lt hi] at hx
  have hf := freeL_bound hx h1 h2
  have hs := sq_bound hf.1 hf.2
  unfold costAt
  split <;> split <;> omega
theorem sumK_bound {l : List Ln} {w p : Int} (h : ∀ x ∈ l, LnOK x) (h1 : 0 ≤ w) (h2 : w ≤ 1000) (h3 : 0 ≤ p) (h4 : p ≤ 1000000) : ∀ (k : Nat), k ≤ l.length → 0 ≤ sumK l w p k ∧ sumK l w p k ≤ 1210001000000 * k
  | 0, _ => by simp [sumK]
  | k + 1, hk => by
    have ih := sumK_bound h h1 h2 h3 h4 k (by omega)
    have hc := costAt_bound h h1 h2 h3 h4 (i := k) (by omega)
    rw [sumK]
    omega
end Go.GH
namespace Go.GH
open Go Go.Proofs
variable {E : Env}
theorem qFree (ln : Ln) (w : Int) (hk : LnOK ln) (h1 : 0 ≤ w) (h2 : w ≤ 1000) : GCall Tryd.prog E 53 [.agg (encLn ln), .v (.int .i64 w)] [] (fun d H => d = .v (.int .i64 (freeL w ln)) ∧ H = []) := by
  have hsz := hk.size
  obtain ⟨hw, hl⟩ := hk.words
  have hwl : (runes (textL ln)).length = wlen (textL ln) := rfl
  refine GCall.body (C := ⟨Tryd.prog, E, true⟩) Tryd.func53 rfl (fun _ => rfl) (by kernel_rfl) rfl ?_
  refine SCode.seqR ?_
  refine SOps.boxAM rfl rfl ?_
  refine SOps.assign rfl ?_
  refine SOps.nil ?_
  refine SCode.seqR ?_
  refine SOps.move rfl ?_
  refine SOps.loadPinA rfl aggB_48_2 (Nat.le_of_ble_eq_true rfl) ?_
  refine SOps.callP (qText _ (by assumption) (by assumption)) rfl ?_
  rintro _ rfl
  refine SOps.runesF rfl rfl strB_9 sliceB_70_21_1 intB_21_i32 ?_
  refine SOps.lenM rfl sliceB_70_21_1 ?_
  refine SOps.subI rfl rfl (by first | omega | (simp only [lenB] <;> omega)) (by first | omega | (simp only [lenB] <;> omega)) ?_
  refine SOps.assign rfl ?_
  refine SOps.nil ?_
  refine SCode.ret ?_
  exact ⟨_, Res.one (.tmp rfl), rfl, rfl⟩
theorem qSum (l : List Ln) (w p : Int) (hk : ∀ x ∈ l, LnOK x) (hl : l.length ≤ 1000000) (h1 : 0 ≤ w) (h2 : w ≤ 1000) (h3 : 0 ≤ p) (h4 : p ≤ 1000000) : GCall Tryd.prog E 49 [DLns l, .v (.int .i64 w), .v (.int .i64 p)] [] (fun d H => d = .v (.int .i64 (sumL l w p)) ∧ H = []) := by
  refine GCall.body (C := ⟨Tryd.prog, E, true⟩) Tryd.func49 rfl (fun _ => rfl) (by kernel_rfl) rfl ?_
  refine SCode.seqR ?_
  refine SOps.assign rfl ?_
  refine SOps.nil ?_
  refine SCode.seqR ?_
  refine SOps.assign rfl ?_
  refine SOps.nil ?_
  refine SCode.seq ?_
  refine SCode.seqR ?_
  refine SOps.move rfl ?_
  refine SOps.lenM rfl sliceB_25_48_2 ?_
  refine SOps.move rfl ?_
  refine SOps.nil ?_
  refine SCode.block ?_
  refine SCode.loop1 (fun (k : Nat) => (⟨38, [(0, DLns l), (1, .v (.int .i64 w)), (2, .v (.int .i64 p)), (7, .v (.int .i64 (sumK l w p k))), (10, DLns l), (11, .v (.int .i64 (l.length : Int))), (12, .v (.int .i64 (k : Int)))], []⟩ : St)) (fun (k : Nat) => k ≤ l.length) (fun (k : Nat) => l.length - k) (0) (by exact Nat.zero_le _) (St.Le.of ⟨(by first | rfl | (show some _ = some _; simp)), (by first | rfl | (show some _ = some _; simp)), (by first | rfl | (show some _ = some _; simp)), (by first | rfl | (show some _ = some _; simp)), (by first | rfl | (show some _ = some _; simp)), (by first | rfl | (show some _ = some _; simp)), (by first | rfl | (show some _ = some _; simp)), trivial⟩ rfl (by first | rfl | (simp))) ?_
  rintro k hkn
  refine SCode.seqR ?_
  refine SOps.bin rfl rfl rfl ?_
  refine SOps.nil ?_
  refine SCode.seq ?_
  refine SCode.cond rfl (fun hc1 => ?_) (fun hc1 => ?_)
  · try simp only [decide_eq_true_eq, decide_eq_false_iff_not, Bool.not_eq_true', Bool.not_eq_false', beq_iff_eq, bne_iff_ne, ne_eq, beq_eq_false_iff_ne, bne_eq_false_iff_eq, Int.not_lt, Int.not_le, Nat.not_lt, Nat.not_le, Int.ofNat_lt, Int.ofNat_le, Bool.not_eq_eq_eq_not, Bool.not_true, Bool.not_false] at hc1
    refine SCode.skip ?_
    show SCode _ _ _ _
    refine SCode.seq ?_
    refine SCode.block ?_
    refine SCode.seqR ?_
    refine SOps.move rfl ?_
    refine SOps.indexM (k) rfl rfl sliceB_25_48_2 (by first | omega | (simp only [lenB] <;> omega)) (by first | omega | (simp only [lenB] <;> omega)) ?_
    refine SOps.loadPinA rfl aggB_48_2 (Nat.le_of_ble_eq_true rfl) ?_
    refine SOps.alloc (sz := 2) zeroIs_48 (fun b0 hb_0 => ?_)
    refine SOps.assign rfl ?_
    refine SOps.storeAM 0 rfl rfl aggB_48_2 rfl ?_
    refine SOps.freezeRef (t := 9) 0 0 rfl rfl rfl rfl rfl ?_
    refine SOps.nil ?_
    refine SCode.seq ?_
    refine SCode.seqR ?_
    have hkl : k < l.length := by omega
    have hkk := hk _ (List.getElem_mem hkl)
    have hfb := freeL_bound hkk h1 h2
    have hsq := sq_bound hfb.1 hfb.2
    have hsb := sumK_bound hk h1 h2 h3 h4 k (by omega)
    have hat := lnAt_lt hkl
    have hsk : sumK l w p (k + 1) = sumK l w p k + costAt l w p k := rfl
    unfold costAt at hsk
    rw [hat] at hsk
    refine SOps.move rfl ?_
    refine SOps.move rfl ?_
    refine SOps.lenM rfl sliceB_25_48_2 ?_
    refine SOps.subI rfl rfl (by first | omega | (simp only [lenB] <;> omega)) (by first | omega | (simp only [lenB] <;> omega)) ?_
    refine SOps.bin rfl rfl rfl ?_
    refine SOps.nil ?_
    refine SCode.cond rfl (fun hc2 => ?_) (fun hc2 => ?_)
    · try simp only [decide_eq_true_eq, decide_eq_false_iff_not, Bool.not_eq_true', Bool.not_eq_false', beq_iff_eq, bne_iff_ne, ne_eq, beq_eq_false_iff_ne, bne_eq_false_iff_eq, Int.not_lt, Int.not_le, Nat.not_lt, Nat.not_le, Int.ofNat_lt, Int.ofNat_le, Bool.not_eq_eq_eq_not, Bool.not_true, Bool.not_false] at hc2
      have hlt : k + 1 < l.length := by omega
      rw [if_pos hlt] at hsk
      apply SCode.drawAuto mixed_ [22, 23, 24, 25, 26, 27, 28, 29, 30, 7] [[.inr 7], [.inr 9], [.inr 1], [.inl 1, .inl 2], [.inr 9], [.inr 1], [.inl 4, .inl 5], [.inl 3, .inl 6], [.inl 0, .inl 7], [.inl 8]]
      · kernel_rfl
      · kernel_rfl
      · apply DOk.cons 22 
        · rfl
        · exact (NeedIs.inr _ rfl NeedIs.nil)
        · intro rest
          refine SOps.move rfl ?_
          exact SOps.nil rfl
        apply DOk.cons 23 
        · rfl
        · exact (NeedIs.inr _ rfl NeedIs.nil)
        · intro rest
          refine SOps.loadPinA rfl aggB_48_2 (Nat.le_of_ble_eq_true rfl) ?_
          exact SOps.nil rfl
        apply DOk.cons 24 
        · rfl
        · exact (NeedIs.inr _ rfl NeedIs.nil)
        · intro rest
          refine SOps.move rfl ?_
          exact SOps.nil rfl
        apply DOk.cons 25 
        · rfl
        · exact (NeedIs.inl 1 _ _ rfl rfl (NeedIs.inl 0 _ _ rfl rfl NeedIs.nil))
        · intro rest
          refine SOps.callP (qFree _ _ hkk h1 h2) rfl ?_
          rintro _ rfl
          exact SOps.nil rfl
        apply DOk.cons 26 
        · rfl
        · exact (NeedIs.inr _ rfl NeedIs.nil)
        · intro rest
          refine SOps.loadPinA rfl aggB_48_2 (Nat.le_of_ble_eq_true rfl) ?_
          exact SOps.nil rfl
        apply DOk.cons 27 
        · rfl
        · exact (NeedIs.inr _ rfl NeedIs.nil)
        · intro rest
          refine SOps.move rfl ?_
          exact SOps.nil rfl
        apply DOk.cons 28 
        · rfl
        · exact (NeedIs.inl 1 _ _ rfl rfl (NeedIs.inl 0 _ _ rfl rfl NeedIs.nil))
        · intro rest
          refine SOps.callP (qFree _ _ hkk h1 h2) rfl ?_
          rintro _ rfl
          exact SOps.nil rfl
        apply DOk.cons 29 (.v (.int .i64 ((freeL w (l[k])) * (freeL w (l[k])))))
        · rfl
        · exact (NeedIs.inl 3 _ _ rfl rfl (NeedIs.inl 0 _ _ rfl rfl NeedIs.nil))
        · intro rest
          refine SOps.bin rfl rfl rfl ?_
          exact SOps.nil (congrArg (fun z => St.put _ 29 (.v (.int .i64 z))) (wrap_id (has_i64 (by omega) (by omega))))
        apply DOk.cons 30 
        · rfl
        · exact (NeedIs.inl 7 _ _ rfl rfl (NeedIs.inl 0 _ _ rfl rfl NeedIs.nil))
        · intro rest
          refine SOps.addI rfl rfl (by first | omega | (simp only [lenB] <;> omega)) (by first | omega | (simp only [lenB] <;> omega)) ?_
          exact SOps.nil rfl
        apply DOk.cons 7 
        · rfl
        · exact (NeedIs.inl 0 _ _ rfl rfl NeedIs.nil)
        · intro rest
          refine SOps.assign rfl ?_
          exact SOps.nil rfl
        exact DOk.nil
      · rfl
      · show SCode _ _ _ _
        refine SCode.seqR ?_
        refine SOps.fieldPin rfl fieldB_48_1_1 ?_
        refine SOps.loadPin rfl flatB_4 ?_
        refine SOps.nil ?_
        refine SCode.cond rfl (fun hc3 => ?_) (fun hc3 => ?_)
        · try simp only [decide_eq_true_eq, decide_eq_false_iff_not, Bool.not_eq_true', Bool.not_eq_false', beq_iff_eq, bne_iff_ne, ne_eq, beq_eq_false_iff_ne, bne_eq_false_iff_eq, Int.not_lt, Int.not_le, Nat.not_lt, Nat.not_le, Int.ofNat_lt, Int.ofNat_le, Bool.not_eq_eq_eq_not, Bool.not_true, Bool.not_false] at hc3
          have hst : sumK l w p (k + 1) = sumK l w p k + (freeL w (l[k])) * (freeL w (l[k])) + p := by rw [hsk, if_pos hc3, ← Int.add_assoc]
          refine SCode.region ?_
          refine SOps.move rfl ?_
          refine SOps.move rfl ?_
          refine SOps.addI rfl rfl (by first | omega | (simp only [lenB] <;> omega)) (by first | omega | (simp only [lenB] <;> omega)) ?_
          refine SOps.assign rfl ?_
          refine SOps.nil ?_
          show SCode _ _ _ _
          refine SCode.region ?_
          refine SOps.addI rfl rfl (by first | omega | (simp only [lenB] <;> omega)) (by first | omega | (simp only [lenB] <;> omega)) ?_
          refine SOps.move rfl ?_
          refine SOps.nil ?_
          exact ⟨k + 1, by omega, by omega, St.Le.of ⟨rfl, rfl, rfl, congrArg (fun z => some (DV.v (.int .i64 z))) hst.symm, rfl, rfl, rfl, trivial⟩⟩
        · try simp only [decide_eq_true_eq, decide_eq_false_iff_not, Bool.not_eq_true', Bool.not_eq_false', beq_iff_eq, bne_iff_ne, ne_eq, beq_eq_false_iff_ne, bne_eq_false_iff_eq, Int.not_lt, Int.not_le, Nat.not_lt, Nat.not_le, Int.ofNat_lt, Int.ofNat_le, Bool.not_eq_eq_eq_not, Bool.not_true, Bool.not_false] at hc3
          have hst : sumK l w p (k + 1) = sumK l w p k + (freeL w (l[k])) * (freeL w (l[k])) := by rw [hsk, if_neg (by rw [hc3]; simp), Int.add_zero]
          refine SCode.skip ?_
          show SCode _ _ _ _
          refine SCode.region ?_
          refine SOps.addI rfl rfl (by first | omega | (simp only [lenB] <;> omega)) (by first | omega | (simp only [lenB] <;> omega)) ?_
          refine SOps.move rfl ?_
          refine SOps.nil ?_
          exact ⟨k + 1, by omega, by omega, St.Le.of ⟨rfl, rfl, rfl, congrArg (fun z => some (DV.v (.int .i64 z))) hst.symm, rfl, rfl, rfl, trivial⟩⟩
    · try simp only [decide_eq_true_eq, decide_eq_false_iff_not, Bool.not_eq_true', Bool.not_eq_false', beq_iff_eq, bne_iff_ne, ne_eq, beq_eq_false_iff_ne, bne_eq_false_iff_eq, Int.not_lt, Int.not_le, Nat.not_lt, Nat.not_le, Int.ofNat_lt, Int.ofNat_le, Bool.not_eq_eq_eq_not, Bool.not_true, Bool.not_false] at hc2
      have hlt : ¬ k + 1 < l.length := by omega
      rw [if_neg hlt] at hsk
      refine SCode.skip ?_
      show SCode _ _ _ _
      refine SCode.seqR ?_
      refine SOps.fieldPin rfl fieldB_48_1_1 ?_
      refine SOps.loadPin rfl flatB_4 ?_
      refine SOps.nil ?_
      refine SCode.cond rfl (fun hc4 => ?_) (fun hc4 => ?_)
      · try simp only [decide_eq_true_eq, decide_eq_false_iff_not, Bool.not_eq_true', Bool.not_eq_false', beq_iff_eq, bne_iff_ne, ne_eq, beq_eq_false_iff_ne, bne_eq_false_iff_eq, Int.not_lt, Int.not_le, Nat.not_lt, Nat.not_le, Int.ofNat_lt, Int.ofNat_le, Bool.not_eq_eq_eq_not, Bool.not_true, Bool.not_false] at hc4
        have hst : sumK l w p (k + 1) = sumK l w p k + p := by rw [hsk, if_pos hc4, Int.zero_add]
        refine SCode.region ?_
        refine SOps.move rfl ?_
        refine SOps.move rfl ?_
        refine SOps.addI rfl rfl (by first | omega | (simp only [lenB] <;> omega)) (by first | omega | (simp only [lenB] <;> omega)) ?_
        refine SOps.assign rfl ?_
        refine SOps.nil ?_
        show SCode _ _ _ _
        refine SCode.region ?_
        refine SOps.addI rfl rfl (by first | omega | (simp only [lenB] <;> omega)) (by first | omega | (simp only [lenB] <;> omega)) ?_
        refine SOps.move rfl ?_
        refine SOps.nil ?_
        exact ⟨k + 1, by omega, by omega, St.Le.of ⟨rfl, rfl, rfl, congrArg (fun z => some (DV.v (.int .i64 z))) hst.symm, rfl, rfl, rfl, trivial⟩⟩
      · try simp only [decide_eq_true_eq, decide_eq_false_iff_not, Bool.not_eq_true', Bool.not_eq_false', beq_iff_eq, bne_iff_ne, ne_eq, beq_eq_false_iff_ne, bne_eq_false_iff_eq, Int.not_lt, Int.not_le, Nat.not_lt, Nat.not_le, Int.ofNat_lt, Int.ofNat_le, Bool.not_eq_eq_eq_not, Bool.not_true, Bool.not_false] at hc4
        have hst : sumK l w p (k + 1) = sumK l w p k := by rw [hsk, if_neg (by rw [hc4]; simp), Int.zero_add, Int.add_zero]
        refine SCode.skip ?_
        show SCode _ _ _ _
        refine SCode.region ?_
        refine SOps.addI rfl rfl (by first | omega | (simp only [lenB] <;> omega)) (by first | omega | (simp only [lenB] <;> omega)) ?_
        refine SOps.move rfl ?_
        refine SOps.nil ?_
        exact ⟨k + 1, by omega, by omega, St.Le.of ⟨rfl, rfl, rfl, congrArg (fun z => some (DV.v (.int .i64 z))) hst.symm, rfl, rfl, rfl, trivial⟩⟩
  · try simp only [decide_eq_true_eq, decide_eq_false_iff_not, Bool.not_eq_true', Bool.not_eq_false', beq_iff_eq, bne_iff_ne, ne_eq, beq_eq_false_iff_ne, bne_eq_false_iff_eq, Int.not_lt, Int.not_le, Nat.not_lt, Nat.not_le, Int.ofNat_lt, Int.ofNat_le, Bool.not_eq_eq_eq_not, Bool.not_true, Bool.not_false] at hc1
    refine SCode.exit ?_
    show SCode _ _ _ _
    refine SCode.seqR ?_
    refine SOps.move rfl ?_
    refine SOps.assign rfl ?_
    refine SOps.nil ?_
    refine SCode.ret ?_
    exact ⟨_, Res.one (.tmp rfl), by rw [sumL, show l.length = k by omega], rfl⟩
end Go.GH
namespace Go.GH
open Go Go.Lib
def badLn (n k : Nat) (ln : Ln) : Bool := decide (ln.words.length = 0) || (ln.hyph && decide (k + 1 = n)) || ln.words.any (fun w => !wordB w)
def badsL (l : List Ln) : Bool := (List.range l.length).any (fun k => badLn l.length k (lnAt l k))
def costBad (l : List Ln) (w p : Int) : Bool := !wideB w || !penB p || decide (1000 < l.length) || badsL l
def tightL (l : List Ln) (w : Int) : Bool := l.any (fun ln => decide (freeL w ln < 0))
def costL (l : List Ln) (w p : Int) : Int × Int := if costBad l w p then (0, 1) else if tightL l w then (0, 2) else (sumL l w p, 0)
def tupC (x : Int × Int) : DV := .tup [.v (.int .i64 x.1), .v (.int .i64 x.2)]
theorem bads_at {l : List Ln} {k : Nat} (h : k < l.length) (h2 : badLn l.length k l[k] = true) : badsL l = true :=
  List.any_eq_true.2 ⟨k, List.mem_range.2 h, by rw [lnAt_lt h]; exact h2⟩
theorem bads_none {l : List Ln} (h : ∀ j, j < l.length → badLn l.length j (lnAt l j) = false) : badsL l = false :=
  List.any_eq_false.2 (fun k hk => by rw [h k (List.mem_range.1 hk)]; simp)
theorem bads_step {l : List Ln} {k : Nat} (hf : ∀ j, j < k → badLn l.length j (lnAt l j) = false) (h : k < l.length) (h2 : badLn l.length k l[k] = false) : ∀ j, j < k + 1 → badLn l.length j (lnAt l j) = false := fun j hj => by
  rcases Nat.lt_or_ge j k with h3 | h3
  · exact hf j h3
  · obtain rfl : j = k := by omega
    rw [lnAt_lt h]; exact h2
theorem badLn_of {n k : Nat} {ln : Ln} (h1 : ¬ ln.words.length = 0) (h2 : ln.hyph = false ∨ ¬ k + 1 = n) (h3 : ln.words.any (fun w => !wordB w) = false) : badLn n k ln = false := by
  unfold badLn
  rw [h3, decide_eq_false h1]
  rcases h2 with h2 | h2
  · rw [h2]; rfl
  · rw [decide_eq_false h2, Bool.and_false]; rfl
theorem badLn_1 {n k : Nat} {ln : Ln} (h1 : ln.words.length = 0) : badLn n k ln = true := by unfold badLn; rw [decide_eq_true h1]; rfl
theorem badLn_2 {n k : Nat} {ln : Ln} (h1 : ln.hyph = true) (h2 : k + 1 = n) : badLn n k ln = true := by unfold badLn; rw [h1, decide_eq_true h2]; simp
theorem badLn_3 {n k : Nat} {ln : Ln} (h1 : ln.words.any (fun w => !wordB w) = true) : badLn n k ln = true := by unfold badLn; rw [h1, Bool.or_true]
theorem cost_bad {l : List Ln} {w p : Int} (h : costBad l w p = true) : costL l w p = (0, 1) := by unfold costL; rw [if_pos h]
theorem cost_tight {l : List Ln} {w p : Int} (h : costBad l w p = false) (h2 : tightL l w = true) : costL l w p = (0, 2) := by unfold costL; rw [if_neg (by rw [h]; simp), if_pos h2]
theorem cost_ok {l : List Ln} {w p : Int} (h : costBad l w p = false) (h2 : tightL l w = false) : costL l w p = (sumL l w p, 0) := by unfold costL; rw [if_neg (by rw [h]; simp), if_neg (by rw [h2]; simp)]
theorem tight_at {l : List Ln} {w : Int} {k : Nat} (h : k < l.length) (h2 : freeL w l[k] < 0) : tightL l w = true := List.any_eq_true.2 ⟨_, List.getElem_mem h, decide_eq_true h2⟩
theorem tight_none {l : List Ln} {w : Int} (h : ∀ x ∈ l, ¬ freeL w x < 0) : tightL l w = false := List.any_eq_false.2 (fun x hx => by rw [decide_eq_false (h x hx)]; simp)
theorem costBad_of {l : List Ln} {w p : Int} (h1 : wideB w = true) (h2 : penB p = true) (h3 : ¬ 1000 < l.length) (h4 : badsL l = false) : costBad l w p = false := by unfold costBad; rw [h1, h2, decide_eq_false h3, h4]; rfl
theorem costBad_4 {l : List Ln} {w p : Int} (h : badsL l = true) : costBad l w p = true := by unfold costBad; rw [h, Bool.or_true]
theorem penB_iff {p : Int} : penB p = true ↔ 0 ≤ p ∧ p ≤ 1000000 := by simp [penB]
theorem wideB_iff {p : Int} : wideB p = true ↔ 1 ≤ p ∧ p ≤ 200 := by simp [wideB]
theorem costBad_0 {l : List Ln} {w p : Int} (h : wideB w = false ∨ p < 0 ∨ 1000000 < p ∨ 1000 < l.length) : costBad l w p = true := by
  unfold costBad
  rcases h with h | h | h | h
  · rw [h]; rfl
  · rw [show penB p = false from Bool.eq_false_iff.2 (fun h2 => by have := penB_iff.1 h2; omega)]; simp
  · rw [show penB p = false from Bool.eq_false_iff.2 (fun h2 => by have := penB_iff.1 h2; omega)]; simp
  · rw [decide_eq_true h]; simp
end Go.GH
namespace Go.GH
open Go Go.Proofs
variable {E : Env}
theorem sCost (hV : VS E) (l : List Ln) (w p : Int) (hk : ∀ x ∈ l, LnOK x) : GCall Tryd.prog E 34 [DLns l, .v (.int .i64 w), .v (.int .i64 p)] [] (fun d H => d = tupC (costL l w p) ∧ H = []) := by
  refine GCall.body (C := ⟨Tryd.prog, E, true⟩) Tryd.func34 rfl (fun _ => rfl) (by kernel_rfl) rfl ?_
  refine SCode.seqR ?_
  refine SOps.assign rfl ?_
  refine SOps.assign rfl ?_
  refine SOps.nil ?_
  refine SCode.seq ?_
  refine SCode.seqR ?_
  refine SOps.move rfl ?_
  refine SOps.callP (wideW _) rfl ?_
  rintro _ rfl
  refine SOps.un rfl rfl ?_
  refine SOps.move rfl ?_
  refine SOps.caseB 17 rfl (fun hb1 => ?_) (fun hb1 => ?_)
  · try simp only [decide_eq_true_eq, decide_eq_false_iff_not, Bool.not_eq_true', Bool.not_eq_false', beq_iff_eq, bne_iff_ne, ne_eq, beq_eq_false_iff_ne, bne_eq_false_iff_eq, Int.not_lt, Int.not_le, Nat.not_lt, Nat.not_le, Int.ofNat_lt, Int.ofNat_le, Bool.not_eq_eq_eq_not, Bool.not_true, Bool.not_false] at hb1
    refine SOps.skip rfl ?_
    refine SOps.skip rfl ?_
    refine SOps.pick rfl rfl ?_
    refine SOps.move rfl ?_
    refine SOps.skip rfl ?_
    refine SOps.skip rfl ?_
    refine SOps.pick rfl rfl ?_
    refine SOps.move rfl ?_
    refine SOps.skip rfl ?_
    refine SOps.skip rfl ?_
    refine SOps.skip rfl ?_
    refine SOps.pick rfl rfl ?_
    refine SOps.nil ?_
    refine SCode.cond rfl (fun _ => ?_) (fun h => by cases h)
    refine SCode.seqR ?_
    refine SOps.assign rfl ?_
    refine SOps.assign rfl ?_
    refine SOps.nil ?_
    refine SCode.ret ?_
    exact ⟨_, Res.two (.tmp rfl) (.tmp rfl), (by first | (rw [show costL l w p = (0, 1) from by first | exact cost_bad (costBad_0 (by first | (left; assumption) | omega)) | exact cost_bad (costBad_4 (bads_at hkl (by first | exact badLn_1 (by omega) | exact badLn_2 (by assumption) (by omega) | exact badLn_3 (by assumption))))]; rfl) | (rw [cost_tight hcb (tight_at hkl (by omega))]; rfl) | (rw [cost_ok hcb (tight_none (all_of (by omega) hg)), sumL, show l.length = k by omega]; rfl)), rfl⟩
  · try simp only [decide_eq_true_eq, decide_eq_false_iff_not, Bool.not_eq_true', Bool.not_eq_false', beq_iff_eq, bne_iff_ne, ne_eq, beq_eq_false_iff_ne, bne_eq_false_iff_eq, Int.not_lt, Int.not_le, Nat.not_lt, Nat.not_le, Int.ofNat_lt, Int.ofNat_le, Bool.not_eq_eq_eq_not, Bool.not_true, Bool.not_false] at hb1
    refine SOps.move rfl ?_
    refine SOps.bin rfl rfl rfl ?_
    refine SOps.pick rfl rfl ?_
    refine SOps.move rfl ?_
    refine SOps.caseB 21 rfl (fun hb2 => ?_) (fun hb2 => ?_)
    · try simp only [decide_eq_true_eq, decide_eq_false_iff_not, Bool.not_eq_true', Bool.not_eq_false', beq_iff_eq, bne_iff_ne, ne_eq, beq_eq_false_iff_ne, bne_eq_false_iff_eq, Int.not_lt, Int.not_le, Nat.not_lt, Nat.not_le, Int.ofNat_lt, Int.ofNat_le, Bool.not_eq_eq_eq_not, Bool.not_true, Bool.not_false] at hb2
      refine SOps.skip rfl ?_
      refine SOps.skip rfl ?_
      refine SOps.pick rfl rfl ?_
      refine SOps.move rfl ?_
      refine SOps.skip rfl ?_
      refine SOps.skip rfl ?_
      refine SOps.skip rfl ?_
      refine SOps.pick rfl rfl ?_
      refine SOps.nil ?_
      refine SCode.cond rfl (fun _ => ?_) (fun h => by cases h)
      refine SCode.seqR ?_
      refine SOps.assign rfl ?_
      refine SOps.assign rfl ?_
      refine SOps.nil ?_
      refine SCode.ret ?_
      exact ⟨_, Res.two (.tmp rfl) (.tmp rfl), (by first | (rw [show costL l w p = (0, 1) from by first | exact cost_bad (costBad_0 (by first | (left; assumption) | omega)) | exact cost_bad (costBad_4 (bads_at hkl (by first | exact badLn_1 (by omega) | exact badLn_2 (by assumption) (by omega) | exact badLn_3 (by assumption))))]; rfl) | (rw [cost_tight hcb (tight_at hkl (by omega))]; rfl) | (rw [cost_ok hcb (tight_none (all_of (by omega) hg)), sumL, show l.length = k by omega]; rfl)), rfl⟩
    · try simp only [decide_eq_true_eq, decide_eq_false_iff_not, Bool.not_eq_true', Bool.not_eq_false', beq_iff_eq, bne_iff_ne, ne_eq, beq_eq_false_iff_ne, bne_eq_false_iff_eq, Int.not_lt, Int.not_le, Nat.not_lt, Nat.not_le, Int.ofNat_lt, Int.ofNat_le, Bool.not_eq_eq_eq_not, Bool.not_true, Bool.not_false] at hb2
      refine SOps.move rfl ?_
      refine SOps.bin rfl rfl rfl ?_
      refine SOps.pick rfl rfl ?_
      refine SOps.move rfl ?_
      refine SOps.caseB 25 rfl (fun hb3 => ?_) (fun hb3 => ?_)
      · try simp only [decide_eq_true_eq, decide_eq_false_iff_not, Bool.not_eq_true', Bool.not_eq_false', beq_iff_eq, bne_iff_ne, ne_eq, beq_eq_false_iff_ne, bne_eq_false_iff_eq, Int.not_lt, Int.not_le, Nat.not_lt, Nat.not_le, Int.ofNat_lt, Int.ofNat_le, Bool.not_eq_eq_eq_not, Bool.not_true, Bool.not_false] at hb3
        refine SOps.skip rfl ?_
        refine SOps.skip rfl ?_
        refine SOps.skip rfl ?_
        refine SOps.pick rfl rfl ?_
        refine SOps.nil ?_
        refine SCode.cond rfl (fun _ => ?_) (fun h => by cases h)
        refine SCode.seqR ?_
        refine SOps.assign rfl ?_
        refine SOps.assign rfl ?_
        refine SOps.nil ?_
        refine SCode.ret ?_
        exact ⟨_, Res.two (.tmp rfl) (.tmp rfl), (by first | (rw [show costL l w p = (0, 1) from by first | exact cost_bad (costBad_0 (by first | (left; assumption) | omega)) | exact cost_bad (costBad_4 (bads_at hkl (by first | exact badLn_1 (by omega) | exact badLn_2 (by assumption) (by omega) | exact badLn_3 (by assumption))))]; rfl) | (rw [cost_tight hcb (tight_at hkl (by omega))]; rfl) | (rw [cost_ok hcb (tight_none (all_of (by omega) hg)), sumL, show l.length = k by omega]; rfl)), rfl⟩
      · try simp only [decide_eq_true_eq, decide_eq_false_iff_not, Bool.not_eq_true', Bool.not_eq_false', beq_iff_eq, bne_iff_ne, ne_eq, beq_eq_false_iff_ne, bne_eq_false_iff_eq, Int.not_lt, Int.not_le, Nat.not_lt, Nat.not_le, Int.ofNat_lt, Int.ofNat_le, Bool.not_eq_eq_eq_not, Bool.not_true, Bool.not_false] at hb3
        refine SOps.move rfl ?_
        refine SOps.lenM rfl sliceB_25_48_2 ?_
        refine SOps.bin rfl rfl rfl ?_
        refine SOps.pick rfl rfl ?_
        refine SOps.nil ?_
        refine SCode.cond rfl (fun hc4 => ?_) (fun hc4 => ?_)
        · try simp only [decide_eq_true_eq, decide_eq_false_iff_not, Bool.not_eq_true', Bool.not_eq_false', beq_iff_eq, bne_iff_ne, ne_eq, beq_eq_false_iff_ne, bne_eq_false_iff_eq, Int.not_lt, Int.not_le, Nat.not_lt, Nat.not_le, Int.ofNat_lt, Int.ofNat_le, Bool.not_eq_eq_eq_not, Bool.not_true, Bool.not_false] at hc4
          refine SCode.seqR ?_
          refine SOps.assign rfl ?_
          refine SOps.assign rfl ?_
          refine SOps.nil ?_
          refine SCode.ret ?_
          exact ⟨_, Res.two (.tmp rfl) (.tmp rfl), (by first | (rw [show costL l w p = (0, 1) from by first | exact cost_bad (costBad_0 (by first | (left; assumption) | omega)) | exact cost_bad (costBad_4 (bads_at hkl (by first | exact badLn_1 (by omega) | exact badLn_2 (by assumption) (by omega) | exact badLn_3 (by assumption))))]; rfl) | (rw [cost_tight hcb (tight_at hkl (by omega))]; rfl) | (rw [cost_ok hcb (tight_none (all_of (by omega) hg)), sumL, show l.length = k by omega]; rfl)), rfl⟩
        · try simp only [decide_eq_true_eq, decide_eq_false_iff_not, Bool.not_eq_true', Bool.not_eq_false', beq_iff_eq, bne_iff_ne, ne_eq, beq_eq_false_iff_ne, bne_eq_false_iff_eq, Int.not_lt, Int.not_le, Nat.not_lt, Nat.not_le, Int.ofNat_lt, Int.ofNat_le, Bool.not_eq_eq_eq_not, Bool.not_true, Bool.not_false] at hc4
          refine SCode.skip ?_
          show SCode _ _ _ _
          refine SCode.seq ?_
          refine SCode.seqR ?_
          refine SOps.move rfl ?_
          refine SOps.lenM rfl sliceB_25_48_2 ?_
          refine SOps.move rfl ?_
          refine SOps.nil ?_
          refine SCode.block ?_
          refine SCode.loop1 (fun (k : Nat) => (⟨89, [(0, DLns l), (1, .v (.int .i64 w)), (2, .v (.int .i64 p)), (30, DLns l), (31, .v (.int .i64 (l.length : Int))), (32, .v (.int .i64 (k : Int)))], []⟩ : St)) (fun (k : Nat) => k ≤ l.length ∧ ∀ j, j < k → badLn l.length j (lnAt l j) = false) (fun (k : Nat) => l.length - k) (0) (by exact ⟨Nat.zero_le _, fun j hj => absurd hj (Nat.not_lt_zero _)⟩) (St.Le.of ⟨(by first | rfl | (show some _ = some _; simp)), (by first | rfl | (show some _ = some _; simp)), (by first | rfl | (show some _ = some _; simp)), (by first | rfl | (show some _ = some _; simp)), (by first | rfl | (show some _ = some _; simp)), (by first | rfl | (show some _ = some _; simp)), trivial⟩ rfl (by first | rfl | (simp))) ?_
          rintro k ⟨hkn, hf⟩
          refine SCode.seqR ?_
          refine SOps.bin rfl rfl rfl ?_
          refine SOps.nil ?_
          refine SCode.seq ?_
          refine SCode.cond rfl (fun hc5 => ?_) (fun hc5 => ?_)
          · try simp only [decide_eq_true_eq, decide_eq_false_iff_not, Bool.not_eq_true', Bool.not_eq_false', beq_iff_eq, bne_iff_ne, ne_eq, beq_eq_false_iff_ne, bne_eq_false_iff_eq, Int.not_lt, Int.not_le, Nat.not_lt, Nat.not_le, Int.ofNat_lt, Int.ofNat_le, Bool.not_eq_eq_eq_not, Bool.not_true, Bool.not_false] at hc5
            refine SCode.skip ?_
            show SCode _ _ _ _
            refine SCode.seq ?_
            refine SCode.block ?_
            refine SCode.seqR ?_
            refine SOps.move rfl ?_
            refine SOps.indexM (k) rfl rfl sliceB_25_48_2 (by first | omega | (simp only [lenB] <;> omega)) (by first | omega | (simp only [lenB] <;> omega)) ?_
            refine SOps.loadPinA rfl aggB_48_2 (Nat.le_of_ble_eq_true rfl) ?_
            refine SOps.alloc (sz := 2) zeroIs_48 (fun b0 hb_0 => ?_)
            refine SOps.assign rfl ?_
            refine SOps.storeAM 0 rfl rfl aggB_48_2 rfl ?_
            refine SOps.freezeRef (t := 9) 0 0 rfl rfl rfl rfl rfl ?_
            refine SOps.nil ?_
            refine SCode.seqR ?_
            have hkl : k < l.length := by omega
            have hkk := hk _ (List.getElem_mem hkl)
            refine SOps.fieldPin rfl fieldB_48_0_0 ?_
            refine SOps.loadPin rfl flatB_46 ?_
            refine SOps.lenM rfl sliceB_46_9_1 ?_
            refine SOps.bin rfl rfl rfl ?_
            refine SOps.move rfl ?_
            refine SOps.caseB 41 rfl (fun hb6 => ?_) (fun hb6 => ?_)
            · try simp only [decide_eq_true_eq, decide_eq_false_iff_not, Bool.not_eq_true', Bool.not_eq_false', beq_iff_eq, bne_iff_ne, ne_eq, beq_eq_false_iff_ne, bne_eq_false_iff_eq, Int.not_lt, Int.not_le, Nat.not_lt, Nat.not_le, Int.ofNat_lt, Int.ofNat_le, Bool.not_eq_eq_eq_not, Bool.not_true, Bool.not_false] at hb6
              refine SOps.skip rfl ?_
              refine SOps.skip rfl ?_
              refine SOps.skip rfl ?_
              refine SOps.skip rfl ?_
              refine SOps.skip rfl ?_
              refine SOps.skip rfl ?_
              refine SOps.skip rfl ?_
              refine SOps.skip rfl ?_
              refine SOps.skip rfl ?_
              refine SOps.pick rfl rfl ?_
              refine SOps.move rfl ?_
              refine SOps.skip rfl ?_
              refine SOps.skip rfl ?_
              refine SOps.skip rfl ?_
              refine SOps.pick rfl rfl ?_
              refine SOps.nil ?_
              refine SCode.cond rfl (fun _ => ?_) (fun h => by cases h)
              refine SCode.seqR ?_
              refine SOps.assign rfl ?_
              refine SOps.assign rfl ?_
              refine SOps.nil ?_
              refine SCode.ret ?_
              exact ⟨_, Res.two (.tmp rfl) (.tmp rfl), (by first | (rw [show costL l w p = (0, 1) from by first | exact cost_bad (costBad_0 (by first | (left; assumption) | omega)) | exact cost_bad (costBad_4 (bads_at hkl (by first | exact badLn_1 (by omega) | exact badLn_2 (by assumption) (by omega) | exact badLn_3 (by assumption))))]; rfl) | (rw [cost_tight hcb (tight_at hkl (by omega))]; rfl) | (rw [cost_ok hcb (tight_none (all_of (by omega) hg)), sumL, show l.length = k by omega]; rfl)), rfl⟩
            · try simp only [decide_eq_true_eq, decide_eq_false_iff_not, Bool.not_eq_true', Bool.not_eq_false', beq_iff_eq, bne_iff_ne, ne_eq, beq_eq_false_iff_ne, bne_eq_false_iff_eq, Int.not_lt, Int.not_le, Nat.not_lt, Nat.not_le, Int.ofNat_lt, Int.ofNat_le, Bool.not_eq_eq_eq_not, Bool.not_true, Bool.not_false] at hb6
              refine SOps.fieldPin rfl fieldB_48_1_1 ?_
              refine SOps.loadPin rfl flatB_4 ?_
              refine SOps.move rfl ?_
              refine SOps.caseB 44 rfl (fun hb7 => ?_) (fun hb7 => ?_)
              · try simp only [decide_eq_true_eq, decide_eq_false_iff_not, Bool.not_eq_true', Bool.not_eq_false', beq_iff_eq, bne_iff_ne, ne_eq, beq_eq_false_iff_ne, bne_eq_false_iff_eq, Int.not_lt, Int.not_le, Nat.not_lt, Nat.not_le, Int.ofNat_lt, Int.ofNat_le, Bool.not_eq_eq_eq_not, Bool.not_true, Bool.not_false] at hb7
                refine SOps.move rfl ?_
                refine SOps.move rfl ?_
                refine SOps.lenM rfl sliceB_25_48_2 ?_
                refine SOps.subI rfl rfl (by first | omega | (simp only [lenB] <;> omega)) (by first | omega | (simp only [lenB] <;> omega)) ?_
                refine SOps.bin rfl rfl rfl ?_
                refine SOps.pick rfl rfl ?_
                refine SOps.pick rfl rfl ?_
                refine SOps.move rfl ?_
                refine SOps.caseB 52 rfl (fun hb8 => ?_) (fun hb8 => ?_)
                · try simp only [decide_eq_true_eq, decide_eq_false_iff_not, Bool.not_eq_true', Bool.not_eq_false', beq_iff_eq, bne_iff_ne, ne_eq, beq_eq_false_iff_ne, bne_eq_false_iff_eq, Int.not_lt, Int.not_le, Nat.not_lt, Nat.not_le, Int.ofNat_lt, Int.ofNat_le, Bool.not_eq_eq_eq_not, Bool.not_true, Bool.not_false] at hb8
                  refine SOps.skip rfl ?_
                  refine SOps.skip rfl ?_
                  refine SOps.skip rfl ?_
                  refine SOps.pick rfl rfl ?_
                  refine SOps.nil ?_
                  refine SCode.cond rfl (fun _ => ?_) (fun h => by cases h)
                  refine SCode.seqR ?_
                  refine SOps.assign rfl ?_
                  refine SOps.assign rfl ?_
                  refine SOps.nil ?_
                  refine SCode.ret ?_
                  exact ⟨_, Res.two (.tmp rfl) (.tmp rfl), (by first | (rw [show costL l w p = (0, 1) from by first | exact cost_bad (costBad_0 (by first | (left; assumption) | omega)) | exact cost_bad (costBad_4 (bads_at hkl (by first | exact badLn_1 (by omega) | exact badLn_2 (by assumption) (by omega) | exact badLn_3 (by assumption))))]; rfl) | (rw [cost_tight hcb (tight_at hkl (by omega))]; rfl) | (rw [cost_ok hcb (tight_none (all_of (by omega) hg)), sumL, show l.length = k by omega]; rfl)), rfl⟩
                · try simp only [decide_eq_true_eq, decide_eq_false_iff_not, Bool.not_eq_true', Bool.not_eq_false', beq_iff_eq, bne_iff_ne, ne_eq, beq_eq_false_iff_ne, bne_eq_false_iff_eq, Int.not_lt, Int.not_le, Nat.not_lt, Nat.not_le, Int.ofNat_lt, Int.ofNat_le, Bool.not_eq_eq_eq_not, Bool.not_true, Bool.not_false] at hb8
                  refine SOps.fieldPin rfl fieldB_48_0_0 ?_
                  refine SOps.loadPin rfl flatB_46 ?_
                  refine SOps.callP (lContainsFuncS (fun s => !wordB s) _ (fun x hx => sCost1 hV x (hkk.words.1 x hx))) rfl ?_
                  rintro _ rfl
                  refine SOps.pick rfl rfl ?_
                  refine SOps.nil ?_
                  refine SCode.cond rfl (fun hc9 => ?_) (fun hc9 => ?_)
                  · try simp only [decide_eq_true_eq, decide_eq_false_iff_not, Bool.not_eq_true', Bool.not_eq_false', beq_iff_eq, bne_iff_ne, ne_eq, beq_eq_false_iff_ne, bne_eq_false_iff_eq, Int.not_lt, Int.not_le, Nat.not_lt, Nat.not_le, Int.ofNat_lt, Int.ofNat_le, Bool.not_eq_eq_eq_not, Bool.not_true, Bool.not_false] at hc9
                    refine SCode.seqR ?_
                    refine SOps.assign rfl ?_
                    refine SOps.assign rfl ?_
                    refine SOps.nil ?_
                    refine SCode.ret ?_
                    exact ⟨_, Res.two (.tmp rfl) (.tmp rfl), (by first | (rw [show costL l w p = (0, 1) from by first | exact cost_bad (costBad_0 (by first | (left; assumption) | omega)) | exact cost_bad (costBad_4 (bads_at hkl (by first | exact badLn_1 (by omega) | exact badLn_2 (by assumption) (by omega) | exact badLn_3 (by assumption))))]; rfl) | (rw [cost_tight hcb (tight_at hkl (by omega))]; rfl) | (rw [cost_ok hcb (tight_none (all_of (by omega) hg)), sumL, show l.length = k by omega]; rfl)), rfl⟩
                  · try simp only [decide_eq_true_eq, decide_eq_false_iff_not, Bool.not_eq_true', Bool.not_eq_false', beq_iff_eq, bne_iff_ne, ne_eq, beq_eq_false_iff_ne, bne_eq_false_iff_eq, Int.not_lt, Int.not_le, Nat.not_lt, Nat.not_le, Int.ofNat_lt, Int.ofNat_le, Bool.not_eq_eq_eq_not, Bool.not_true, Bool.not_false] at hc9
                    refine SCode.skip ?_
                    show SCode _ _ _ _
                    refine SCode.region ?_
                    refine SOps.addI rfl rfl (by first | omega | (simp only [lenB] <;> omega)) (by first | omega | (simp only [lenB] <;> omega)) ?_
                    refine SOps.move rfl ?_
                    refine SOps.nil ?_
                    have hbl : badLn l.length k l[k] = false := badLn_of (by omega) (by first | (left; assumption) | (right; omega)) (by assumption)
                    exact ⟨k + 1, ⟨by omega, bads_step hf hkl hbl⟩, by omega, St.Le.of ⟨rfl, rfl, rfl, rfl, rfl, rfl, trivial⟩⟩
              · try simp only [decide_eq_true_eq, decide_eq_false_iff_not, Bool.not_eq_true', Bool.not_eq_false', beq_iff_eq, bne_iff_ne, ne_eq, beq_eq_false_iff_ne, bne_eq_false_iff_eq, Int.not_lt, Int.not_le, Nat.not_lt, Nat.not_le, Int.ofNat_lt, Int.ofNat_le, Bool.not_eq_eq_eq_not, Bool.not_true, Bool.not_false] at hb7
                refine SOps.skip rfl ?_
                refine SOps.skip rfl ?_
                refine SOps.skip rfl ?_
                refine SOps.skip rfl ?_
                refine SOps.skip rfl ?_
                refine SOps.pick rfl rfl ?_
                refine SOps.pick rfl rfl ?_
                refine SOps.move rfl ?_
                refine SOps.fieldPin rfl fieldB_48_0_0 ?_
                refine SOps.loadPin rfl flatB_46 ?_
                refine SOps.callP (lContainsFuncS (fun s => !wordB s) _ (fun x hx => sCost1 hV x (hkk.words.1 x hx))) rfl ?_
                rintro _ rfl
                refine SOps.pick rfl rfl ?_
                refine SOps.nil ?_
                refine SCode.cond rfl (fun hc10 => ?_) (fun hc10 => ?_)
                · try simp only [decide_eq_true_eq, decide_eq_false_iff_not, Bool.not_eq_true', Bool.not_eq_false', beq_iff_eq, bne_iff_ne, ne_eq, beq_eq_false_iff_ne, bne_eq_false_iff_eq, Int.not_lt, Int.not_le, Nat.not_lt, Nat.not_le, Int.ofNat_lt, Int.ofNat_le, Bool.not_eq_eq_eq_not, Bool.not_true, Bool.not_false] at hc10
                  refine SCode.seqR ?_
                  refine SOps.assign rfl ?_
                  refine SOps.assign rfl ?_
                  refine SOps.nil ?_
                  refine SCode.ret ?_
                  exact ⟨_, Res.two (.tmp rfl) (.tmp rfl), (by first | (rw [show costL l w p = (0, 1) from by first | exact cost_bad (costBad_0 (by first | (left; assumption) | omega)) | exact cost_bad (costBad_4 (bads_at hkl (by first | exact badLn_1 (by omega) | exact badLn_2 (by assumption) (by omega) | exact badLn_3 (by assumption))))]; rfl) | (rw [cost_tight hcb (tight_at hkl (by omega))]; rfl) | (rw [cost_ok hcb (tight_none (all_of (by omega) hg)), sumL, show l.length = k by omega]; rfl)), rfl⟩
                · try simp only [decide_eq_true_eq, decide_eq_false_iff_not, Bool.not_eq_true', Bool.not_eq_false', beq_iff_eq, bne_iff_ne, ne_eq, beq_eq_false_iff_ne, bne_eq_false_iff_eq, Int.not_lt, Int.not_le, Nat.not_lt, Nat.not_le, Int.ofNat_lt, Int.ofNat_le, Bool.not_eq_eq_eq_not, Bool.not_true, Bool.not_false] at hc10
                  refine SCode.skip ?_
                  show SCode _ _ _ _
                  refine SCode.region ?_
                  refine SOps.addI rfl rfl (by first | omega | (simp only [lenB] <;> omega)) (by first | omega | (simp only [lenB] <;> omega)) ?_
                  refine SOps.move rfl ?_
                  refine SOps.nil ?_
                  have hbl : badLn l.length k l[k] = false := badLn_of (by omega) (by first | (left; assumption) | (right; omega)) (by assumption)
                  exact ⟨k + 1, ⟨by omega, bads_step hf hkl hbl⟩, by omega, St.Le.of ⟨rfl, rfl, rfl, rfl, rfl, rfl, trivial⟩⟩
          · try simp only [decide_eq_true_eq, decide_eq_false_iff_not, Bool.not_eq_true', Bool.not_eq_false', beq_iff_eq, bne_iff_ne, ne_eq, beq_eq_false_iff_ne, bne_eq_false_iff_eq, Int.not_lt, Int.not_le, Nat.not_lt, Nat.not_le, Int.ofNat_lt, Int.ofNat_le, Bool.not_eq_eq_eq_not, Bool.not_true, Bool.not_false] at hc5
            refine SCode.exit ?_
            show SCode _ _ _ _
            refine SCode.seqR ?_
            have hwd : wideB w = true := by assumption
            have hbn := bads_none (fun j hj => hf j (by omega))
            have hpn : penB p = true := penB_iff.2 (by omega)
            have hcb := costBad_of (l := l) (w := w) (p := p) hwd hpn (by omega) hbn
            obtain ⟨hw1, hw2⟩ := wideB_iff.1 hwd
            refine SOps.assign rfl ?_
            refine SOps.nil ?_
            refine SCode.seq ?_
            refine SCode.seqR ?_
            refine SOps.move rfl ?_
            refine SOps.lenM rfl sliceB_25_48_2 ?_
            refine SOps.move rfl ?_
            refine SOps.nil ?_
            refine SCode.block ?_
            refine SCode.loop1 (fun (k : Nat) => (⟨89, [(0, DLns l), (1, .v (.int .i64 w)), (2, .v (.int .i64 p)), (10, .v (.int .i64 (sumK l w p k))), (58, DLns l), (59, .v (.int .i64 (l.length : Int))), (60, .v (.int .i64 (k : Int)))], []⟩ : St)) (fun (k : Nat) => k ≤ l.length ∧ ∀ x ∈ l.take k, ¬ freeL w x < 0) (fun (k : Nat) => l.length - k) (0) (by exact ⟨Nat.zero_le _, by simp⟩) (St.Le.of ⟨(by first | rfl | (show some _ = some _; simp)), (by first | rfl | (show some _ = some _; simp)), (by first | rfl | (show some _ = some _; simp)), (by first | rfl | (show some _ = some _; simp)), (by first | rfl | (show some _ = some _; simp)), (by first | rfl | (show some _ = some _; simp)), (by first | rfl | (show some _ = some _; simp)), trivial⟩ rfl (by first | rfl | (simp))) ?_
            rintro k ⟨hkn, hg⟩
            refine SCode.seqR ?_
            refine SOps.bin rfl rfl rfl ?_
            refine SOps.nil ?_
            refine SCode.seq ?_
            refine SCode.cond rfl (fun hc11 => ?_) (fun hc11 => ?_)
            · try simp only [decide_eq_true_eq, decide_eq_false_iff_not, Bool.not_eq_true', Bool.not_eq_false', beq_iff_eq, bne_iff_ne, ne_eq, beq_eq_false_iff_ne, bne_eq_false_iff_eq, Int.not_lt, Int.not_le, Nat.not_lt, Nat.not_le, Int.ofNat_lt, Int.ofNat_le, Bool.not_eq_eq_eq_not, Bool.not_true, Bool.not_false] at hc11
              refine SCode.skip ?_
              show SCode _ _ _ _
              refine SCode.seq ?_
              refine SCode.block ?_
              refine SCode.seqR ?_
              refine SOps.move rfl ?_
              refine SOps.indexM (k) rfl rfl sliceB_25_48_2 (by first | omega | (simp only [lenB] <;> omega)) (by first | omega | (simp only [lenB] <;> omega)) ?_
              refine SOps.loadPinA rfl aggB_48_2 (Nat.le_of_ble_eq_true rfl) ?_
              refine SOps.alloc (sz := 2) zeroIs_48 (fun b1 hb_1 => ?_)
              refine SOps.assign rfl ?_
              refine SOps.storeAM 0 rfl rfl aggB_48_2 rfl ?_
              refine SOps.freezeRef (t := 12) 0 0 rfl rfl rfl rfl rfl ?_
              refine SOps.nil ?_
              refine SCode.seqR ?_
              have hkl : k < l.length := by omega
              have hkk := hk _ (List.getElem_mem hkl)
              have hfb := freeL_bound hkk (by omega) (show w ≤ 1000 by omega)
              have hsq := sq_bound hfb.1 hfb.2
              have hsb := sumK_bound hk (show 0 ≤ w by omega) (show w ≤ 1000 by omega) (show 0 ≤ p by omega) (by omega) k (by omega)
              have hat := lnAt_lt hkl
              have hsz := hkk.size
              have hsk : sumK l w p (k + 1) = sumK l w p k + costAt l w p k := rfl
              unfold costAt at hsk
              rw [hat] at hsk
              refine SOps.move rfl ?_
              refine SOps.loadPinA rfl aggB_48_2 (Nat.le_of_ble_eq_true rfl) ?_
              refine SOps.callP (sText _ hkk.words.1 hkk.words.2) rfl ?_
              rintro _ rfl
              refine SOps.callP (uRuneCount _) rfl ?_
              rintro _ rfl
              refine SOps.subI rfl rfl (by first | omega | (simp only [lenB] <;> omega)) (by first | omega | (simp only [lenB] <;> omega)) ?_
              refine SOps.reSlot (t := 69) rfl (show _ = DV.v (.int .i64 (freeL w (l[k]))) from rfl) ?_
              refine SOps.assign rfl ?_
              refine SOps.nil ?_
              refine SCode.seq ?_
              refine SCode.seqR ?_
              refine SOps.move rfl ?_
              refine SOps.bin rfl rfl rfl ?_
              refine SOps.nil ?_
              refine SCode.cond rfl (fun hc12 => ?_) (fun hc12 => ?_)
              · try simp only [decide_eq_true_eq, decide_eq_false_iff_not, Bool.not_eq_true', Bool.not_eq_false', beq_iff_eq, bne_iff_ne, ne_eq, beq_eq_false_iff_ne, bne_eq_false_iff_eq, Int.not_lt, Int.not_le, Nat.not_lt, Nat.not_le, Int.ofNat_lt, Int.ofNat_le, Bool.not_eq_eq_eq_not, Bool.not_true, Bool.not_false] at hc12
                refine SCode.seqR ?_
                refine SOps.assign rfl ?_
                refine SOps.assign rfl ?_
                refine SOps.nil ?_
                refine SCode.ret ?_
                exact ⟨_, Res.two (.tmp rfl) (.tmp rfl), (by first | (rw [show costL l w p = (0, 1) from by first | exact cost_bad (costBad_0 (by first | (left; assumption) | omega)) | exact cost_bad (costBad_4 (bads_at hkl (by first | exact badLn_1 (by omega) | exact badLn_2 (by assumption) (by omega) | exact badLn_3 (by assumption))))]; rfl) | (rw [cost_tight hcb (tight_at hkl (by omega))]; rfl) | (rw [cost_ok hcb (tight_none (all_of (by omega) hg)), sumL, show l.length = k by omega]; rfl)), rfl⟩
              · try simp only [decide_eq_true_eq, decide_eq_false_iff_not, Bool.not_eq_true', Bool.not_eq_false', beq_iff_eq, bne_iff_ne, ne_eq, beq_eq_false_iff_ne, bne_eq_false_iff_eq, Int.not_lt, Int.not_le, Nat.not_lt, Nat.not_le, Int.ofNat_lt, Int.ofNat_le, Bool.not_eq_eq_eq_not, Bool.not_true, Bool.not_false] at hc12
                refine SCode.skip ?_
                show SCode _ _ _ _
                refine SCode.seq ?_
                refine SCode.seqR ?_
                refine SOps.move rfl ?_
                refine SOps.move rfl ?_
                refine SOps.lenM rfl sliceB_25_48_2 ?_
                refine SOps.subI rfl rfl (by first | omega | (simp only [lenB] <;> omega)) (by first | omega | (simp only [lenB] <;> omega)) ?_
                refine SOps.bin rfl rfl rfl ?_
                refine SOps.nil ?_
                refine SCode.cond rfl (fun hc13 => ?_) (fun hc13 => ?_)
                · try simp only [decide_eq_true_eq, decide_eq_false_iff_not, Bool.not_eq_true', Bool.not_eq_false', beq_iff_eq, bne_iff_ne, ne_eq, beq_eq_false_iff_ne, bne_eq_false_iff_eq, Int.not_lt, Int.not_le, Nat.not_lt, Nat.not_le, Int.ofNat_lt, Int.ofNat_le, Bool.not_eq_eq_eq_not, Bool.not_true, Bool.not_false] at hc13
                  refine SCode.region ?_
                  refine SOps.move rfl ?_
                  refine SOps.move rfl ?_
                  refine SOps.move rfl ?_
                  refine SOps.bin rfl rfl rfl ?_
                  refine SOps.reSlot (t := 80) rfl (show _ = DV.v (.int .i64 ((freeL w (l[k])) * (freeL w (l[k])))) from congrArg (fun z => DV.v (.int .i64 z)) (wrap_id (has_i64 (by omega) (by omega)))) ?_
                  refine SOps.addI rfl rfl (by first | omega | (simp only [lenB] <;> omega)) (by first | omega | (simp only [lenB] <;> omega)) ?_
                  refine SOps.assign rfl ?_
                  refine SOps.nil ?_
                  show SCode _ _ _ _
                  refine SCode.seqR ?_
                  refine SOps.fieldPin rfl fieldB_48_1_1 ?_
                  refine SOps.loadPin rfl flatB_4 ?_
                  refine SOps.nil ?_
                  refine SCode.cond rfl (fun hc14 => ?_) (fun hc14 => ?_)
                  · try simp only [decide_eq_true_eq, decide_eq_false_iff_not, Bool.not_eq_true', Bool.not_eq_false', beq_iff_eq, bne_iff_ne, ne_eq, beq_eq_false_iff_ne, bne_eq_false_iff_eq, Int.not_lt, Int.not_le, Nat.not_lt, Nat.not_le, Int.ofNat_lt, Int.ofNat_le, Bool.not_eq_eq_eq_not, Bool.not_true, Bool.not_false] at hc14
                    refine SCode.region ?_
                    refine SOps.move rfl ?_
                    refine SOps.move rfl ?_
                    refine SOps.addI rfl rfl (by first | omega | (simp only [lenB] <;> omega)) (by first | omega | (simp only [lenB] <;> omega)) ?_
                    refine SOps.assign rfl ?_
                    refine SOps.nil ?_
                    show SCode _ _ _ _
                    refine SCode.region ?_
                    refine SOps.addI rfl rfl (by first | omega | (simp only [lenB] <;> omega)) (by first | omega | (simp only [lenB] <;> omega)) ?_
                    refine SOps.move rfl ?_
                    refine SOps.nil ?_
                    first
                      | (have hst : sumK l w p (k + 1) = sumK l w p k + (freeL w (l[k])) * (freeL w (l[k])) + p := by rw [hsk, if_pos (by omega), if_pos (by assumption)]; omega); exact ⟨k + 1, ⟨by omega, take_more hg hkl (by omega)⟩, by omega, St.Le.of ⟨rfl, rfl, rfl, congrArg (fun z => some (DV.v (.int .i64 z))) hst.symm, rfl, rfl, rfl, trivial⟩⟩
                      | (have hst : sumK l w p (k + 1) = sumK l w p k + (freeL w (l[k])) * (freeL w (l[k])) := by rw [hsk, if_pos (by omega), if_neg (by simp_all)]; omega); exact ⟨k + 1, ⟨by omega, take_more hg hkl (by omega)⟩, by omega, St.Le.of ⟨rfl, rfl, rfl, congrArg (fun z => some (DV.v (.int .i64 z))) hst.symm, rfl, rfl, rfl, trivial⟩⟩
                      | (have hst : sumK l w p (k + 1) = sumK l w p k + p := by rw [hsk, if_neg (by omega), if_pos (by assumption)]; omega); exact ⟨k + 1, ⟨by omega, take_more hg hkl (by omega)⟩, by omega, St.Le.of ⟨rfl, rfl, rfl, congrArg (fun z => some (DV.v (.int .i64 z))) hst.symm, rfl, rfl, rfl, trivial⟩⟩
                      | (have hst : sumK l w p (k + 1) = sumK l w p k := by rw [hsk, if_neg (by omega), if_neg (by simp_all)]; omega); exact ⟨k + 1, ⟨by omega, take_more hg hkl (by omega)⟩, by omega, St.Le.of ⟨rfl, rfl, rfl, congrArg (fun z => some (DV.v (.int .i64 z))) hst.symm, rfl, rfl, rfl, trivial⟩⟩
                  · try simp only [decide_eq_true_eq, decide_eq_false_iff_not, Bool.not_eq_true', Bool.not_eq_false', beq_iff_eq, bne_iff_ne, ne_eq, beq_eq_false_iff_ne, bne_eq_false_iff_eq, Int.not_lt, Int.not_le, Nat.not_lt, Nat.not_le, Int.ofNat_lt, Int.ofNat_le, Bool.not_eq_eq_eq_not, Bool.not_true, Bool.not_false] at hc14
                    refine SCode.skip ?_
                    show SCode _ _ _ _
                    refine SCode.region ?_
                    refine SOps.addI rfl rfl (by first | omega | (simp only [lenB] <;> omega)) (by first | omega | (simp only [lenB] <;> omega)) ?_
                    refine SOps.move rfl ?_
                    refine SOps.nil ?_
                    first
                      | (have hst : sumK l w p (k + 1) = sumK l w p k + (freeL w (l[k])) * (freeL w (l[k])) + p := by rw [hsk, if_pos (by omega), if_pos (by assumption)]; omega); exact ⟨k + 1, ⟨by omega, take_more hg hkl (by omega)⟩, by omega, St.Le.of ⟨rfl, rfl, rfl, congrArg (fun z => some (DV.v (.int .i64 z))) hst.symm, rfl, rfl, rfl, trivial⟩⟩
                      | (have hst : sumK l w p (k + 1) = sumK l w p k + (freeL w (l[k])) * (freeL w (l[k])) := by rw [hsk, if_pos (by omega), if_neg (by simp_all)]; omega); exact ⟨k + 1, ⟨by omega, take_more hg hkl (by omega)⟩, by omega, St.Le.of ⟨rfl, rfl, rfl, congrArg (fun z => some (DV.v (.int .i64 z))) hst.symm, rfl, rfl, rfl, trivial⟩⟩
                      | (have hst : sumK l w p (k + 1) = sumK l w p k + p := by rw [hsk, if_neg (by omega), if_pos (by assumption)]; omega); exact ⟨k + 1, ⟨by omega, take_more hg hkl (by omega)⟩, by omega, St.Le.of ⟨rfl, rfl, rfl, congrArg (fun z => some (DV.v (.int .i64 z))) hst.symm, rfl, rfl, rfl, trivial⟩⟩
                      | (have hst : sumK l w p (k + 1) = sumK l w p k := by rw [hsk, if_neg (by omega), if_neg (by simp_all)]; omega); exact ⟨k + 1, ⟨by omega, take_more hg hkl (by omega)⟩, by omega, St.Le.of ⟨rfl, rfl, rfl, congrArg (fun z => some (DV.v (.int .i64 z))) hst.symm, rfl, rfl, rfl, trivial⟩⟩
                · try simp only [decide_eq_true_eq, decide_eq_false_iff_not, Bool.not_eq_true', Bool.not_eq_false', beq_iff_eq, bne_iff_ne, ne_eq, beq_eq_false_iff_ne, bne_eq_false_iff_eq, Int.not_lt, Int.not_le, Nat.not_lt, Nat.not_le, Int.ofNat_lt, Int.ofNat_le, Bool.not_eq_eq_eq_not, Bool.not_true, Bool.not_false] at hc13
                  refine SCode.skip ?_
                  show SCode _ _ _ _
                  refine SCode.seqR ?_
                  refine SOps.fieldPin rfl fieldB_48_1_1 ?_
                  refine SOps.loadPin rfl flatB_4 ?_
                  refine SOps.nil ?_
                  refine SCode.cond rfl (fun hc15 => ?_) (fun hc15 => ?_)
                  · try simp only [decide_eq_true_eq, decide_eq_false_iff_not, Bool.not_eq_true', Bool.not_eq_false', beq_iff_eq, bne_iff_ne, ne_eq, beq_eq_false_iff_ne, bne_eq_false_iff_eq, Int.not_lt, Int.not_le, Nat.not_lt, Nat.not_le, Int.ofNat_lt, Int.ofNat_le, Bool.not_eq_eq_eq_not, Bool.not_true, Bool.not_false] at hc15
                    refine SCode.region ?_
                    refine SOps.move rfl ?_
                    refine SOps.move rfl ?_
                    refine SOps.addI rfl rfl (by first | omega | (simp only [lenB] <;> omega)) (by first | omega | (simp only [lenB] <;> omega)) ?_
                    refine SOps.assign rfl ?_
                    refine SOps.nil ?_
                    show SCode _ _ _ _
                    refine SCode.region ?_
                    refine SOps.addI rfl rfl (by first | omega | (simp only [lenB] <;> omega)) (by first | omega | (simp only [lenB] <;> omega)) ?_
                    refine SOps.move rfl ?_
                    refine SOps.nil ?_
                    first
                      | (have hst : sumK l w p (k + 1) = sumK l w p k + (freeL w (l[k])) * (freeL w (l[k])) + p := by rw [hsk, if_pos (by omega), if_pos (by assumption)]; omega); exact ⟨k + 1, ⟨by omega, take_more hg hkl (by omega)⟩, by omega, St.Le.of ⟨rfl, rfl, rfl, congrArg (fun z => some (DV.v (.int .i64 z))) hst.symm, rfl, rfl, rfl, trivial⟩⟩
                      | (have hst : sumK l w p (k + 1) = sumK l w p k + (freeL w (l[k])) * (freeL w (l[k])) := by rw [hsk, if_pos (by omega), if_neg (by simp_all)]; omega); exact ⟨k + 1, ⟨by omega, take_more hg hkl (by omega)⟩, by omega, St.Le.of ⟨rfl, rfl, rfl, congrArg (fun z => some (DV.v (.int .i64 z))) hst.symm, rfl, rfl, rfl, trivial⟩⟩
                      | (have hst : sumK l w p (k + 1) = sumK l w p k + p := by rw [hsk, if_neg (by omega), if_pos (by assumption)]; omega); exact ⟨k + 1, ⟨by omega, take_more hg hkl (by omega)⟩, by omega, St.Le.of ⟨rfl, rfl, rfl, congrArg (fun z => some (DV.v (.int .i64 z))) hst.symm, rfl, rfl, rfl, trivial⟩⟩
                      | (have hst : sumK l w p (k + 1) = sumK l w p k := by rw [hsk, if_neg (by omega), if_neg (by simp_all)]; omega); exact ⟨k + 1, ⟨by omega, take_more hg hkl (by omega)⟩, by omega, St.Le.of ⟨rfl, rfl, rfl, congrArg (fun z => some (DV.v (.int .i64 z))) hst.symm, rfl, rfl, rfl, trivial⟩⟩
                  · try simp only [decide_eq_true_eq, decide_eq_false_iff_not, Bool.not_eq_true', Bool.not_eq_false', beq_iff_eq, bne_iff_ne, ne_eq, beq_eq_false_iff_ne, bne_eq_false_iff_eq, Int.not_lt, Int.not_le, Nat.not_lt, Nat.not_le, Int.ofNat_lt, Int.ofNat_le, Bool.not_eq_eq_eq_not, Bool.not_true, Bool.not_false] at hc15
                    refine SCode.skip ?_
                    show SCode _ _ _ _
                    refine SCode.region ?_
                    refine SOps.addI rfl rfl (by first | omega | (simp only [lenB] <;> omega)) (by first | omega | (simp only [lenB] <;> omega)) ?_
                    refine SOps.move rfl ?_
                    refine SOps.nil ?_
                    first
                      | (have hst : sumK l w p (k + 1) = sumK l w p k + (freeL w (l[k])) * (freeL w (l[k])) + p := by rw [hsk, if_pos (by omega), if_pos (by assumption)]; omega); exact ⟨k + 1, ⟨by omega, take_more hg hkl (by omega)⟩, by omega, St.Le.of ⟨rfl, rfl, rfl, congrArg (fun z => some (DV.v (.int .i64 z))) hst.symm, rfl, rfl, rfl, trivial⟩⟩
                      | (have hst : sumK l w p (k + 1) = sumK l w p k + (freeL w (l[k])) * (freeL w (l[k])) := by rw [hsk, if_pos (by omega), if_neg (by simp_all)]; omega); exact ⟨k + 1, ⟨by omega, take_more hg hkl (by omega)⟩, by omega, St.Le.of ⟨rfl, rfl, rfl, congrArg (fun z => some (DV.v (.int .i64 z))) hst.symm, rfl, rfl, rfl, trivial⟩⟩
                      | (have hst : sumK l w p (k + 1) = sumK l w p k + p := by rw [hsk, if_neg (by omega), if_pos (by assumption)]; omega); exact ⟨k + 1, ⟨by omega, take_more hg hkl (by omega)⟩, by omega, St.Le.of ⟨rfl, rfl, rfl, congrArg (fun z => some (DV.v (.int .i64 z))) hst.symm, rfl, rfl, rfl, trivial⟩⟩
                      | (have hst : sumK l w p (k + 1) = sumK l w p k := by rw [hsk, if_neg (by omega), if_neg (by simp_all)]; omega); exact ⟨k + 1, ⟨by omega, take_more hg hkl (by omega)⟩, by omega, St.Le.of ⟨rfl, rfl, rfl, congrArg (fun z => some (DV.v (.int .i64 z))) hst.symm, rfl, rfl, rfl, trivial⟩⟩
            · try simp only [decide_eq_true_eq, decide_eq_false_iff_not, Bool.not_eq_true', Bool.not_eq_false', beq_iff_eq, bne_iff_ne, ne_eq, beq_eq_false_iff_ne, bne_eq_false_iff_eq, Int.not_lt, Int.not_le, Nat.not_lt, Nat.not_le, Int.ofNat_lt, Int.ofNat_le, Bool.not_eq_eq_eq_not, Bool.not_true, Bool.not_false] at hc11
              refine SCode.exit ?_
              show SCode _ _ _ _
              refine SCode.seqR ?_
              refine SOps.move rfl ?_
              refine SOps.assign rfl ?_
              refine SOps.assign rfl ?_
              refine SOps.nil ?_
              refine SCode.ret ?_
              exact ⟨_, Res.two (.tmp rfl) (.tmp rfl), (by first | (rw [show costL l w p = (0, 1) from by first | exact cost_bad (costBad_0 (by first | (left; assumption) | omega)) | exact cost_bad (costBad_4 (bads_at hkl (by first | exact badLn_1 (by omega) | exact badLn_2 (by assumption) (by omega) | exact badLn_3 (by assumption))))]; rfl) | (rw [cost_tight hcb (tight_at hkl (by omega))]; rfl) | (rw [cost_ok hcb (tight_none (all_of (by omega) hg)), sumL, show l.length = k by omega]; rfl)), rfl⟩
end Go.GH
namespace Go.GH
open Go Go.Proofs
variable {E : Env}
theorem qCost (l : List Ln) (w p : Int) (hk : ∀ x ∈ l, LnOK x) : GCall Tryd.prog E 35 [DLns l, .v (.int .i64 w), .v (.int .i64 p)] [] (fun d H => d = tupC (costL l w p) ∧ H = []) := by
  refine GCall.body (C := ⟨Tryd.prog, E, true⟩) Tryd.func35 rfl (fun _ => rfl) (by kernel_rfl) rfl ?_
  refine SCode.seqR ?_
  refine SOps.assign rfl ?_
  refine SOps.assign rfl ?_
  refine SOps.nil ?_
  refine SCode.seq ?_
  refine SCode.seqR ?_
  refine SOps.move rfl ?_
  refine SOps.callP (qWidth _) rfl ?_
  rintro _ rfl
  refine SOps.un rfl rfl ?_
  refine SOps.move rfl ?_
  refine SOps.caseB 17 rfl (fun hb1 => ?_) (fun hb1 => ?_)
  · try simp only [decide_eq_true_eq, decide_eq_false_iff_not, Bool.not_eq_true', Bool.not_eq_false', beq_iff_eq, bne_iff_ne, ne_eq, beq_eq_false_iff_ne, bne_eq_false_iff_eq, Int.not_lt, Int.not_le, Nat.not_lt, Nat.not_le, Int.ofNat_lt, Int.ofNat_le, Bool.not_eq_eq_eq_not, Bool.not_true, Bool.not_false] at hb1
    refine SOps.skip rfl ?_
    refine SOps.skip rfl ?_
    refine SOps.skip rfl ?_
    refine SOps.pick rfl rfl ?_
    refine SOps.move rfl ?_
    refine SOps.skip rfl ?_
    refine SOps.skip rfl ?_
    refine SOps.skip rfl ?_
    refine SOps.pick rfl rfl ?_
    refine SOps.nil ?_
    refine SCode.cond rfl (fun _ => ?_) (fun h => by cases h)
    refine SCode.seqR ?_
    refine SOps.assign rfl ?_
    refine SOps.assign rfl ?_
    refine SOps.nil ?_
    refine SCode.ret ?_
    exact ⟨_, Res.two (.tmp rfl) (.tmp rfl), (by first | (rw [cost_tight hcb (tight_at hkl (by omega))]; rfl) | (rw [cost_ok hcb (tight_none (all_of (by omega) hg))]; rfl) | (rw [show costL l w p = (0, 1) from by first | exact cost_bad (costBad_4 (bads_at hkl (by first | exact badLn_1 (by omega) | exact badLn_2 (by assumption) (by omega) | exact badLn_3 (List.any_eq_true.2 ⟨_, List.getElem_mem hil, by simp_all⟩)))) | exact cost_bad (costBad_0 (by first | (left; assumption) | omega)) | exact cost_bad (by unfold costBad; simp_all)]; rfl)), rfl⟩
  · try simp only [decide_eq_true_eq, decide_eq_false_iff_not, Bool.not_eq_true', Bool.not_eq_false', beq_iff_eq, bne_iff_ne, ne_eq, beq_eq_false_iff_ne, bne_eq_false_iff_eq, Int.not_lt, Int.not_le, Nat.not_lt, Nat.not_le, Int.ofNat_lt, Int.ofNat_le, Bool.not_eq_eq_eq_not, Bool.not_true, Bool.not_false] at hb1
    refine SOps.move rfl ?_
    refine SOps.callP (qPenalty _) rfl ?_
    rintro _ rfl
    refine SOps.un rfl rfl ?_
    refine SOps.pick rfl rfl ?_
    refine SOps.move rfl ?_
    refine SOps.caseB 22 rfl (fun hb2 => ?_) (fun hb2 => ?_)
    · try simp only [decide_eq_true_eq, decide_eq_false_iff_not, Bool.not_eq_true', Bool.not_eq_false', beq_iff_eq, bne_iff_ne, ne_eq, beq_eq_false_iff_ne, bne_eq_false_iff_eq, Int.not_lt, Int.not_le, Nat.not_lt, Nat.not_le, Int.ofNat_lt, Int.ofNat_le, Bool.not_eq_eq_eq_not, Bool.not_true, Bool.not_false] at hb2
      refine SOps.skip rfl ?_
      refine SOps.skip rfl ?_
      refine SOps.skip rfl ?_
      refine SOps.pick rfl rfl ?_
      refine SOps.nil ?_
      refine SCode.cond rfl (fun _ => ?_) (fun h => by cases h)
      refine SCode.seqR ?_
      refine SOps.assign rfl ?_
      refine SOps.assign rfl ?_
      refine SOps.nil ?_
      refine SCode.ret ?_
      exact ⟨_, Res.two (.tmp rfl) (.tmp rfl), (by first | (rw [cost_tight hcb (tight_at hkl (by omega))]; rfl) | (rw [cost_ok hcb (tight_none (all_of (by omega) hg))]; rfl) | (rw [show costL l w p = (0, 1) from by first | exact cost_bad (costBad_4 (bads_at hkl (by first | exact badLn_1 (by omega) | exact badLn_2 (by assumption) (by omega) | exact badLn_3 (List.any_eq_true.2 ⟨_, List.getElem_mem hil, by simp_all⟩)))) | exact cost_bad (costBad_0 (by first | (left; assumption) | omega)) | exact cost_bad (by unfold costBad; simp_all)]; rfl)), rfl⟩
    · try simp only [decide_eq_true_eq, decide_eq_false_iff_not, Bool.not_eq_true', Bool.not_eq_false', beq_iff_eq, bne_iff_ne, ne_eq, beq_eq_false_iff_ne, bne_eq_false_iff_eq, Int.not_lt, Int.not_le, Nat.not_lt, Nat.not_le, Int.ofNat_lt, Int.ofNat_le, Bool.not_eq_eq_eq_not, Bool.not_true, Bool.not_false] at hb2
      refine SOps.move rfl ?_
      refine SOps.lenM rfl sliceB_25_48_2 ?_
      refine SOps.bin rfl rfl rfl ?_
      refine SOps.pick rfl rfl ?_
      refine SOps.nil ?_
      refine SCode.cond rfl (fun hc3 => ?_) (fun hc3 => ?_)
      · try simp only [decide_eq_true_eq, decide_eq_false_iff_not, Bool.not_eq_true', Bool.not_eq_false', beq_iff_eq, bne_iff_ne, ne_eq, beq_eq_false_iff_ne, bne_eq_false_iff_eq, Int.not_lt, Int.not_le, Nat.not_lt, Nat.not_le, Int.ofNat_lt, Int.ofNat_le, Bool.not_eq_eq_eq_not, Bool.not_true, Bool.not_false] at hc3
        refine SCode.seqR ?_
        refine SOps.assign rfl ?_
        refine SOps.assign rfl ?_
        refine SOps.nil ?_
        refine SCode.ret ?_
        exact ⟨_, Res.two (.tmp rfl) (.tmp rfl), (by first | (rw [cost_tight hcb (tight_at hkl (by omega))]; rfl) | (rw [cost_ok hcb (tight_none (all_of (by omega) hg))]; rfl) | (rw [show costL l w p = (0, 1) from by first | exact cost_bad (costBad_4 (bads_at hkl (by first | exact badLn_1 (by omega) | exact badLn_2 (by assumption) (by omega) | exact badLn_3 (List.any_eq_true.2 ⟨_, List.getElem_mem hil, by simp_all⟩)))) | exact cost_bad (costBad_0 (by first | (left; assumption) | omega)) | exact cost_bad (by unfold costBad; simp_all)]; rfl)), rfl⟩
      · try simp only [decide_eq_true_eq, decide_eq_false_iff_not, Bool.not_eq_true', Bool.not_eq_false', beq_iff_eq, bne_iff_ne, ne_eq, beq_eq_false_iff_ne, bne_eq_false_iff_eq, Int.not_lt, Int.not_le, Nat.not_lt, Nat.not_le, Int.ofNat_lt, Int.ofNat_le, Bool.not_eq_eq_eq_not, Bool.not_true, Bool.not_false] at hc3
        refine SCode.skip ?_
        show SCode _ _ _ _
        refine SCode.seq ?_
        refine SCode.seqR ?_
        refine SOps.move rfl ?_
        refine SOps.lenM rfl sliceB_25_48_2 ?_
        refine SOps.move rfl ?_
        refine SOps.nil ?_
        refine SCode.block ?_
        refine SCode.loop1 (fun (k : Nat) => (⟨76, [(0, DLns l), (1, .v (.int .i64 w)), (2, .v (.int .i64 p)), (27, DLns l), (28, .v (.int .i64 (l.length : Int))), (29, .v (.int .i64 (k : Int)))], []⟩ : St)) (fun (k : Nat) => k ≤ l.length ∧ ∀ j, j < k → badLn l.length j (lnAt l j) = false) (fun (k : Nat) => l.length - k) (0) (by exact ⟨Nat.zero_le _, fun j hj => absurd hj (Nat.not_lt_zero _)⟩) (St.Le.of ⟨(by first | rfl | (show some _ = some _; simp)), (by first | rfl | (show some _ = some _; simp)), (by first | rfl | (show some _ = some _; simp)), (by first | rfl | (show some _ = some _; simp)), (by first | rfl | (show some _ = some _; simp)), (by first | rfl | (show some _ = some _; simp)), trivial⟩ rfl (by first | rfl | (simp))) ?_
        rintro k ⟨hkn, hf⟩
        refine SCode.seqR ?_
        refine SOps.bin rfl rfl rfl ?_
        refine SOps.nil ?_
        refine SCode.seq ?_
        refine SCode.cond rfl (fun hc4 => ?_) (fun hc4 => ?_)
        · try simp only [decide_eq_true_eq, decide_eq_false_iff_not, Bool.not_eq_true', Bool.not_eq_false', beq_iff_eq, bne_iff_ne, ne_eq, beq_eq_false_iff_ne, bne_eq_false_iff_eq, Int.not_lt, Int.not_le, Nat.not_lt, Nat.not_le, Int.ofNat_lt, Int.ofNat_le, Bool.not_eq_eq_eq_not, Bool.not_true, Bool.not_false] at hc4
          refine SCode.skip ?_
          show SCode _ _ _ _
          refine SCode.seq ?_
          refine SCode.block ?_
          refine SCode.seqR ?_
          refine SOps.move rfl ?_
          refine SOps.indexM (k) rfl rfl sliceB_25_48_2 (by first | omega | (simp only [lenB] <;> omega)) (by first | omega | (simp only [lenB] <;> omega)) ?_
          refine SOps.loadPinA rfl aggB_48_2 (Nat.le_of_ble_eq_true rfl) ?_
          refine SOps.alloc (sz := 2) zeroIs_48 (fun b0 hb_0 => ?_)
          refine SOps.assign rfl ?_
          refine SOps.storeAM 0 rfl rfl aggB_48_2 rfl ?_
          refine SOps.freezeRef (t := 9) 0 0 rfl rfl rfl rfl rfl ?_
          refine SOps.nil ?_
          refine SCode.seq ?_
          refine SCode.seqR ?_
          have hkl : k < l.length := by omega
          have hkk := hk _ (List.getElem_mem hkl)
          refine SOps.fieldPin rfl fieldB_48_0_0 ?_
          refine SOps.loadPin rfl flatB_46 ?_
          refine SOps.lenM rfl sliceB_46_9_1 ?_
          refine SOps.bin rfl rfl rfl ?_
          refine SOps.move rfl ?_
          refine SOps.caseB 38 rfl (fun hb5 => ?_) (fun hb5 => ?_)
          · try simp only [decide_eq_true_eq, decide_eq_false_iff_not, Bool.not_eq_true', Bool.not_eq_false', beq_iff_eq, bne_iff_ne, ne_eq, beq_eq_false_iff_ne, bne_eq_false_iff_eq, Int.not_lt, Int.not_le, Nat.not_lt, Nat.not_le, Int.ofNat_lt, Int.ofNat_le, Bool.not_eq_eq_eq_not, Bool.not_true, Bool.not_false] at hb5
            refine SOps.skip rfl ?_
            refine SOps.skip rfl ?_
            refine SOps.skip rfl ?_
            refine SOps.skip rfl ?_
            refine SOps.skip rfl ?_
            refine SOps.skip rfl ?_
            refine SOps.skip rfl ?_
            refine SOps.skip rfl ?_
            refine SOps.skip rfl ?_
            refine SOps.pick rfl rfl ?_
            refine SOps.nil ?_
            refine SCode.cond rfl (fun _ => ?_) (fun h => by cases h)
            refine SCode.seqR ?_
            refine SOps.assign rfl ?_
            refine SOps.assign rfl ?_
            refine SOps.nil ?_
            refine SCode.ret ?_
            exact ⟨_, Res.two (.tmp rfl) (.tmp rfl), (by first | (rw [cost_tight hcb (tight_at hkl (by omega))]; rfl) | (rw [cost_ok hcb (tight_none (all_of (by omega) hg))]; rfl) | (rw [show costL l w p = (0, 1) from by first | exact cost_bad (costBad_4 (bads_at hkl (by first | exact badLn_1 (by omega) | exact badLn_2 (by assumption) (by omega) | exact badLn_3 (List.any_eq_true.2 ⟨_, List.getElem_mem hil, by simp_all⟩)))) | exact cost_bad (costBad_0 (by first | (left; assumption) | omega)) | exact cost_bad (by unfold costBad; simp_all)]; rfl)), rfl⟩
          · try simp only [decide_eq_true_eq, decide_eq_false_iff_not, Bool.not_eq_true', Bool.not_eq_false', beq_iff_eq, bne_iff_ne, ne_eq, beq_eq_false_iff_ne, bne_eq_false_iff_eq, Int.not_lt, Int.not_le, Nat.not_lt, Nat.not_le, Int.ofNat_lt, Int.ofNat_le, Bool.not_eq_eq_eq_not, Bool.not_true, Bool.not_false] at hb5
            refine SOps.fieldPin rfl fieldB_48_1_1 ?_
            refine SOps.loadPin rfl flatB_4 ?_
            refine SOps.move rfl ?_
            refine SOps.caseB 41 rfl (fun hb6 => ?_) (fun hb6 => ?_)
            · try simp only [decide_eq_true_eq, decide_eq_false_iff_not, Bool.not_eq_true', Bool.not_eq_false', beq_iff_eq, bne_iff_ne, ne_eq, beq_eq_false_iff_ne, bne_eq_false_iff_eq, Int.not_lt, Int.not_le, Nat.not_lt, Nat.not_le, Int.ofNat_lt, Int.ofNat_le, Bool.not_eq_eq_eq_not, Bool.not_true, Bool.not_false] at hb6
              refine SOps.move rfl ?_
              refine SOps.move rfl ?_
              refine SOps.lenM rfl sliceB_25_48_2 ?_
              refine SOps.subI rfl rfl (by first | omega | (simp only [lenB] <;> omega)) (by first | omega | (simp only [lenB] <;> omega)) ?_
              refine SOps.bin rfl rfl rfl ?_
              refine SOps.pick rfl rfl ?_
              refine SOps.pick rfl rfl ?_
              refine SOps.nil ?_
              refine SCode.cond rfl (fun hc7 => ?_) (fun hc7 => ?_)
              · try simp only [decide_eq_true_eq, decide_eq_false_iff_not, Bool.not_eq_true', Bool.not_eq_false', beq_iff_eq, bne_iff_ne, ne_eq, beq_eq_false_iff_ne, bne_eq_false_iff_eq, Int.not_lt, Int.not_le, Nat.not_lt, Nat.not_le, Int.ofNat_lt, Int.ofNat_le, Bool.not_eq_eq_eq_not, Bool.not_true, Bool.not_false] at hc7
                refine SCode.seqR ?_
                refine SOps.assign rfl ?_
                refine SOps.assign rfl ?_
                refine SOps.nil ?_
                refine SCode.ret ?_
                exact ⟨_, Res.two (.tmp rfl) (.tmp rfl), (by first | (rw [cost_tight hcb (tight_at hkl (by omega))]; rfl) | (rw [cost_ok hcb (tight_none (all_of (by omega) hg))]; rfl) | (rw [show costL l w p = (0, 1) from by first | exact cost_bad (costBad_4 (bads_at hkl (by first | exact badLn_1 (by omega) | exact badLn_2 (by assumption) (by omega) | exact badLn_3 (List.any_eq_true.2 ⟨_, List.getElem_mem hil, by simp_all⟩)))) | exact cost_bad (costBad_0 (by first | (left; assumption) | omega)) | exact cost_bad (by unfold costBad; simp_all)]; rfl)), rfl⟩
              · try simp only [decide_eq_true_eq, decide_eq_false_iff_not, Bool.not_eq_true', Bool.not_eq_false', beq_iff_eq, bne_iff_ne, ne_eq, beq_eq_false_iff_ne, bne_eq_false_iff_eq, Int.not_lt, Int.not_le, Nat.not_lt, Nat.not_le, Int.ofNat_lt, Int.ofNat_le, Bool.not_eq_eq_eq_not, Bool.not_true, Bool.not_false] at hc7
                refine SCode.skip ?_
                show SCode _ _ _ _
                refine SCode.seqR ?_
                refine SOps.fieldPin rfl fieldB_48_0_0 ?_
                refine SOps.loadPin rfl flatB_46 ?_
                refine SOps.lenM rfl sliceB_46_9_1 ?_
                refine SOps.move rfl ?_
                refine SOps.nil ?_
                refine SCode.block ?_
                refine SCode.loop1 (fun (i : Nat) => (⟨76, [(0, DLns l), (1, .v (.int .i64 w)), (2, .v (.int .i64 p)), (27, DLns l), (28, .v (.int .i64 (l.length : Int))), (29, .v (.int .i64 (k : Int))), (50, DStrs (l[k]).words), (51, .v (.int .i64 ((l[k]).words.length : Int))), (52, .v (.int .i64 (i : Int)))], []⟩ : St)) (fun (i : Nat) => i ≤ (l[k]).words.length ∧ ∀ x ∈ (l[k]).words.take i, wordB x = true) (fun (i : Nat) => (l[k]).words.length - i) (0) (by exact ⟨Nat.zero_le _, by simp⟩) (St.Le.of ⟨(by first | rfl | (show some _ = some _; simp)), (by first | rfl | (show some _ = some _; simp)), (by first | rfl | (show some _ = some _; simp)), (by first | rfl | (show some _ = some _; simp)), (by first | rfl | (show some _ = some _; simp)), (by first | rfl | (show some _ = some _; simp)), (by first | rfl | (show some _ = some _; simp)), (by first | rfl | (show some _ = some _; simp)), (by first | rfl | (show some _ = some _; simp)), trivial⟩ rfl (by first | rfl | (simp))) ?_
                rintro i ⟨hi, hw⟩
                have hwl1 : (l[k]).words.length ≤ 1000 := hkk.1
                refine SCode.seqR ?_
                refine SOps.bin rfl rfl rfl ?_
                refine SOps.nil ?_
                refine SCode.seq ?_
                refine SCode.cond rfl (fun hc8 => ?_) (fun hc8 => ?_)
                · try simp only [decide_eq_true_eq, decide_eq_false_iff_not, Bool.not_eq_true', Bool.not_eq_false', beq_iff_eq, bne_iff_ne, ne_eq, beq_eq_false_iff_ne, bne_eq_false_iff_eq, Int.not_lt, Int.not_le, Nat.not_lt, Nat.not_le, Int.ofNat_lt, Int.ofNat_le, Bool.not_eq_eq_eq_not, Bool.not_true, Bool.not_false] at hc8
                  refine SCode.skip ?_
                  show SCode _ _ _ _
                  refine SCode.seq ?_
                  refine SCode.block ?_
                  refine SCode.seqR ?_
                  refine SOps.indexM (i) rfl rfl sliceB_46_9_1 (by first | omega | (simp only [lenB] <;> omega)) (by first | omega | (simp only [lenB] <;> omega)) ?_
                  refine SOps.loadPin rfl flatB_9 ?_
                  refine SOps.assign rfl ?_
                  refine SOps.nil ?_
                  refine SCode.seqR ?_
                  have hil : i < (l[k]).words.length := by omega
                  refine SOps.move rfl ?_
                  refine SOps.callP (qWordR _ (hkk.words.1 _ (List.getElem_mem hil))) rfl ?_
                  rintro _ rfl
                  refine SOps.un rfl rfl ?_
                  refine SOps.nil ?_
                  refine SCode.cond rfl (fun hc9 => ?_) (fun hc9 => ?_)
                  · try simp only [decide_eq_true_eq, decide_eq_false_iff_not, Bool.not_eq_true', Bool.not_eq_false', beq_iff_eq, bne_iff_ne, ne_eq, beq_eq_false_iff_ne, bne_eq_false_iff_eq, Int.not_lt, Int.not_le, Nat.not_lt, Nat.not_le, Int.ofNat_lt, Int.ofNat_le, Bool.not_eq_eq_eq_not, Bool.not_true, Bool.not_false] at hc9
                    refine SCode.seqR ?_
                    refine SOps.assign rfl ?_
                    refine SOps.assign rfl ?_
                    refine SOps.nil ?_
                    refine SCode.ret ?_
                    exact ⟨_, Res.two (.tmp rfl) (.tmp rfl), (by first | (rw [cost_tight hcb (tight_at hkl (by omega))]; rfl) | (rw [cost_ok hcb (tight_none (all_of (by omega) hg))]; rfl) | (rw [show costL l w p = (0, 1) from by first | exact cost_bad (costBad_4 (bads_at hkl (by first | exact badLn_1 (by omega) | exact badLn_2 (by assumption) (by omega) | exact badLn_3 (List.any_eq_true.2 ⟨_, List.getElem_mem hil, by simp_all⟩)))) | exact cost_bad (costBad_0 (by first | (left; assumption) | omega)) | exact cost_bad (by unfold costBad; simp_all)]; rfl)), rfl⟩
                  · try simp only [decide_eq_true_eq, decide_eq_false_iff_not, Bool.not_eq_true', Bool.not_eq_false', beq_iff_eq, bne_iff_ne, ne_eq, beq_eq_false_iff_ne, bne_eq_false_iff_eq, Int.not_lt, Int.not_le, Nat.not_lt, Nat.not_le, Int.ofNat_lt, Int.ofNat_le, Bool.not_eq_eq_eq_not, Bool.not_true, Bool.not_false] at hc9
                    refine SCode.skip ?_
                    show SCode _ _ _ _
                    refine SCode.region ?_
                    refine SOps.addI rfl rfl (by first | omega | (simp only [lenB] <;> omega)) (by first | omega | (simp only [lenB] <;> omega)) ?_
                    refine SOps.move rfl ?_
                    refine SOps.nil ?_
                    exact ⟨i + 1, ⟨by omega, take_more hw hil (by assumption)⟩, by omega, St.Le.of ⟨rfl, rfl, rfl, rfl, rfl, rfl, rfl, rfl, rfl, trivial⟩⟩
                · try simp only [decide_eq_true_eq, decide_eq_false_iff_not, Bool.not_eq_true', Bool.not_eq_false', beq_iff_eq, bne_iff_ne, ne_eq, beq_eq_false_iff_ne, bne_eq_false_iff_eq, Int.not_lt, Int.not_le, Nat.not_lt, Nat.not_le, Int.ofNat_lt, Int.ofNat_le, Bool.not_eq_eq_eq_not, Bool.not_true, Bool.not_false] at hc8
                  refine SCode.exit ?_
                  show SCode _ _ _ _
                  refine SCode.region ?_
                  refine SOps.addI rfl rfl (by first | omega | (simp only [lenB] <;> omega)) (by first | omega | (simp only [lenB] <;> omega)) ?_
                  refine SOps.move rfl ?_
                  refine SOps.nil ?_
                  have hbl : badLn l.length k l[k] = false := badLn_of (by omega) (by first | (left; assumption) | (right; omega)) (List.any_eq_false.2 (fun x hx => by rw [all_of (by omega) hw x hx]; simp))
                  exact ⟨k + 1, ⟨by omega, bads_step hf hkl hbl⟩, by omega, St.Le.of ⟨rfl, rfl, rfl, rfl, rfl, rfl, trivial⟩⟩
            · try simp only [decide_eq_true_eq, decide_eq_false_iff_not, Bool.not_eq_true', Bool.not_eq_false', beq_iff_eq, bne_iff_ne, ne_eq, beq_eq_false_iff_ne, bne_eq_false_iff_eq, Int.not_lt, Int.not_le, Nat.not_lt, Nat.not_le, Int.ofNat_lt, Int.ofNat_le, Bool.not_eq_eq_eq_not, Bool.not_true, Bool.not_false] at hb6
              refine SOps.skip rfl ?_
              refine SOps.skip rfl ?_
              refine SOps.skip rfl ?_
              refine SOps.skip rfl ?_
              refine SOps.skip rfl ?_
              refine SOps.pick rfl rfl ?_
              refine SOps.pick rfl rfl ?_
              refine SOps.nil ?_
              refine SCode.cond rfl (fun h => by cases h) (fun _ => ?_)
              refine SCode.skip ?_
              show SCode _ _ _ _
              refine SCode.seqR ?_
              refine SOps.fieldPin rfl fieldB_48_0_0 ?_
              refine SOps.loadPin rfl flatB_46 ?_
              refine SOps.lenM rfl sliceB_46_9_1 ?_
              refine SOps.move rfl ?_
              refine SOps.nil ?_
              refine SCode.block ?_
              refine SCode.loop1 (fun (i : Nat) => (⟨76, [(0, DLns l), (1, .v (.int .i64 w)), (2, .v (.int .i64 p)), (27, DLns l), (28, .v (.int .i64 (l.length : Int))), (29, .v (.int .i64 (k : Int))), (50, DStrs (l[k]).words), (51, .v (.int .i64 ((l[k]).words.length : Int))), (52, .v (.int .i64 (i : Int)))], []⟩ : St)) (fun (i : Nat) => i ≤ (l[k]).words.length ∧ ∀ x ∈ (l[k]).words.take i, wordB x = true) (fun (i : Nat) => (l[k]).words.length - i) (0) (by exact ⟨Nat.zero_le _, by simp⟩) (St.Le.of ⟨(by first | rfl | (show some _ = some _; simp)), (by first | rfl | (show some _ = some _; simp)), (by first | rfl | (show some _ = some _; simp)), (by first | rfl | (show some _ = some _; simp)), (by first | rfl | (show some _ = some _; simp)), (by first | rfl | (show some _ = some _; simp)), (by first | rfl | (show some _ = some _; simp)), (by first | rfl | (show some _ = some _; simp)), (by first | rfl | (show some _ = some _; simp)), trivial⟩ rfl (by first | rfl | (simp))) ?_
              rintro i ⟨hi, hw⟩
              have hwl1 : (l[k]).words.length ≤ 1000 := hkk.1
              refine SCode.seqR ?_
              refine SOps.bin rfl rfl rfl ?_
              refine SOps.nil ?_
              refine SCode.seq ?_
              refine SCode.cond rfl (fun hc10 => ?_) (fun hc10 => ?_)
              · try simp only [decide_eq_true_eq, decide_eq_false_iff_not, Bool.not_eq_true', Bool.not_eq_false', beq_iff_eq, bne_iff_ne, ne_eq, beq_eq_false_iff_ne, bne_eq_false_iff_eq, Int.not_lt, Int.not_le, Nat.not_lt, Nat.not_le, Int.ofNat_lt, Int.ofNat_le, Bool.not_eq_eq_eq_not, Bool.not_true, Bool.not_false] at hc10
                refine SCode.skip ?_
                show SCode _ _ _ _
                refine SCode.seq ?_
                refine SCode.block ?_
                refine SCode.seqR ?_
                refine SOps.indexM (i) rfl rfl sliceB_46_9_1 (by first | omega | (simp only [lenB] <;> omega)) (by first | omega | (simp only [lenB] <;> omega)) ?_
                refine SOps.loadPin rfl flatB_9 ?_
                refine SOps.assign rfl ?_
                refine SOps.nil ?_
                refine SCode.seqR ?_
                have hil : i < (l[k]).words.length := by omega
                refine SOps.move rfl ?_
                refine SOps.callP (qWordR _ (hkk.words.1 _ (List.getElem_mem hil))) rfl ?_
                rintro _ rfl
                refine SOps.un rfl rfl ?_
                refine SOps.nil ?_
                refine SCode.cond rfl (fun hc11 => ?_) (fun hc11 => ?_)
                · try simp only [decide_eq_true_eq, decide_eq_false_iff_not, Bool.not_eq_true', Bool.not_eq_false', beq_iff_eq, bne_iff_ne, ne_eq, beq_eq_false_iff_ne, bne_eq_false_iff_eq, Int.not_lt, Int.not_le, Nat.not_lt, Nat.not_le, Int.ofNat_lt, Int.ofNat_le, Bool.not_eq_eq_eq_not, Bool.not_true, Bool.not_false] at hc11
                  refine SCode.seqR ?_
                  refine SOps.assign rfl ?_
                  refine SOps.assign rfl ?_
                  refine SOps.nil ?_
                  refine SCode.ret ?_
                  exact ⟨_, Res.two (.tmp rfl) (.tmp rfl), (by first | (rw [cost_tight hcb (tight_at hkl (by omega))]; rfl) | (rw [cost_ok hcb (tight_none (all_of (by omega) hg))]; rfl) | (rw [show costL l w p = (0, 1) from by first | exact cost_bad (costBad_4 (bads_at hkl (by first | exact badLn_1 (by omega) | exact badLn_2 (by assumption) (by omega) | exact badLn_3 (List.any_eq_true.2 ⟨_, List.getElem_mem hil, by simp_all⟩)))) | exact cost_bad (costBad_0 (by first | (left; assumption) | omega)) | exact cost_bad (by unfold costBad; simp_all)]; rfl)), rfl⟩
                · try simp only [decide_eq_true_eq, decide_eq_false_iff_not, Bool.not_eq_true', Bool.not_eq_false', beq_iff_eq, bne_iff_ne, ne_eq, beq_eq_false_iff_ne, bne_eq_false_iff_eq, Int.not_lt, Int.not_le, Nat.not_lt, Nat.not_le, Int.ofNat_lt, Int.ofNat_le, Bool.not_eq_eq_eq_not, Bool.not_true, Bool.not_false] at hc11
                  refine SCode.skip ?_
                  show SCode _ _ _ _
                  refine SCode.region ?_
                  refine SOps.addI rfl rfl (by first | omega | (simp only [lenB] <;> omega)) (by first | omega | (simp only [lenB] <;> omega)) ?_
                  refine SOps.move rfl ?_
                  refine SOps.nil ?_
                  exact ⟨i + 1, ⟨by omega, take_more hw hil (by assumption)⟩, by omega, St.Le.of ⟨rfl, rfl, rfl, rfl, rfl, rfl, rfl, rfl, rfl, trivial⟩⟩
              · try simp only [decide_eq_true_eq, decide_eq_false_iff_not, Bool.not_eq_true', Bool.not_eq_false', beq_iff_eq, bne_iff_ne, ne_eq, beq_eq_false_iff_ne, bne_eq_false_iff_eq, Int.not_lt, Int.not_le, Nat.not_lt, Nat.not_le, Int.ofNat_lt, Int.ofNat_le, Bool.not_eq_eq_eq_not, Bool.not_true, Bool.not_false] at hc10
                refine SCode.exit ?_
                show SCode _ _ _ _
                refine SCode.region ?_
                refine SOps.addI rfl rfl (by first | omega | (simp only [lenB] <;> omega)) (by first | omega | (simp only [lenB] <;> omega)) ?_
                refine SOps.move rfl ?_
                refine SOps.nil ?_
                have hbl : badLn l.length k l[k] = false := badLn_of (by omega) (by first | (left; assumption) | (right; omega)) (List.any_eq_false.2 (fun x hx => by rw [all_of (by omega) hw x hx]; simp))
                exact ⟨k + 1, ⟨by omega, bads_step hf hkl hbl⟩, by omega, St.Le.of ⟨rfl, rfl, rfl, rfl, rfl, rfl, trivial⟩⟩
        · try simp only [decide_eq_true_eq, decide_eq_false_iff_not, Bool.not_eq_true', Bool.not_eq_false', beq_iff_eq, bne_iff_ne, ne_eq, beq_eq_false_iff_ne, bne_eq_false_iff_eq, Int.not_lt, Int.not_le, Nat.not_lt, Nat.not_le, Int.ofNat_lt, Int.ofNat_le, Bool.not_eq_eq_eq_not, Bool.not_true, Bool.not_false] at hc4
          refine SCode.exit ?_
          show SCode _ _ _ _
          refine SCode.seq ?_
          refine SCode.seqR ?_
          refine SOps.move rfl ?_
          refine SOps.lenM rfl sliceB_25_48_2 ?_
          refine SOps.move rfl ?_
          refine SOps.nil ?_
          refine SCode.block ?_
          have hwd : wideB w = true := by assumption
          have hbn := bads_none (fun j hj => hf j (by omega))
          have hpn : penB p = true := by assumption
          have hcb := costBad_of (l := l) (w := w) (p := p) hwd hpn (by omega) hbn
          obtain ⟨hw1, hw2⟩ := wideB_iff.1 hwd
          obtain ⟨hp1, hp2⟩ := penB_iff.1 hpn
          have hl3 : l.length ≤ 1000 := by omega
          refine SCode.loop1 (fun (k : Nat) => (⟨76, [(0, DLns l), (1, .v (.int .i64 w)), (2, .v (.int .i64 p)), (61, DLns l), (62, .v (.int .i64 (l.length : Int))), (63, .v (.int .i64 (k : Int)))], []⟩ : St)) (fun (k : Nat) => k ≤ l.length ∧ ∀ x ∈ l.take k, ¬ freeL w x < 0) (fun (k : Nat) => l.length - k) (0) (by exact ⟨Nat.zero_le _, by simp⟩) (St.Le.of ⟨(by first | rfl | (show some _ = some _; simp)), (by first | rfl | (show some _ = some _; simp)), (by first | rfl | (show some _ = some _; simp)), (by first | rfl | (show some _ = some _; simp)), (by first | rfl | (show some _ = some _; simp)), (by first | rfl | (show some _ = some _; simp)), trivial⟩ rfl (by first | rfl | (simp))) ?_
          rintro k ⟨hkn, hg⟩
          refine SCode.seqR ?_
          refine SOps.bin rfl rfl rfl ?_
          refine SOps.nil ?_
          refine SCode.seq ?_
          refine SCode.cond rfl (fun hc12 => ?_) (fun hc12 => ?_)
          · try simp only [decide_eq_true_eq, decide_eq_false_iff_not, Bool.not_eq_true', Bool.not_eq_false', beq_iff_eq, bne_iff_ne, ne_eq, beq_eq_false_iff_ne, bne_eq_false_iff_eq, Int.not_lt, Int.not_le, Nat.not_lt, Nat.not_le, Int.ofNat_lt, Int.ofNat_le, Bool.not_eq_eq_eq_not, Bool.not_true, Bool.not_false] at hc12
            refine SCode.skip ?_
            show SCode _ _ _ _
            refine SCode.seq ?_
            refine SCode.block ?_
            refine SCode.seqR ?_
            refine SOps.indexM (k) rfl rfl sliceB_25_48_2 (by first | omega | (simp only [lenB] <;> omega)) (by first | omega | (simp only [lenB] <;> omega)) ?_
            refine SOps.loadPinA rfl aggB_48_2 (Nat.le_of_ble_eq_true rfl) ?_
            refine SOps.alloc (sz := 2) zeroIs_48 (fun b1 hb_1 => ?_)
            refine SOps.storeAM 0 rfl rfl aggB_48_2 rfl ?_
            refine SOps.freezeRef (t := 13) 0 0 rfl rfl rfl rfl rfl ?_
            refine SOps.nil ?_
            refine SCode.seqR ?_
            have hkl : k < l.length := by omega
            have hkk := hk _ (List.getElem_mem hkl)
            refine SOps.loadPinA rfl aggB_48_2 (Nat.le_of_ble_eq_true rfl) ?_
            refine SOps.move rfl ?_
            refine SOps.callP (qFree _ _ hkk (by omega) (by omega)) rfl ?_
            rintro _ rfl
            refine SOps.bin rfl rfl rfl ?_
            refine SOps.nil ?_
            refine SCode.cond rfl (fun hc13 => ?_) (fun hc13 => ?_)
            · try simp only [decide_eq_true_eq, decide_eq_false_iff_not, Bool.not_eq_true', Bool.not_eq_false', beq_iff_eq, bne_iff_ne, ne_eq, beq_eq_false_iff_ne, bne_eq_false_iff_eq, Int.not_lt, Int.not_le, Nat.not_lt, Nat.not_le, Int.ofNat_lt, Int.ofNat_le, Bool.not_eq_eq_eq_not, Bool.not_true, Bool.not_false] at hc13
              refine SCode.seqR ?_
              refine SOps.assign rfl ?_
              refine SOps.assign rfl ?_
              refine SOps.nil ?_
              refine SCode.ret ?_
              exact ⟨_, Res.two (.tmp rfl) (.tmp rfl), (by first | (rw [cost_tight hcb (tight_at hkl (by omega))]; rfl) | (rw [cost_ok hcb (tight_none (all_of (by omega) hg))]; rfl) | (rw [show costL l w p = (0, 1) from by first | exact cost_bad (costBad_4 (bads_at hkl (by first | exact badLn_1 (by omega) | exact badLn_2 (by assumption) (by omega) | exact badLn_3 (List.any_eq_true.2 ⟨_, List.getElem_mem hil, by simp_all⟩)))) | exact cost_bad (costBad_0 (by first | (left; assumption) | omega)) | exact cost_bad (by unfold costBad; simp_all)]; rfl)), rfl⟩
            · try simp only [decide_eq_true_eq, decide_eq_false_iff_not, Bool.not_eq_true', Bool.not_eq_false', beq_iff_eq, bne_iff_ne, ne_eq, beq_eq_false_iff_ne, bne_eq_false_iff_eq, Int.not_lt, Int.not_le, Nat.not_lt, Nat.not_le, Int.ofNat_lt, Int.ofNat_le, Bool.not_eq_eq_eq_not, Bool.not_true, Bool.not_false] at hc13
              refine SCode.skip ?_
              show SCode _ _ _ _
              refine SCode.region ?_
              refine SOps.addI rfl rfl (by first | omega | (simp only [lenB] <;> omega)) (by first | omega | (simp only [lenB] <;> omega)) ?_
              refine SOps.move rfl ?_
              refine SOps.nil ?_
              exact ⟨k + 1, ⟨by omega, take_more hg hkl (by omega)⟩, by omega, St.Le.of ⟨rfl, rfl, rfl, rfl, rfl, rfl, trivial⟩⟩
          · try simp only [decide_eq_true_eq, decide_eq_false_iff_not, Bool.not_eq_true', Bool.not_eq_false', beq_iff_eq, bne_iff_ne, ne_eq, beq_eq_false_iff_ne, bne_eq_false_iff_eq, Int.not_lt, Int.not_le, Nat.not_lt, Nat.not_le, Int.ofNat_lt, Int.ofNat_le, Bool.not_eq_eq_eq_not, Bool.not_true, Bool.not_false] at hc12
            refine SCode.exit ?_
            show SCode _ _ _ _
            refine SCode.seqR ?_
            refine SOps.move rfl ?_
            refine SOps.move rfl ?_
            refine SOps.move rfl ?_
            refine SOps.callP (qSum _ _ _ hk (by omega) (by omega) (by omega) (by omega) (by omega)) rfl ?_
            rintro _ rfl
            refine SOps.assign rfl ?_
            refine SOps.assign rfl ?_
            refine SOps.nil ?_
            refine SCode.ret ?_
            exact ⟨_, Res.two (.tmp rfl) (.tmp rfl), (by first | (rw [cost_tight hcb (tight_at hkl (by omega))]; rfl) | (rw [cost_ok hcb (tight_none (all_of (by omega) hg))]; rfl) | (rw [show costL l w p = (0, 1) from by first | exact cost_bad (costBad_4 (bads_at hkl (by first | exact badLn_1 (by omega) | exact badLn_2 (by assumption) (by omega) | exact badLn_3 (List.any_eq_true.2 ⟨_, List.getElem_mem hil, by simp_all⟩)))) | exact cost_bad (costBad_0 (by first | (left; assumption) | omega)) | exact cost_bad (by unfold costBad; simp_all)]; rfl)), rfl⟩
end Go.GH
namespace Go.GH
open Go Go.Lib
def plainB (w : ByteArray) : Bx := ⟨w, []⟩
def encK (k : Nat × Int) : List DV := [.v (.int .i64 (k.1 : Int)), .v (.int .i64 k.2)]
abbrev DKs (l : List (Nat × Int)) : DV := .isl false 2 (l.map encK)
def ptsF (l : List Bx) : List (Nat × Int) := (l.zipIdx.map (fun p => (p.2, 0) :: p.1.pts.map (fun q => (p.2, q)))).flatten
def pointsL (l : List Bx) : List (Nat × Int) := ptsF l ++ [(l.length, 0)]
theorem ptsF_take {l : List Bx} {k : Nat} (h : k < l.length) : ptsF (l.take (k + 1)) = ptsF (l.take k) ++ (k, 0) :: (l[k]).pts.map (fun q => (k, q)) := by
  unfold ptsF
  rw [List.take_add_one, List.getElem?_eq_getElem h, List.zipIdx_append, List.map_append, List.flatten_append]
  have : (l.take k).length = k := by simp; omega
  simp [this]
theorem ptsF_len (l : List Bx) : ∀ k, k ≤ l.length → (∀ b ∈ l, b.pts.length ≤ 1000) → (ptsF (l.take k)).length ≤ 1001 * k
  | 0, _, _ => by rw [List.take_zero]; exact Nat.zero_le _
  | k + 1, hk, h => by
    have ih := ptsF_len l k (by omega) h
    have hb := h _ (List.getElem_mem (show k < l.length by omega))
    rw [ptsF_take (by omega)]
    simp only [List.length_append, List.length_cons, List.length_map]
    omega
end Go.GH
