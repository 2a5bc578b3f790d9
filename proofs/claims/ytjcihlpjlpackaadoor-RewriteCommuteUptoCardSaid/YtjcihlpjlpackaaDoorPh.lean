/-
  The walk of the law on two orders. No conditions.
-/
import Derived.Test.YtjcihlpjlpackaaDoorPe
import Derived.Test.YtjcihlpjlpackaaDoorQd
set_option linter.unusedVariables false
set_option linter.unusedSimpArgs false
namespace Go.GH
open Go Go.Proofs
variable {E : Env}
theorem l7Commute (hV : VS E) (hA : AW7 E) (a : List Letter) (r t : Rule) (s : ByteArray) (hr : SmR r) (ht : SmR t) (hs : s.size ≤ 1048576) : GCall Tryd.prog E 11 [DLs a, .agg (encR r), .agg (encR t), .v (.string s)] [] (fun d H => d = .v (.bool true) ∧ H = []) := by
  refine GCall.body (C := ⟨Tryd.prog, E, true⟩) Tryd.func11 rfl (fun _ => rfl) (by kernel_rfl) rfl ?_
  refine SCode.seqR ?_
  refine SOps.boxAM rfl rfl ?_
  refine SOps.boxAM rfl rfl ?_
  refine SOps.assign rfl ?_
  refine SOps.nil ?_
  refine SCode.seq ?_
  refine SCode.seqR ?_
  refine SOps.move rfl ?_
  refine SOps.loadPinA rfl aggB_25_6 (Nat.le_of_ble_eq_true rfl) ?_
  refine SOps.move rfl ?_
  refine SOps.callP (lSmall _ _ _) rfl ?_
  rintro _ rfl
  refine SOps.un rfl rfl ?_
  refine SOps.move rfl ?_
  refine SOps.caseB 22 rfl (fun hb1 => ?_) (fun hb1 => ?_)
  · try simp only [decide_eq_true_eq, decide_eq_false_iff_not, Bool.not_eq_true', Bool.not_eq_false', beq_iff_eq, bne_iff_ne, ne_eq, beq_eq_false_iff_ne, bne_eq_false_iff_eq, Int.not_lt, Int.not_le, Nat.not_lt, Nat.not_le, Int.ofNat_lt, Int.ofNat_le, Bool.not_eq_eq_eq_not, Bool.not_true, Bool.not_false] at hb1
    refine SOps.skip rfl ?_
    refine SOps.skip rfl ?_
    refine SOps.skip rfl ?_
    refine SOps.skip rfl ?_
    refine SOps.skip rfl ?_
    refine SOps.pick rfl rfl ?_
    refine SOps.nil ?_
    refine SCode.cond rfl (fun _ => ?_) (fun h => by cases h)
    refine SCode.seqR ?_
    refine SOps.callP hA rfl ?_
    rintro _ rfl
    refine SOps.assign rfl ?_
    refine SOps.nil ?_
    refine SCode.ret ?_
    exact ⟨_, Res.one (.tmp rfl), rfl, rfl⟩
  · try simp only [decide_eq_true_eq, decide_eq_false_iff_not, Bool.not_eq_true', Bool.not_eq_false', beq_iff_eq, bne_iff_ne, ne_eq, beq_eq_false_iff_ne, bne_eq_false_iff_eq, Int.not_lt, Int.not_le, Nat.not_lt, Nat.not_le, Int.ofNat_lt, Int.ofNat_le, Bool.not_eq_eq_eq_not, Bool.not_true, Bool.not_false] at hb1
    refine SOps.move rfl ?_
    refine SOps.loadPinA rfl aggB_25_6 (Nat.le_of_ble_eq_true rfl) ?_
    refine SOps.move rfl ?_
    refine SOps.callP (lSmall _ _ _) rfl ?_
    rintro _ rfl
    refine SOps.un rfl rfl ?_
    refine SOps.pick rfl rfl ?_
    refine SOps.nil ?_
    refine SCode.cond rfl (fun hc2 => ?_) (fun hc2 => ?_)
    · try simp only [decide_eq_true_eq, decide_eq_false_iff_not, Bool.not_eq_true', Bool.not_eq_false', beq_iff_eq, bne_iff_ne, ne_eq, beq_eq_false_iff_ne, bne_eq_false_iff_eq, Int.not_lt, Int.not_le, Nat.not_lt, Nat.not_le, Int.ofNat_lt, Int.ofNat_le, Bool.not_eq_eq_eq_not, Bool.not_true, Bool.not_false] at hc2
      refine SCode.seqR ?_
      refine SOps.callP hA rfl ?_
      rintro _ rfl
      refine SOps.assign rfl ?_
      refine SOps.nil ?_
      refine SCode.ret ?_
      exact ⟨_, Res.one (.tmp rfl), rfl, rfl⟩
    · try simp only [decide_eq_true_eq, decide_eq_false_iff_not, Bool.not_eq_true', Bool.not_eq_false', beq_iff_eq, bne_iff_ne, ne_eq, beq_eq_false_iff_ne, bne_eq_false_iff_eq, Int.not_lt, Int.not_le, Nat.not_lt, Nat.not_le, Int.ofNat_lt, Int.ofNat_le, Bool.not_eq_eq_eq_not, Bool.not_true, Bool.not_false] at hc2
      refine SCode.skip ?_
      show SCode _ _ _ _
      refine SCode.seqR ?_
      refine SOps.move rfl ?_
      refine SOps.loadPinA rfl aggB_25_6 (Nat.le_of_ble_eq_true rfl) ?_
      refine SOps.loadPinA rfl aggB_25_6 (Nat.le_of_ble_eq_true rfl) ?_
      refine SOps.move rfl ?_
      refine SOps.callP (rCommute hV a r t s hr ht hs) rfl ?_
      rintro _ rfl
      refine SOps.move rfl ?_
      refine SOps.extract rfl rfl ?_
      refine SOps.extract rfl rfl ?_
      refine SOps.assign rfl ?_
      refine SOps.assign rfl ?_
      refine SOps.nil ?_
      refine SCode.seqR ?_
      refine SOps.move rfl ?_
      refine SOps.loadPinA rfl aggB_25_6 (Nat.le_of_ble_eq_true rfl) ?_
      refine SOps.loadPinA rfl aggB_25_6 (Nat.le_of_ble_eq_true rfl) ?_
      refine SOps.move rfl ?_
      refine SOps.callP (GCall.mono (rCommute hV a t r s ht hr hs) (fun d H h => ⟨h.1.trans (by rw [comm_swap a t r s]), h.2⟩)) rfl ?_
      rintro _ rfl
      refine SOps.move rfl ?_
      refine SOps.extract rfl rfl ?_
      refine SOps.extract rfl rfl ?_
      refine SOps.assign rfl ?_
      refine SOps.assign rfl ?_
      refine SOps.nil ?_
      refine SCode.seqR ?_
      refine SOps.move rfl ?_
      refine SOps.loadPinA rfl aggB_25_6 (Nat.le_of_ble_eq_true rfl) ?_
      refine SOps.loadPinA rfl aggB_25_6 (Nat.le_of_ble_eq_true rfl) ?_
      refine SOps.litF rfl sliceB_36_25_6 zeroIs_25 rfl ?_
      refine SOps.move rfl ?_
      refine SOps.callP (rCascade hV a [r, t] s (fun q hq => by simp only [List.mem_cons, List.not_mem_nil, or_false] at hq; rcases hq with rfl | rfl <;> assumption) hs) rfl ?_
      rintro _ rfl
      refine SOps.move rfl ?_
      refine SOps.extract rfl rfl ?_
      refine SOps.extract rfl rfl ?_
      refine SOps.assign rfl ?_
      refine SOps.assign rfl ?_
      refine SOps.nil ?_
      refine SCode.seqR ?_
      refine SOps.move rfl ?_
      refine SOps.loadPinA rfl aggB_25_6 (Nat.le_of_ble_eq_true rfl) ?_
      refine SOps.loadPinA rfl aggB_25_6 (Nat.le_of_ble_eq_true rfl) ?_
      refine SOps.litF rfl sliceB_36_25_6 zeroIs_25 rfl ?_
      refine SOps.move rfl ?_
      refine SOps.callP (rCascade hV a [t, r] s (fun q hq => by simp only [List.mem_cons, List.not_mem_nil, or_false] at hq; rcases hq with rfl | rfl <;> assumption) hs) rfl ?_
      rintro _ rfl
      refine SOps.move rfl ?_
      refine SOps.extract rfl rfl ?_
      refine SOps.extract rfl rfl ?_
      refine SOps.assign rfl ?_
      refine SOps.assign rfl ?_
      refine SOps.nil ?_
      refine SCode.seq ?_
      refine SCode.seqR ?_
      refine SOps.move rfl ?_
      refine SOps.move rfl ?_
      refine SOps.boolNe rfl rfl boolTy_4 ?_
      refine SOps.reSlot (t := 66) rfl (show _ = DV.v (.bool false) from congrArg (fun b => DV.v (.bool b)) (by simp)) ?_
      refine SOps.move rfl ?_
      refine SOps.move rfl ?_
      refine SOps.move rfl ?_
      refine SOps.bin rfl rfl rfl ?_
      refine SOps.reSlot (t := 70) rfl (show _ = DV.v (.bool false) from congrArg (fun b => DV.v (.bool b)) (by simp)) ?_
      refine SOps.pick rfl rfl ?_
      refine SOps.nil ?_
      refine SCode.cond rfl (fun h => by cases h) (fun _ => ?_)
      refine SCode.skip ?_
      show SCode _ _ _ _
      refine SCode.seq ?_
      refine SCode.seqR ?_
      refine SOps.move rfl ?_
      refine SOps.bin rfl rfl rfl ?_
      refine SOps.move rfl ?_
      refine SOps.caseB 74 rfl (fun hb3 => ?_) (fun hb3 => ?_)
      · try simp only [decide_eq_true_eq, decide_eq_false_iff_not, Bool.not_eq_true', Bool.not_eq_false', beq_iff_eq, bne_iff_ne, ne_eq, beq_eq_false_iff_ne, bne_eq_false_iff_eq, Int.not_lt, Int.not_le, Nat.not_lt, Nat.not_le, Int.ofNat_lt, Int.ofNat_le, Bool.not_eq_eq_eq_not, Bool.not_true, Bool.not_false] at hb3
        refine SOps.skip rfl ?_
        refine SOps.skip rfl ?_
        refine SOps.pick rfl rfl ?_
        refine SOps.nil ?_
        refine SCode.cond rfl (fun _ => ?_) (fun h => by cases h)
        refine SCode.seqR ?_
        have hce := comm_err a r t s (by simp_all)
        refine SOps.callP hA rfl ?_
        rintro _ rfl
        refine SOps.move rfl ?_
        refine SOps.move rfl ?_
        refine SOps.reSlot (t := 80) rfl (show _ = DV.v (.bool false) from congrArg (fun b => DV.v (.bool b)) (hce.1)) ?_
        refine SOps.un rfl rfl ?_
        refine SOps.pick rfl rfl ?_
        refine SOps.move rfl ?_
        refine SOps.move rfl ?_
        refine SOps.move rfl ?_
        refine SOps.bin rfl rfl rfl ?_
        refine SOps.move rfl ?_
        refine SOps.caseB 87 rfl (fun hb4 => ?_) (fun hb4 => ?_)
        · try simp only [decide_eq_true_eq, decide_eq_false_iff_not, Bool.not_eq_true', Bool.not_eq_false', beq_iff_eq, bne_iff_ne, ne_eq, beq_eq_false_iff_ne, bne_eq_false_iff_eq, Int.not_lt, Int.not_le, Nat.not_lt, Nat.not_le, Int.ofNat_lt, Int.ofNat_le, Bool.not_eq_eq_eq_not, Bool.not_true, Bool.not_false] at hb4
          refine SOps.skip rfl ?_
          refine SOps.skip rfl ?_
          refine SOps.skip rfl ?_
          refine SOps.pick rfl rfl ?_
          refine SOps.pick rfl rfl ?_
          refine SOps.move rfl ?_
          refine SOps.move rfl ?_
          refine SOps.bin rfl rfl rfl ?_
          refine SOps.reSlot (t := 95) rfl (show _ = DV.v (.bool true) from congrArg (fun b => DV.v (.bool b)) (by simp [hce.2.2])) ?_
          refine SOps.pick rfl rfl ?_
          refine SOps.assign rfl ?_
          refine SOps.nil ?_
          refine SCode.ret ?_
          exact ⟨_, Res.one (.tmp rfl), rfl, rfl⟩
        · try simp only [decide_eq_true_eq, decide_eq_false_iff_not, Bool.not_eq_true', Bool.not_eq_false', beq_iff_eq, bne_iff_ne, ne_eq, beq_eq_false_iff_ne, bne_eq_false_iff_eq, Int.not_lt, Int.not_le, Nat.not_lt, Nat.not_le, Int.ofNat_lt, Int.ofNat_le, Bool.not_eq_eq_eq_not, Bool.not_true, Bool.not_false] at hb4
          refine SOps.move rfl ?_
          refine SOps.move rfl ?_
          refine SOps.bin rfl rfl rfl ?_
          refine SOps.reSlot (t := 90) rfl (show _ = DV.v (.bool true) from congrArg (fun b => DV.v (.bool b)) (by rcases hce.2.1 with h | h; (exact absurd h (by assumption)); (rw [h]; simp))) ?_
          refine SOps.pick rfl rfl ?_
          refine SOps.pick rfl rfl ?_
          refine SOps.move rfl ?_
          refine SOps.move rfl ?_
          refine SOps.bin rfl rfl rfl ?_
          refine SOps.reSlot (t := 95) rfl (show _ = DV.v (.bool true) from congrArg (fun b => DV.v (.bool b)) (by simp [hce.2.2])) ?_
          refine SOps.pick rfl rfl ?_
          refine SOps.assign rfl ?_
          refine SOps.nil ?_
          refine SCode.ret ?_
          exact ⟨_, Res.one (.tmp rfl), rfl, rfl⟩
      · try simp only [decide_eq_true_eq, decide_eq_false_iff_not, Bool.not_eq_true', Bool.not_eq_false', beq_iff_eq, bne_iff_ne, ne_eq, beq_eq_false_iff_ne, bne_eq_false_iff_eq, Int.not_lt, Int.not_le, Nat.not_lt, Nat.not_le, Int.ofNat_lt, Int.ofNat_le, Bool.not_eq_eq_eq_not, Bool.not_true, Bool.not_false] at hb3
        refine SOps.move rfl ?_
        refine SOps.bin rfl rfl rfl ?_
        refine SOps.pick rfl rfl ?_
        refine SOps.nil ?_
        refine SCode.cond rfl (fun hc5 => ?_) (fun hc5 => ?_)
        · try simp only [decide_eq_true_eq, decide_eq_false_iff_not, Bool.not_eq_true', Bool.not_eq_false', beq_iff_eq, bne_iff_ne, ne_eq, beq_eq_false_iff_ne, bne_eq_false_iff_eq, Int.not_lt, Int.not_le, Nat.not_lt, Nat.not_le, Int.ofNat_lt, Int.ofNat_le, Bool.not_eq_eq_eq_not, Bool.not_true, Bool.not_false] at hc5
          refine SCode.seqR ?_
          have hce := comm_err a r t s (by simp_all)
          refine SOps.callP hA rfl ?_
          rintro _ rfl
          refine SOps.move rfl ?_
          refine SOps.move rfl ?_
          refine SOps.reSlot (t := 80) rfl (show _ = DV.v (.bool false) from congrArg (fun b => DV.v (.bool b)) (hce.1)) ?_
          refine SOps.un rfl rfl ?_
          refine SOps.pick rfl rfl ?_
          refine SOps.move rfl ?_
          refine SOps.move rfl ?_
          refine SOps.move rfl ?_
          refine SOps.bin rfl rfl rfl ?_
          refine SOps.move rfl ?_
          refine SOps.caseB 87 rfl (fun hb6 => ?_) (fun hb6 => ?_)
          · try simp only [decide_eq_true_eq, decide_eq_false_iff_not, Bool.not_eq_true', Bool.not_eq_false', beq_iff_eq, bne_iff_ne, ne_eq, beq_eq_false_iff_ne, bne_eq_false_iff_eq, Int.not_lt, Int.not_le, Nat.not_lt, Nat.not_le, Int.ofNat_lt, Int.ofNat_le, Bool.not_eq_eq_eq_not, Bool.not_true, Bool.not_false] at hb6
            refine SOps.skip rfl ?_
            refine SOps.skip rfl ?_
            refine SOps.skip rfl ?_
            refine SOps.pick rfl rfl ?_
            refine SOps.pick rfl rfl ?_
            refine SOps.move rfl ?_
            refine SOps.move rfl ?_
            refine SOps.bin rfl rfl rfl ?_
            refine SOps.reSlot (t := 95) rfl (show _ = DV.v (.bool true) from congrArg (fun b => DV.v (.bool b)) (by simp [hce.2.2])) ?_
            refine SOps.pick rfl rfl ?_
            refine SOps.assign rfl ?_
            refine SOps.nil ?_
            refine SCode.ret ?_
            exact ⟨_, Res.one (.tmp rfl), rfl, rfl⟩
          · try simp only [decide_eq_true_eq, decide_eq_false_iff_not, Bool.not_eq_true', Bool.not_eq_false', beq_iff_eq, bne_iff_ne, ne_eq, beq_eq_false_iff_ne, bne_eq_false_iff_eq, Int.not_lt, Int.not_le, Nat.not_lt, Nat.not_le, Int.ofNat_lt, Int.ofNat_le, Bool.not_eq_eq_eq_not, Bool.not_true, Bool.not_false] at hb6
            refine SOps.move rfl ?_
            refine SOps.move rfl ?_
            refine SOps.bin rfl rfl rfl ?_
            refine SOps.reSlot (t := 90) rfl (show _ = DV.v (.bool true) from congrArg (fun b => DV.v (.bool b)) (by rcases hce.2.1 with h | h; (exact absurd h (by assumption)); (rw [h]; simp))) ?_
            refine SOps.pick rfl rfl ?_
            refine SOps.pick rfl rfl ?_
            refine SOps.move rfl ?_
            refine SOps.move rfl ?_
            refine SOps.bin rfl rfl rfl ?_
            refine SOps.reSlot (t := 95) rfl (show _ = DV.v (.bool true) from congrArg (fun b => DV.v (.bool b)) (by simp [hce.2.2])) ?_
            refine SOps.pick rfl rfl ?_
            refine SOps.assign rfl ?_
            refine SOps.nil ?_
            refine SCode.ret ?_
            exact ⟨_, Res.one (.tmp rfl), rfl, rfl⟩
        · try simp only [decide_eq_true_eq, decide_eq_false_iff_not, Bool.not_eq_true', Bool.not_eq_false', beq_iff_eq, bne_iff_ne, ne_eq, beq_eq_false_iff_ne, bne_eq_false_iff_eq, Int.not_lt, Int.not_le, Nat.not_lt, Nat.not_le, Int.ofNat_lt, Int.ofNat_le, Bool.not_eq_eq_eq_not, Bool.not_true, Bool.not_false] at hc5
          refine SCode.skip ?_
          show SCode _ _ _ _
          refine SCode.seqR ?_
          have hcm : (commX (cascX (traceR a [r, t] s)) (cascX (traceR a [t, r] s))) = (decide ((cascX (traceR a [r, t] s)).1 = (cascX (traceR a [t, r] s)).1), 0) := by unfold commX; rw [if_neg (by simp_all), if_pos (by simp_all)]
          refine SOps.callP hA rfl ?_
          rintro _ rfl
          refine SOps.move rfl ?_
          refine SOps.move rfl ?_
          refine SOps.bin rfl rfl rfl ?_
          refine SOps.reSlot (t := 100) rfl (show _ = DV.v (.bool true) from congrArg (fun b => DV.v (.bool b)) (by rw [hcm]; rfl)) ?_
          refine SOps.pick rfl rfl ?_
          refine SOps.move rfl ?_
          refine SOps.move rfl ?_
          refine SOps.move rfl ?_
          refine SOps.move rfl ?_
          refine SOps.bin rfl rfl rfl ?_
          refine SOps.boolEq rfl rfl boolTy_4 ?_
          refine SOps.reSlot (t := 107) rfl (show _ = DV.v (.bool true) from congrArg (fun b => DV.v (.bool b)) (by rw [hcm]; simp)) ?_
          refine SOps.pick rfl rfl ?_
          refine SOps.assign rfl ?_
          refine SOps.nil ?_
          refine SCode.ret ?_
          exact ⟨_, Res.one (.tmp rfl), rfl, rfl⟩
end Go.GH
