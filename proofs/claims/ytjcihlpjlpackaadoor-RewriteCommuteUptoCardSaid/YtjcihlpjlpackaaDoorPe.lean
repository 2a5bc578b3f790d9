/-
  The walks of the laws on rules. No conditions.
-/
import Derived.Test.YtjcihlpjlpackaaDoorPd
import Derived.Test.YtjcihlpjlpackaaDoorQc
set_option linter.unusedVariables false
set_option linter.unusedSimpArgs false
namespace Go.GH
open Go Go.Proofs
variable {E : Env}
theorem applyQ_eq (a : List Letter) : applyQ a = applyR a := by funext r s; exact (apply_eq a r s).symm
theorem traceQ_eq (a : List Letter) (l : List Rule) (s : ByteArray) : traceQ a l s = traceR a l s := by unfold traceQ traceR; rw [applyQ_eq]
theorem qSites' (hV : VS E) (a : List Letter) (r : Rule) (s : ByteArray) (hs : s.size ≤ 1048576) : GCall Tryd.prog E 18 [DLs a, .agg (encR r), .v (.string s)] [] (fun d H => d = DNats (sitesR a r s) ∧ H = []) := by rw [sites_eq]; exact qSites hV a r s hs
theorem qApply' (hV : VS E) (a : List Letter) (r : Rule) (s : ByteArray) (hr : SmR r) (hs : s.size ≤ 1048576) : GCall Tryd.prog E 20 [DLs a, .agg (encR r), .v (.string s)] [] (fun d H => d = tupA (applyR a r s) ∧ H = []) := by rw [apply_eq]; exact qApply hV a r s hr hs
theorem qCascade' (hV : VS E) (a : List Letter) (l : List Rule) (s : ByteArray) (hr : ∀ r ∈ l, SmR r) (hs : s.size ≤ 1048576) : GCall Tryd.prog E 22 [DLs a, DRs l, .v (.string s)] [] (fun d H => d = tupA (cascX (traceR a l s)) ∧ H = []) := by rw [← traceQ_eq]; exact qCascade hV a l s hr hs
theorem qTrace' (hV : VS E) (a : List Letter) (l : List Rule) (s : ByteArray) (hr : ∀ r ∈ l, SmR r) (hs : s.size ≤ 1048576) : GCall Tryd.prog E 44 [DLs a, DRs l, .v (.string s)] [] (fun d H => d = tupT (traceR a l s) ∧ H = []) := by rw [← traceQ_eq]; exact qTrace hV a l s hr hs
theorem feeds_bad {a : List Letter} {r t : Rule} {s : ByteArray} (h : ¬ (validR a r = true ∧ validR a t = true ∧ consS a 40 s = true)) : feedsR a r t s = (false, 1) := by
  unfold feedsR
  by_cases ht : validR a t = true
  · have hok : ¬ okR a r s = true := fun hok => by
      simp only [okR, Bool.and_eq_true] at hok
      exact h ⟨hok.1, ht, hok.2⟩
    have hx : applyR a r s = (⟨#[]⟩, 1) := by unfold applyR resX; rw [if_neg hok]
    rw [if_pos ht, hx, if_neg (by decide)]
  · rw [if_neg ht]
theorem l7Valid (hV : VS E) (hA : AW7 E) (a : List Letter) (r : Rule) (hr : SmR r) : GCall Tryd.prog E 3 [DLs a, .agg (encR r)] [] (fun d H => d = .v (.bool true) ∧ H = []) := by
  refine GCall.body (C := ⟨Tryd.prog, E, true⟩) Tryd.func3 rfl (fun _ => rfl) (by kernel_rfl) rfl ?_
  refine SCode.seqR ?_
  refine SOps.boxAM rfl rfl ?_
  refine SOps.assign rfl ?_
  refine SOps.nil ?_
  refine SCode.seq ?_
  refine SCode.seqR ?_
  refine SOps.move rfl ?_
  refine SOps.lenM rfl sliceB_22_50_2 ?_
  refine SOps.bin rfl rfl rfl ?_
  refine SOps.move rfl ?_
  refine SOps.caseB 8 rfl (fun hb1 => ?_) (fun hb1 => ?_)
  · try simp only [decide_eq_true_eq, decide_eq_false_iff_not, Bool.not_eq_true', Bool.not_eq_false', beq_iff_eq, bne_iff_ne, ne_eq, beq_eq_false_iff_ne, bne_eq_false_iff_eq, Int.not_lt, Int.not_le, Nat.not_lt, Nat.not_le, Int.ofNat_lt, Int.ofNat_le, Bool.not_eq_eq_eq_not, Bool.not_true, Bool.not_false] at hb1
    refine SOps.skip rfl ?_
    refine SOps.skip rfl ?_
    refine SOps.skip rfl ?_
    refine SOps.skip rfl ?_
    refine SOps.pick rfl rfl ?_
    refine SOps.move rfl ?_
    refine SOps.skip rfl ?_
    refine SOps.skip rfl ?_
    refine SOps.skip rfl ?_
    refine SOps.skip rfl ?_
    refine SOps.pick rfl rfl ?_
    refine SOps.move rfl ?_
    refine SOps.skip rfl ?_
    refine SOps.skip rfl ?_
    refine SOps.skip rfl ?_
    refine SOps.skip rfl ?_
    refine SOps.pick rfl rfl ?_
    refine SOps.nil ?_
    refine SCode.cond rfl (fun _ => ?_) (fun h => by cases h)
    refine SCode.seqR ?_
    refine SOps.callP hA rfl ?_
    rintro _ rfl
    refine SOps.assign rfl ?_
    refine SOps.nil ?_
    refine SCode.ret ?_
    exact ⟨_, Res.one (.tmp rfl), rfl, rfl⟩
  · try simp only [decide_eq_true_eq, decide_eq_false_iff_not, Bool.not_eq_true', Bool.not_eq_false', beq_iff_eq, bne_iff_ne, ne_eq, beq_eq_false_iff_ne, bne_eq_false_iff_eq, Int.not_lt, Int.not_le, Nat.not_lt, Nat.not_le, Int.ofNat_lt, Int.ofNat_le, Bool.not_eq_eq_eq_not, Bool.not_true, Bool.not_false] at hb1
    refine SOps.fieldPin rfl fieldB_25_1_1 ?_
    refine SOps.loadPin rfl flatB_9 ?_
    refine SOps.lenStr rfl strB_9 ?_
    refine SOps.bin rfl rfl rfl ?_
    refine SOps.pick rfl rfl ?_
    refine SOps.move rfl ?_
    refine SOps.caseB 14 rfl (fun hb2 => ?_) (fun hb2 => ?_)
    · try simp only [decide_eq_true_eq, decide_eq_false_iff_not, Bool.not_eq_true', Bool.not_eq_false', beq_iff_eq, bne_iff_ne, ne_eq, beq_eq_false_iff_ne, bne_eq_false_iff_eq, Int.not_lt, Int.not_le, Nat.not_lt, Nat.not_le, Int.ofNat_lt, Int.ofNat_le, Bool.not_eq_eq_eq_not, Bool.not_true, Bool.not_false] at hb2
      refine SOps.skip rfl ?_
      refine SOps.skip rfl ?_
      refine SOps.skip rfl ?_
      refine SOps.skip rfl ?_
      refine SOps.pick rfl rfl ?_
      refine SOps.move rfl ?_
      refine SOps.skip rfl ?_
      refine SOps.skip rfl ?_
      refine SOps.skip rfl ?_
      refine SOps.skip rfl ?_
      refine SOps.pick rfl rfl ?_
      refine SOps.nil ?_
      refine SCode.cond rfl (fun _ => ?_) (fun h => by cases h)
      refine SCode.seqR ?_
      refine SOps.callP hA rfl ?_
      rintro _ rfl
      refine SOps.assign rfl ?_
      refine SOps.nil ?_
      refine SCode.ret ?_
      exact ⟨_, Res.one (.tmp rfl), rfl, rfl⟩
    · try simp only [decide_eq_true_eq, decide_eq_false_iff_not, Bool.not_eq_true', Bool.not_eq_false', beq_iff_eq, bne_iff_ne, ne_eq, beq_eq_false_iff_ne, bne_eq_false_iff_eq, Int.not_lt, Int.not_le, Nat.not_lt, Nat.not_le, Int.ofNat_lt, Int.ofNat_le, Bool.not_eq_eq_eq_not, Bool.not_true, Bool.not_false] at hb2
      refine SOps.fieldPin rfl fieldB_25_2_2 ?_
      refine SOps.loadPin rfl flatB_23 ?_
      refine SOps.lenM rfl sliceB_23_52_4 ?_
      refine SOps.bin rfl rfl rfl ?_
      refine SOps.pick rfl rfl ?_
      refine SOps.move rfl ?_
      refine SOps.caseB 20 rfl (fun hb3 => ?_) (fun hb3 => ?_)
      · try simp only [decide_eq_true_eq, decide_eq_false_iff_not, Bool.not_eq_true', Bool.not_eq_false', beq_iff_eq, bne_iff_ne, ne_eq, beq_eq_false_iff_ne, bne_eq_false_iff_eq, Int.not_lt, Int.not_le, Nat.not_lt, Nat.not_le, Int.ofNat_lt, Int.ofNat_le, Bool.not_eq_eq_eq_not, Bool.not_true, Bool.not_false] at hb3
        refine SOps.skip rfl ?_
        refine SOps.skip rfl ?_
        refine SOps.skip rfl ?_
        refine SOps.skip rfl ?_
        refine SOps.pick rfl rfl ?_
        refine SOps.nil ?_
        refine SCode.cond rfl (fun _ => ?_) (fun h => by cases h)
        refine SCode.seqR ?_
        refine SOps.callP hA rfl ?_
        rintro _ rfl
        refine SOps.assign rfl ?_
        refine SOps.nil ?_
        refine SCode.ret ?_
        exact ⟨_, Res.one (.tmp rfl), rfl, rfl⟩
      · try simp only [decide_eq_true_eq, decide_eq_false_iff_not, Bool.not_eq_true', Bool.not_eq_false', beq_iff_eq, bne_iff_ne, ne_eq, beq_eq_false_iff_ne, bne_eq_false_iff_eq, Int.not_lt, Int.not_le, Nat.not_lt, Nat.not_le, Int.ofNat_lt, Int.ofNat_le, Bool.not_eq_eq_eq_not, Bool.not_true, Bool.not_false] at hb3
        refine SOps.fieldPin rfl fieldB_25_3_3 ?_
        refine SOps.loadPin rfl flatB_23 ?_
        refine SOps.lenM rfl sliceB_23_52_4 ?_
        refine SOps.bin rfl rfl rfl ?_
        refine SOps.pick rfl rfl ?_
        refine SOps.nil ?_
        refine SCode.cond rfl (fun hc4 => ?_) (fun hc4 => ?_)
        · try simp only [decide_eq_true_eq, decide_eq_false_iff_not, Bool.not_eq_true', Bool.not_eq_false', beq_iff_eq, bne_iff_ne, ne_eq, beq_eq_false_iff_ne, bne_eq_false_iff_eq, Int.not_lt, Int.not_le, Nat.not_lt, Nat.not_le, Int.ofNat_lt, Int.ofNat_le, Bool.not_eq_eq_eq_not, Bool.not_true, Bool.not_false] at hc4
          refine SCode.seqR ?_
          refine SOps.callP hA rfl ?_
          rintro _ rfl
          refine SOps.assign rfl ?_
          refine SOps.nil ?_
          refine SCode.ret ?_
          exact ⟨_, Res.one (.tmp rfl), rfl, rfl⟩
        · try simp only [decide_eq_true_eq, decide_eq_false_iff_not, Bool.not_eq_true', Bool.not_eq_false', beq_iff_eq, bne_iff_ne, ne_eq, beq_eq_false_iff_ne, bne_eq_false_iff_eq, Int.not_lt, Int.not_le, Nat.not_lt, Nat.not_le, Int.ofNat_lt, Int.ofNat_le, Bool.not_eq_eq_eq_not, Bool.not_true, Bool.not_false] at hc4
          refine SCode.skip ?_
          show SCode _ _ _ _
          refine SCode.seq ?_
          refine SCode.drawPure mixed_ [(27, .v (.bool true)), (28, .v (.bool true)), (29, DLs a), (30, .agg (encR r)), (31, .v (.bool (validR a r))), (32, DLs a), (33, .agg (encR r)), (34, .v (.bool (validR a r))), (35, .v (.bool (validR a r == validR a r))), (36, .v (.bool (validR a r == validR a r))), (4, .v (.bool true))] [27, 28, 29, 30, 31, 32, 33, 34, 35, 36, 4] [[], [.inl 0], [.inl 1, .inr 0], [.inl 1, .inr 3], [.inl 1, .inl 2, .inl 3], [.inl 1, .inr 0], [.inl 1, .inr 3], [.inl 1, .inl 5, .inl 6], [.inl 1, .inl 4, .inl 7], [.inl 1, .inl 8], [.inl 9]] [[], [(27, .v (.bool true))], [(28, .v (.bool true)), (0, DLs a)], [(28, .v (.bool true)), (3, .ipin (encR r))], [(28, .v (.bool true)), (29, DLs a), (30, .agg (encR r))], [(28, .v (.bool true)), (0, DLs a)], [(28, .v (.bool true)), (3, .ipin (encR r))], [(28, .v (.bool true)), (32, DLs a), (33, .agg (encR r))], [(28, .v (.bool true)), (31, .v (.bool (validR a r))), (34, .v (.bool (validR a r)))], [(28, .v (.bool true)), (35, .v (.bool (validR a r == validR a r)))], [(36, .v (.bool (validR a r == validR a r)))]] rfl (by kernel_rfl) (by kernel_rfl) rfl ?_ ?_
          · refine OpsOk.cons (fun rest => ?_) ?_
            · refine SOps.callP hA rfl ?_
              rintro _ rfl
              exact SOps.nil (by first | rfl | simp_all)
            refine OpsOk.cons (fun rest => ?_) ?_
            · refine SOps.move rfl ?_
              exact SOps.nil (by first | rfl | simp_all)
            refine OpsOk.cons (fun rest => ?_) ?_
            · refine SOps.move rfl ?_
              exact SOps.nil (by first | rfl | simp_all)
            refine OpsOk.cons (fun rest => ?_) ?_
            · refine SOps.loadPinA rfl aggB_25_6 (Nat.le_of_ble_eq_true rfl) ?_
              exact SOps.nil (by first | rfl | simp_all)
            refine OpsOk.cons (fun rest => ?_) ?_
            · refine SOps.callP (rValid hV _ _ (by assumption)) rfl ?_
              rintro _ rfl
              exact SOps.nil (by first | rfl | simp_all)
            refine OpsOk.cons (fun rest => ?_) ?_
            · refine SOps.move rfl ?_
              exact SOps.nil (by first | rfl | simp_all)
            refine OpsOk.cons (fun rest => ?_) ?_
            · refine SOps.loadPinA rfl aggB_25_6 (Nat.le_of_ble_eq_true rfl) ?_
              exact SOps.nil (by first | rfl | simp_all)
            refine OpsOk.cons (fun rest => ?_) ?_
            · refine SOps.callP (qValid hV _ _) rfl ?_
              rintro _ rfl
              exact SOps.nil (by first | rfl | simp_all)
            refine OpsOk.cons (fun rest => ?_) ?_
            · refine SOps.boolEq rfl rfl boolTy_4 ?_
              exact SOps.nil (by first | rfl | simp_all)
            refine OpsOk.cons (fun rest => ?_) ?_
            · refine SOps.pick rfl rfl ?_
              exact SOps.nil (by first | rfl | simp_all)
            refine OpsOk.cons (fun rest => ?_) ?_
            · refine SOps.assign rfl ?_
              exact SOps.nil (by rw [beq_self_eq_true]; rfl)
            exact OpsOk.nil
          · show SCode _ _ _ _
            refine SCode.ret ?_
            exact ⟨_, Res.one (.tmp rfl), rfl, rfl⟩
theorem l7Sites (hV : VS E) (hA : AW7 E) (a : List Letter) (r : Rule) (s : ByteArray) (hr : SmR r) (hs : s.size ≤ 1048576) : GCall Tryd.prog E 4 [DLs a, .agg (encR r), .v (.string s)] [] (fun d H => d = .v (.bool true) ∧ H = []) := by
  refine GCall.body (C := ⟨Tryd.prog, E, true⟩) Tryd.func4 rfl (fun _ => rfl) (by kernel_rfl) rfl ?_
  refine SCode.seqR ?_
  refine SOps.boxAM rfl rfl ?_
  refine SOps.assign rfl ?_
  refine SOps.nil ?_
  refine SCode.seq ?_
  refine SCode.seqR ?_
  refine SOps.move rfl ?_
  refine SOps.loadPinA rfl aggB_25_6 (Nat.le_of_ble_eq_true rfl) ?_
  refine SOps.move rfl ?_
  refine SOps.callP (lSmall _ _ _) rfl ?_
  rintro _ rfl
  refine SOps.un rfl rfl ?_
  refine SOps.nil ?_
  refine SCode.cond rfl (fun hc1 => ?_) (fun hc1 => ?_)
  · try simp only [decide_eq_true_eq, decide_eq_false_iff_not, Bool.not_eq_true', Bool.not_eq_false', beq_iff_eq, bne_iff_ne, ne_eq, beq_eq_false_iff_ne, bne_eq_false_iff_eq, Int.not_lt, Int.not_le, Nat.not_lt, Nat.not_le, Int.ofNat_lt, Int.ofNat_le, Bool.not_eq_eq_eq_not, Bool.not_true, Bool.not_false] at hc1
    refine SCode.seqR ?_
    refine SOps.callP hA rfl ?_
    rintro _ rfl
    refine SOps.assign rfl ?_
    refine SOps.nil ?_
    refine SCode.ret ?_
    exact ⟨_, Res.one (.tmp rfl), rfl, rfl⟩
  · try simp only [decide_eq_true_eq, decide_eq_false_iff_not, Bool.not_eq_true', Bool.not_eq_false', beq_iff_eq, bne_iff_ne, ne_eq, beq_eq_false_iff_ne, bne_eq_false_iff_eq, Int.not_lt, Int.not_le, Nat.not_lt, Nat.not_le, Int.ofNat_lt, Int.ofNat_le, Bool.not_eq_eq_eq_not, Bool.not_true, Bool.not_false] at hc1
    refine SCode.skip ?_
    show SCode _ _ _ _
    refine SCode.seq ?_
    refine SCode.drawPure mixed_ [(13, .v (.bool true)), (14, .v (.bool true)), (15, DLs a), (16, .agg (encR r)), (17, .v (.string s)), (18, DNats (sitesR a r s)), (19, DLs a), (20, .agg (encR r)), (21, .v (.string s)), (22, DNats (sitesR a r s)), (23, .v (.bool (decide (sitesR a r s = sitesR a r s)))), (24, .v (.bool (decide (sitesR a r s = sitesR a r s)))), (6, .v (.bool true))] [13, 14, 15, 16, 17, 18, 19, 20, 21, 22, 23, 24, 6] [[], [.inl 0], [.inl 1, .inr 0], [.inl 1, .inr 4], [.inl 1, .inr 2], [.inl 1, .inl 2, .inl 3, .inl 4], [.inl 1, .inr 0], [.inl 1, .inr 4], [.inl 1, .inr 2], [.inl 1, .inl 6, .inl 7, .inl 8], [.inl 1, .inl 5, .inl 9], [.inl 1, .inl 10], [.inl 11]] [[], [(13, .v (.bool true))], [(14, .v (.bool true)), (0, DLs a)], [(14, .v (.bool true)), (4, .ipin (encR r))], [(14, .v (.bool true)), (2, .v (.string s))], [(14, .v (.bool true)), (15, DLs a), (16, .agg (encR r)), (17, .v (.string s))], [(14, .v (.bool true)), (0, DLs a)], [(14, .v (.bool true)), (4, .ipin (encR r))], [(14, .v (.bool true)), (2, .v (.string s))], [(14, .v (.bool true)), (19, DLs a), (20, .agg (encR r)), (21, .v (.string s))], [(14, .v (.bool true)), (18, DNats (sitesR a r s)), (22, DNats (sitesR a r s))], [(14, .v (.bool true)), (23, .v (.bool (decide (sitesR a r s = sitesR a r s))))], [(24, .v (.bool (decide (sitesR a r s = sitesR a r s))))]] rfl (by kernel_rfl) (by kernel_rfl) rfl ?_ ?_
    · refine OpsOk.cons (fun rest => ?_) ?_
      · refine SOps.callP hA rfl ?_
        rintro _ rfl
        exact SOps.nil (by first | rfl | simp_all)
      refine OpsOk.cons (fun rest => ?_) ?_
      · refine SOps.move rfl ?_
        exact SOps.nil (by first | rfl | simp_all)
      refine OpsOk.cons (fun rest => ?_) ?_
      · refine SOps.move rfl ?_
        exact SOps.nil (by first | rfl | simp_all)
      refine OpsOk.cons (fun rest => ?_) ?_
      · refine SOps.loadPinA rfl aggB_25_6 (Nat.le_of_ble_eq_true rfl) ?_
        exact SOps.nil (by first | rfl | simp_all)
      refine OpsOk.cons (fun rest => ?_) ?_
      · refine SOps.move rfl ?_
        exact SOps.nil (by first | rfl | simp_all)
      refine OpsOk.cons (fun rest => ?_) ?_
      · refine SOps.callP (rSites hV _ _ _ (by assumption) (by assumption)) rfl ?_
        rintro _ rfl
        exact SOps.nil (by first | rfl | simp_all)
      refine OpsOk.cons (fun rest => ?_) ?_
      · refine SOps.move rfl ?_
        exact SOps.nil (by first | rfl | simp_all)
      refine OpsOk.cons (fun rest => ?_) ?_
      · refine SOps.loadPinA rfl aggB_25_6 (Nat.le_of_ble_eq_true rfl) ?_
        exact SOps.nil (by first | rfl | simp_all)
      refine OpsOk.cons (fun rest => ?_) ?_
      · refine SOps.move rfl ?_
        exact SOps.nil (by first | rfl | simp_all)
      refine OpsOk.cons (fun rest => ?_) ?_
      · refine SOps.callP (qSites' hV _ _ _ (by assumption)) rfl ?_
        rintro _ rfl
        exact SOps.nil (by first | rfl | simp_all)
      refine OpsOk.cons (fun rest => ?_) ?_
      · refine SOps.callP (qIntsN _ _) rfl ?_
        rintro _ rfl
        exact SOps.nil (by first | rfl | simp_all)
      refine OpsOk.cons (fun rest => ?_) ?_
      · refine SOps.pick rfl rfl ?_
        exact SOps.nil (by first | rfl | simp_all)
      refine OpsOk.cons (fun rest => ?_) ?_
      · refine SOps.assign rfl ?_
        exact SOps.nil (by rw [decide_eq_true rfl]; rfl)
      exact OpsOk.nil
    · show SCode _ _ _ _
      refine SCode.ret ?_
      exact ⟨_, Res.one (.tmp rfl), rfl, rfl⟩
theorem l7Apply (hV : VS E) (hA : AW7 E) (a : List Letter) (r : Rule) (s : ByteArray) (hr : SmR r) (hs : s.size ≤ 1048576) : GCall Tryd.prog E 5 [DLs a, .agg (encR r), .v (.string s)] [] (fun d H => d = .v (.bool true) ∧ H = []) := by
  refine GCall.body (C := ⟨Tryd.prog, E, true⟩) Tryd.func5 rfl (fun _ => rfl) (by kernel_rfl) rfl ?_
  refine SCode.seqR ?_
  refine SOps.boxAM rfl rfl ?_
  refine SOps.assign rfl ?_
  refine SOps.nil ?_
  refine SCode.seq ?_
  refine SCode.seqR ?_
  refine SOps.move rfl ?_
  refine SOps.loadPinA rfl aggB_25_6 (Nat.le_of_ble_eq_true rfl) ?_
  refine SOps.move rfl ?_
  refine SOps.callP (lSmall _ _ _) rfl ?_
  rintro _ rfl
  refine SOps.un rfl rfl ?_
  refine SOps.nil ?_
  refine SCode.cond rfl (fun hc1 => ?_) (fun hc1 => ?_)
  · try simp only [decide_eq_true_eq, decide_eq_false_iff_not, Bool.not_eq_true', Bool.not_eq_false', beq_iff_eq, bne_iff_ne, ne_eq, beq_eq_false_iff_ne, bne_eq_false_iff_eq, Int.not_lt, Int.not_le, Nat.not_lt, Nat.not_le, Int.ofNat_lt, Int.ofNat_le, Bool.not_eq_eq_eq_not, Bool.not_true, Bool.not_false] at hc1
    refine SCode.seqR ?_
    refine SOps.callP hA rfl ?_
    rintro _ rfl
    refine SOps.assign rfl ?_
    refine SOps.nil ?_
    refine SCode.ret ?_
    exact ⟨_, Res.one (.tmp rfl), rfl, rfl⟩
  · try simp only [decide_eq_true_eq, decide_eq_false_iff_not, Bool.not_eq_true', Bool.not_eq_false', beq_iff_eq, bne_iff_ne, ne_eq, beq_eq_false_iff_ne, bne_eq_false_iff_eq, Int.not_lt, Int.not_le, Nat.not_lt, Nat.not_le, Int.ofNat_lt, Int.ofNat_le, Bool.not_eq_eq_eq_not, Bool.not_true, Bool.not_false] at hc1
    refine SCode.skip ?_
    show SCode _ _ _ _
    refine SCode.seqR ?_
    refine SOps.move rfl ?_
    refine SOps.loadPinA rfl aggB_25_6 (Nat.le_of_ble_eq_true rfl) ?_
    refine SOps.move rfl ?_
    refine SOps.callP (rApply hV _ _ _ (by assumption) (by assumption)) rfl ?_
    rintro _ rfl
    refine SOps.move rfl ?_
    refine SOps.extract rfl rfl ?_
    refine SOps.extract rfl rfl ?_
    refine SOps.assign rfl ?_
    refine SOps.assign rfl ?_
    refine SOps.nil ?_
    refine SCode.seqR ?_
    refine SOps.move rfl ?_
    refine SOps.loadPinA rfl aggB_25_6 (Nat.le_of_ble_eq_true rfl) ?_
    refine SOps.move rfl ?_
    refine SOps.callP (qApply' hV _ _ _ (by assumption) (by assumption)) rfl ?_
    rintro _ rfl
    refine SOps.move rfl ?_
    refine SOps.extract rfl rfl ?_
    refine SOps.extract rfl rfl ?_
    refine SOps.assign rfl ?_
    refine SOps.assign rfl ?_
    refine SOps.nil ?_
    refine SCode.seqR ?_
    refine SOps.callP hA rfl ?_
    rintro _ rfl
    refine SOps.move rfl ?_
    refine SOps.move rfl ?_
    refine SOps.move rfl ?_
    refine SOps.bin rfl rfl rfl ?_
    refine SOps.reSlot (t := 35) rfl (show _ = DV.v (.bool true) from congrArg (fun b => DV.v (.bool b)) (by simp)) ?_
    refine SOps.pick rfl rfl ?_
    refine SOps.move rfl ?_
    refine SOps.move rfl ?_
    refine SOps.move rfl ?_
    refine SOps.bin rfl rfl rfl ?_
    refine SOps.reSlot (t := 40) rfl (show _ = DV.v (.bool true) from congrArg (fun b => DV.v (.bool b)) (by simp)) ?_
    refine SOps.pick rfl rfl ?_
    refine SOps.assign rfl ?_
    refine SOps.nil ?_
    refine SCode.ret ?_
    exact ⟨_, Res.one (.tmp rfl), rfl, rfl⟩
theorem l7Cascade (hV : VS E) (hA : AW7 E) (a : List Letter) (l : List Rule) (s : ByteArray) (hr : ∀ r ∈ l, SmR r) (hs : s.size ≤ 1048576) : GCall Tryd.prog E 7 [DLs a, DRs l, .v (.string s)] [] (fun d H => d = .v (.bool true) ∧ H = []) := by
  refine GCall.body (C := ⟨Tryd.prog, E, true⟩) Tryd.func7 rfl (fun _ => rfl) (by kernel_rfl) rfl ?_
  refine SCode.seqR ?_
  refine SOps.assign rfl ?_
  refine SOps.nil ?_
  refine SCode.seq ?_
  refine SCode.seqR ?_
  refine SOps.move rfl ?_
  refine SOps.lenM rfl sliceB_36_25_6 ?_
  refine SOps.bin rfl rfl rfl ?_
  refine SOps.move rfl ?_
  refine SOps.caseB 15 rfl (fun hb1 => ?_) (fun hb1 => ?_)
  · try simp only [decide_eq_true_eq, decide_eq_false_iff_not, Bool.not_eq_true', Bool.not_eq_false', beq_iff_eq, bne_iff_ne, ne_eq, beq_eq_false_iff_ne, bne_eq_false_iff_eq, Int.not_lt, Int.not_le, Nat.not_lt, Nat.not_le, Int.ofNat_lt, Int.ofNat_le, Bool.not_eq_eq_eq_not, Bool.not_true, Bool.not_false] at hb1
    refine SOps.move rfl ?_
    refine SOps.lenM rfl sliceB_36_25_6 ?_
    refine SOps.bin rfl rfl rfl ?_
    refine SOps.pick rfl rfl ?_
    refine SOps.move rfl ?_
    refine SOps.caseB 20 rfl (fun hb2 => ?_) (fun hb2 => ?_)
    · try simp only [decide_eq_true_eq, decide_eq_false_iff_not, Bool.not_eq_true', Bool.not_eq_false', beq_iff_eq, bne_iff_ne, ne_eq, beq_eq_false_iff_ne, bne_eq_false_iff_eq, Int.not_lt, Int.not_le, Nat.not_lt, Nat.not_le, Int.ofNat_lt, Int.ofNat_le, Bool.not_eq_eq_eq_not, Bool.not_true, Bool.not_false] at hb2
      refine SOps.skip rfl ?_
      refine SOps.skip rfl ?_
      refine SOps.skip rfl ?_
      refine SOps.pick rfl rfl ?_
      refine SOps.nil ?_
      refine SCode.cond rfl (fun _ => ?_) (fun h => by cases h)
      refine SCode.seqR ?_
      refine SOps.callP hA rfl ?_
      rintro _ rfl
      refine SOps.assign rfl ?_
      refine SOps.nil ?_
      refine SCode.ret ?_
      exact ⟨_, Res.one (.tmp rfl), rfl, rfl⟩
    · try simp only [decide_eq_true_eq, decide_eq_false_iff_not, Bool.not_eq_true', Bool.not_eq_false', beq_iff_eq, bne_iff_ne, ne_eq, beq_eq_false_iff_ne, bne_eq_false_iff_eq, Int.not_lt, Int.not_le, Nat.not_lt, Nat.not_le, Int.ofNat_lt, Int.ofNat_le, Bool.not_eq_eq_eq_not, Bool.not_true, Bool.not_false] at hb2
      refine SOps.move rfl ?_
      refine SOps.lenM rfl sliceB_36_25_6 ?_
      refine SOps.bin rfl rfl rfl ?_
      refine SOps.pick rfl rfl ?_
      refine SOps.nil ?_
      refine SCode.cond rfl (fun hc3 => ?_) (fun hc3 => ?_)
      · try simp only [decide_eq_true_eq, decide_eq_false_iff_not, Bool.not_eq_true', Bool.not_eq_false', beq_iff_eq, bne_iff_ne, ne_eq, beq_eq_false_iff_ne, bne_eq_false_iff_eq, Int.not_lt, Int.not_le, Nat.not_lt, Nat.not_le, Int.ofNat_lt, Int.ofNat_le, Bool.not_eq_eq_eq_not, Bool.not_true, Bool.not_false] at hc3
        refine SCode.seqR ?_
        refine SOps.callP hA rfl ?_
        rintro _ rfl
        refine SOps.assign rfl ?_
        refine SOps.nil ?_
        refine SCode.ret ?_
        exact ⟨_, Res.one (.tmp rfl), rfl, rfl⟩
      · try simp only [decide_eq_true_eq, decide_eq_false_iff_not, Bool.not_eq_true', Bool.not_eq_false', beq_iff_eq, bne_iff_ne, ne_eq, beq_eq_false_iff_ne, bne_eq_false_iff_eq, Int.not_lt, Int.not_le, Nat.not_lt, Nat.not_le, Int.ofNat_lt, Int.ofNat_le, Bool.not_eq_eq_eq_not, Bool.not_true, Bool.not_false] at hc3
        refine SCode.skip ?_
        show SCode _ _ _ _
        refine SCode.seq ?_
        refine SCode.seqR ?_
        refine SOps.assign rfl ?_
        refine SOps.nil ?_
        refine SCode.block ?_
        refine SCode.loop1 (fun (i : Nat) => (⟨75, [(0, DLs a), (1, DRs l), (2, .v (.string s)), (7, .v (.int .i64 (i : Int)))], []⟩ : St)) (fun (i : Nat) => i ≤ l.length) (fun (i : Nat) => l.length - i) (0) (by exact Nat.zero_le _) (St.Le.of ⟨(by first | rfl | (show some _ = some _; simp)), (by first | rfl | (show some _ = some _; simp)), (by first | rfl | (show some _ = some _; simp)), (by first | rfl | (show some _ = some _; simp)), trivial⟩ rfl (by first | rfl | (simp))) ?_
        rintro i hi
        refine SCode.fact (isl_len (t := 1) rfl) (fun hB => ?_)
        simp only [List.length_map, lenB] at hB
        refine SCode.seq ?_
        refine SCode.seqR ?_
        refine SOps.move rfl ?_
        refine SOps.move rfl ?_
        refine SOps.lenM rfl sliceB_36_25_6 ?_
        refine SOps.bin rfl rfl rfl ?_
        refine SOps.nil ?_
        refine SCode.cond rfl (fun hc4 => ?_) (fun hc4 => ?_)
        · try simp only [decide_eq_true_eq, decide_eq_false_iff_not, Bool.not_eq_true', Bool.not_eq_false', beq_iff_eq, bne_iff_ne, ne_eq, beq_eq_false_iff_ne, bne_eq_false_iff_eq, Int.not_lt, Int.not_le, Nat.not_lt, Nat.not_le, Int.ofNat_lt, Int.ofNat_le, Bool.not_eq_eq_eq_not, Bool.not_true, Bool.not_false] at hc4
          refine SCode.skip ?_
          show SCode _ _ _ _
          refine SCode.seq ?_
          refine SCode.block ?_
          refine SCode.seqR ?_
          refine SOps.move rfl ?_
          refine SOps.move rfl ?_
          refine SOps.move rfl ?_
          refine SOps.indexM (i) rfl rfl sliceB_36_25_6 (by first | omega | (simp only [lenB]; omega)) (by first | omega | (simp only [lenB]; omega)) ?_
          refine SOps.loadPinA rfl aggB_25_6 (Nat.le_of_ble_eq_true rfl) ?_
          refine SOps.move rfl ?_
          refine SOps.callP (lSmall _ _ _) rfl ?_
          rintro _ rfl
          refine SOps.un rfl rfl ?_
          refine SOps.nil ?_
          refine SCode.cond rfl (fun hc5 => ?_) (fun hc5 => ?_)
          · try simp only [decide_eq_true_eq, decide_eq_false_iff_not, Bool.not_eq_true', Bool.not_eq_false', beq_iff_eq, bne_iff_ne, ne_eq, beq_eq_false_iff_ne, bne_eq_false_iff_eq, Int.not_lt, Int.not_le, Nat.not_lt, Nat.not_le, Int.ofNat_lt, Int.ofNat_le, Bool.not_eq_eq_eq_not, Bool.not_true, Bool.not_false] at hc5
            refine SCode.seqR ?_
            refine SOps.callP hA rfl ?_
            rintro _ rfl
            refine SOps.assign rfl ?_
            refine SOps.nil ?_
            refine SCode.ret ?_
            exact ⟨_, Res.one (.tmp rfl), rfl, rfl⟩
          · try simp only [decide_eq_true_eq, decide_eq_false_iff_not, Bool.not_eq_true', Bool.not_eq_false', beq_iff_eq, bne_iff_ne, ne_eq, beq_eq_false_iff_ne, bne_eq_false_iff_eq, Int.not_lt, Int.not_le, Nat.not_lt, Nat.not_le, Int.ofNat_lt, Int.ofNat_le, Bool.not_eq_eq_eq_not, Bool.not_true, Bool.not_false] at hc5
            refine SCode.skip ?_
            show SCode _ _ _ _
            refine SCode.region ?_
            refine SOps.move rfl ?_
            refine SOps.addI rfl rfl (by first | omega | (simp only [lenB]; omega)) (by first | omega | (simp only [lenB]; omega)) ?_
            refine SOps.assign rfl ?_
            refine SOps.nil ?_
            exact ⟨i + 1, by omega, by omega, (St.Le.of ⟨(by first | rfl | (show some _ = some _; simp)), (by first | rfl | (show some _ = some _; simp)), (by first | rfl | (show some _ = some _; simp)), (by first | rfl | (show some _ = some _; simp)), trivial⟩ rfl (by first | rfl | (simp)))⟩
        · try simp only [decide_eq_true_eq, decide_eq_false_iff_not, Bool.not_eq_true', Bool.not_eq_false', beq_iff_eq, bne_iff_ne, ne_eq, beq_eq_false_iff_ne, bne_eq_false_iff_eq, Int.not_lt, Int.not_le, Nat.not_lt, Nat.not_le, Int.ofNat_lt, Int.ofNat_le, Bool.not_eq_eq_eq_not, Bool.not_true, Bool.not_false] at hc4
          refine SCode.exit ?_
          show SCode _ _ _ _
          refine SCode.seq ?_
          refine SCode.seqR ?_
          refine SOps.move rfl ?_
          refine SOps.lenM rfl sliceB_22_50_2 ?_
          refine SOps.bin rfl rfl rfl ?_
          refine SOps.move rfl ?_
          refine SOps.caseB 44 rfl (fun hb6 => ?_) (fun hb6 => ?_)
          · try simp only [decide_eq_true_eq, decide_eq_false_iff_not, Bool.not_eq_true', Bool.not_eq_false', beq_iff_eq, bne_iff_ne, ne_eq, beq_eq_false_iff_ne, bne_eq_false_iff_eq, Int.not_lt, Int.not_le, Nat.not_lt, Nat.not_le, Int.ofNat_lt, Int.ofNat_le, Bool.not_eq_eq_eq_not, Bool.not_true, Bool.not_false] at hb6
            refine SOps.skip rfl ?_
            refine SOps.skip rfl ?_
            refine SOps.skip rfl ?_
            refine SOps.pick rfl rfl ?_
            refine SOps.nil ?_
            refine SCode.cond rfl (fun _ => ?_) (fun h => by cases h)
            refine SCode.seqR ?_
            refine SOps.callP hA rfl ?_
            rintro _ rfl
            refine SOps.assign rfl ?_
            refine SOps.nil ?_
            refine SCode.ret ?_
            exact ⟨_, Res.one (.tmp rfl), rfl, rfl⟩
          · try simp only [decide_eq_true_eq, decide_eq_false_iff_not, Bool.not_eq_true', Bool.not_eq_false', beq_iff_eq, bne_iff_ne, ne_eq, beq_eq_false_iff_ne, bne_eq_false_iff_eq, Int.not_lt, Int.not_le, Nat.not_lt, Nat.not_le, Int.ofNat_lt, Int.ofNat_le, Bool.not_eq_eq_eq_not, Bool.not_true, Bool.not_false] at hb6
            refine SOps.move rfl ?_
            refine SOps.lenStr rfl strB_9 ?_
            refine SOps.bin rfl rfl rfl ?_
            refine SOps.pick rfl rfl ?_
            refine SOps.nil ?_
            refine SCode.cond rfl (fun hc7 => ?_) (fun hc7 => ?_)
            · try simp only [decide_eq_true_eq, decide_eq_false_iff_not, Bool.not_eq_true', Bool.not_eq_false', beq_iff_eq, bne_iff_ne, ne_eq, beq_eq_false_iff_ne, bne_eq_false_iff_eq, Int.not_lt, Int.not_le, Nat.not_lt, Nat.not_le, Int.ofNat_lt, Int.ofNat_le, Bool.not_eq_eq_eq_not, Bool.not_true, Bool.not_false] at hc7
              refine SCode.seqR ?_
              refine SOps.callP hA rfl ?_
              rintro _ rfl
              refine SOps.assign rfl ?_
              refine SOps.nil ?_
              refine SCode.ret ?_
              exact ⟨_, Res.one (.tmp rfl), rfl, rfl⟩
            · try simp only [decide_eq_true_eq, decide_eq_false_iff_not, Bool.not_eq_true', Bool.not_eq_false', beq_iff_eq, bne_iff_ne, ne_eq, beq_eq_false_iff_ne, bne_eq_false_iff_eq, Int.not_lt, Int.not_le, Nat.not_lt, Nat.not_le, Int.ofNat_lt, Int.ofNat_le, Bool.not_eq_eq_eq_not, Bool.not_true, Bool.not_false] at hc7
              refine SCode.skip ?_
              show SCode _ _ _ _
              refine SCode.seqR ?_
              refine SOps.move rfl ?_
              refine SOps.move rfl ?_
              refine SOps.move rfl ?_
              refine SOps.callP (rCascade hV _ _ _ (by assumption) (by assumption)) rfl ?_
              rintro _ rfl
              refine SOps.move rfl ?_
              refine SOps.extract rfl rfl ?_
              refine SOps.extract rfl rfl ?_
              refine SOps.assign rfl ?_
              refine SOps.assign rfl ?_
              refine SOps.nil ?_
              refine SCode.seqR ?_
              refine SOps.move rfl ?_
              refine SOps.move rfl ?_
              refine SOps.move rfl ?_
              refine SOps.callP (qCascade' hV _ _ _ (by assumption) (by assumption)) rfl ?_
              rintro _ rfl
              refine SOps.move rfl ?_
              refine SOps.extract rfl rfl ?_
              refine SOps.extract rfl rfl ?_
              refine SOps.assign rfl ?_
              refine SOps.assign rfl ?_
              refine SOps.nil ?_
              refine SCode.seqR ?_
              refine SOps.callP hA rfl ?_
              rintro _ rfl
              refine SOps.move rfl ?_
              refine SOps.move rfl ?_
              refine SOps.move rfl ?_
              refine SOps.bin rfl rfl rfl ?_
              refine SOps.reSlot (t := 68) rfl (show _ = DV.v (.bool true) from congrArg (fun b => DV.v (.bool b)) (by simp)) ?_
              refine SOps.pick rfl rfl ?_
              refine SOps.move rfl ?_
              refine SOps.move rfl ?_
              refine SOps.move rfl ?_
              refine SOps.bin rfl rfl rfl ?_
              refine SOps.reSlot (t := 73) rfl (show _ = DV.v (.bool true) from congrArg (fun b => DV.v (.bool b)) (by simp)) ?_
              refine SOps.pick rfl rfl ?_
              refine SOps.assign rfl ?_
              refine SOps.nil ?_
              refine SCode.ret ?_
              exact ⟨_, Res.one (.tmp rfl), rfl, rfl⟩
  · try simp only [decide_eq_true_eq, decide_eq_false_iff_not, Bool.not_eq_true', Bool.not_eq_false', beq_iff_eq, bne_iff_ne, ne_eq, beq_eq_false_iff_ne, bne_eq_false_iff_eq, Int.not_lt, Int.not_le, Nat.not_lt, Nat.not_le, Int.ofNat_lt, Int.ofNat_le, Bool.not_eq_eq_eq_not, Bool.not_true, Bool.not_false] at hb1
    refine SOps.skip rfl ?_
    refine SOps.skip rfl ?_
    refine SOps.skip rfl ?_
    refine SOps.pick rfl rfl ?_
    refine SOps.move rfl ?_
    refine SOps.move rfl ?_
    refine SOps.lenM rfl sliceB_36_25_6 ?_
    refine SOps.bin rfl rfl rfl ?_
    refine SOps.pick rfl rfl ?_
    refine SOps.nil ?_
    refine SCode.cond rfl (fun hc8 => ?_) (fun hc8 => ?_)
    · try simp only [decide_eq_true_eq, decide_eq_false_iff_not, Bool.not_eq_true', Bool.not_eq_false', beq_iff_eq, bne_iff_ne, ne_eq, beq_eq_false_iff_ne, bne_eq_false_iff_eq, Int.not_lt, Int.not_le, Nat.not_lt, Nat.not_le, Int.ofNat_lt, Int.ofNat_le, Bool.not_eq_eq_eq_not, Bool.not_true, Bool.not_false] at hc8
      refine SCode.seqR ?_
      refine SOps.callP hA rfl ?_
      rintro _ rfl
      refine SOps.assign rfl ?_
      refine SOps.nil ?_
      refine SCode.ret ?_
      exact ⟨_, Res.one (.tmp rfl), rfl, rfl⟩
    · try simp only [decide_eq_true_eq, decide_eq_false_iff_not, Bool.not_eq_true', Bool.not_eq_false', beq_iff_eq, bne_iff_ne, ne_eq, beq_eq_false_iff_ne, bne_eq_false_iff_eq, Int.not_lt, Int.not_le, Nat.not_lt, Nat.not_le, Int.ofNat_lt, Int.ofNat_le, Bool.not_eq_eq_eq_not, Bool.not_true, Bool.not_false] at hc8
      refine SCode.skip ?_
      show SCode _ _ _ _
      refine SCode.seq ?_
      refine SCode.seqR ?_
      refine SOps.assign rfl ?_
      refine SOps.nil ?_
      refine SCode.block ?_
      refine SCode.loop1 (fun (i : Nat) => (⟨75, [(0, DLs a), (1, DRs l), (2, .v (.string s)), (7, .v (.int .i64 (i : Int)))], []⟩ : St)) (fun (i : Nat) => i ≤ l.length) (fun (i : Nat) => l.length - i) (0) (by exact Nat.zero_le _) (St.Le.of ⟨(by first | rfl | (show some _ = some _; simp)), (by first | rfl | (show some _ = some _; simp)), (by first | rfl | (show some _ = some _; simp)), (by first | rfl | (show some _ = some _; simp)), trivial⟩ rfl (by first | rfl | (simp))) ?_
      rintro i hi
      refine SCode.fact (isl_len (t := 1) rfl) (fun hB => ?_)
      simp only [List.length_map, lenB] at hB
      refine SCode.seq ?_
      refine SCode.seqR ?_
      refine SOps.move rfl ?_
      refine SOps.move rfl ?_
      refine SOps.lenM rfl sliceB_36_25_6 ?_
      refine SOps.bin rfl rfl rfl ?_
      refine SOps.nil ?_
      refine SCode.cond rfl (fun hc9 => ?_) (fun hc9 => ?_)
      · try simp only [decide_eq_true_eq, decide_eq_false_iff_not, Bool.not_eq_true', Bool.not_eq_false', beq_iff_eq, bne_iff_ne, ne_eq, beq_eq_false_iff_ne, bne_eq_false_iff_eq, Int.not_lt, Int.not_le, Nat.not_lt, Nat.not_le, Int.ofNat_lt, Int.ofNat_le, Bool.not_eq_eq_eq_not, Bool.not_true, Bool.not_false] at hc9
        refine SCode.skip ?_
        show SCode _ _ _ _
        refine SCode.seq ?_
        refine SCode.block ?_
        refine SCode.seqR ?_
        refine SOps.move rfl ?_
        refine SOps.move rfl ?_
        refine SOps.move rfl ?_
        refine SOps.indexM (i) rfl rfl sliceB_36_25_6 (by first | omega | (simp only [lenB]; omega)) (by first | omega | (simp only [lenB]; omega)) ?_
        refine SOps.loadPinA rfl aggB_25_6 (Nat.le_of_ble_eq_true rfl) ?_
        refine SOps.move rfl ?_
        refine SOps.callP (lSmall _ _ _) rfl ?_
        rintro _ rfl
        refine SOps.un rfl rfl ?_
        refine SOps.nil ?_
        refine SCode.cond rfl (fun hc10 => ?_) (fun hc10 => ?_)
        · try simp only [decide_eq_true_eq, decide_eq_false_iff_not, Bool.not_eq_true', Bool.not_eq_false', beq_iff_eq, bne_iff_ne, ne_eq, beq_eq_false_iff_ne, bne_eq_false_iff_eq, Int.not_lt, Int.not_le, Nat.not_lt, Nat.not_le, Int.ofNat_lt, Int.ofNat_le, Bool.not_eq_eq_eq_not, Bool.not_true, Bool.not_false] at hc10
          refine SCode.seqR ?_
          refine SOps.callP hA rfl ?_
          rintro _ rfl
          refine SOps.assign rfl ?_
          refine SOps.nil ?_
          refine SCode.ret ?_
          exact ⟨_, Res.one (.tmp rfl), rfl, rfl⟩
        · try simp only [decide_eq_true_eq, decide_eq_false_iff_not, Bool.not_eq_true', Bool.not_eq_false', beq_iff_eq, bne_iff_ne, ne_eq, beq_eq_false_iff_ne, bne_eq_false_iff_eq, Int.not_lt, Int.not_le, Nat.not_lt, Nat.not_le, Int.ofNat_lt, Int.ofNat_le, Bool.not_eq_eq_eq_not, Bool.not_true, Bool.not_false] at hc10
          refine SCode.skip ?_
          show SCode _ _ _ _
          refine SCode.region ?_
          refine SOps.move rfl ?_
          refine SOps.addI rfl rfl (by first | omega | (simp only [lenB]; omega)) (by first | omega | (simp only [lenB]; omega)) ?_
          refine SOps.assign rfl ?_
          refine SOps.nil ?_
          exact ⟨i + 1, by omega, by omega, (St.Le.of ⟨(by first | rfl | (show some _ = some _; simp)), (by first | rfl | (show some _ = some _; simp)), (by first | rfl | (show some _ = some _; simp)), (by first | rfl | (show some _ = some _; simp)), trivial⟩ rfl (by first | rfl | (simp)))⟩
      · try simp only [decide_eq_true_eq, decide_eq_false_iff_not, Bool.not_eq_true', Bool.not_eq_false', beq_iff_eq, bne_iff_ne, ne_eq, beq_eq_false_iff_ne, bne_eq_false_iff_eq, Int.not_lt, Int.not_le, Nat.not_lt, Nat.not_le, Int.ofNat_lt, Int.ofNat_le, Bool.not_eq_eq_eq_not, Bool.not_true, Bool.not_false] at hc9
        refine SCode.exit ?_
        show SCode _ _ _ _
        refine SCode.seq ?_
        refine SCode.seqR ?_
        refine SOps.move rfl ?_
        refine SOps.lenM rfl sliceB_22_50_2 ?_
        refine SOps.bin rfl rfl rfl ?_
        refine SOps.move rfl ?_
        refine SOps.caseB 44 rfl (fun hb11 => ?_) (fun hb11 => ?_)
        · try simp only [decide_eq_true_eq, decide_eq_false_iff_not, Bool.not_eq_true', Bool.not_eq_false', beq_iff_eq, bne_iff_ne, ne_eq, beq_eq_false_iff_ne, bne_eq_false_iff_eq, Int.not_lt, Int.not_le, Nat.not_lt, Nat.not_le, Int.ofNat_lt, Int.ofNat_le, Bool.not_eq_eq_eq_not, Bool.not_true, Bool.not_false] at hb11
          refine SOps.skip rfl ?_
          refine SOps.skip rfl ?_
          refine SOps.skip rfl ?_
          refine SOps.pick rfl rfl ?_
          refine SOps.nil ?_
          refine SCode.cond rfl (fun _ => ?_) (fun h => by cases h)
          refine SCode.seqR ?_
          refine SOps.callP hA rfl ?_
          rintro _ rfl
          refine SOps.assign rfl ?_
          refine SOps.nil ?_
          refine SCode.ret ?_
          exact ⟨_, Res.one (.tmp rfl), rfl, rfl⟩
        · try simp only [decide_eq_true_eq, decide_eq_false_iff_not, Bool.not_eq_true', Bool.not_eq_false', beq_iff_eq, bne_iff_ne, ne_eq, beq_eq_false_iff_ne, bne_eq_false_iff_eq, Int.not_lt, Int.not_le, Nat.not_lt, Nat.not_le, Int.ofNat_lt, Int.ofNat_le, Bool.not_eq_eq_eq_not, Bool.not_true, Bool.not_false] at hb11
          refine SOps.move rfl ?_
          refine SOps.lenStr rfl strB_9 ?_
          refine SOps.bin rfl rfl rfl ?_
          refine SOps.pick rfl rfl ?_
          refine SOps.nil ?_
          refine SCode.cond rfl (fun hc12 => ?_) (fun hc12 => ?_)
          · try simp only [decide_eq_true_eq, decide_eq_false_iff_not, Bool.not_eq_true', Bool.not_eq_false', beq_iff_eq, bne_iff_ne, ne_eq, beq_eq_false_iff_ne, bne_eq_false_iff_eq, Int.not_lt, Int.not_le, Nat.not_lt, Nat.not_le, Int.ofNat_lt, Int.ofNat_le, Bool.not_eq_eq_eq_not, Bool.not_true, Bool.not_false] at hc12
            refine SCode.seqR ?_
            refine SOps.callP hA rfl ?_
            rintro _ rfl
            refine SOps.assign rfl ?_
            refine SOps.nil ?_
            refine SCode.ret ?_
            exact ⟨_, Res.one (.tmp rfl), rfl, rfl⟩
          · try simp only [decide_eq_true_eq, decide_eq_false_iff_not, Bool.not_eq_true', Bool.not_eq_false', beq_iff_eq, bne_iff_ne, ne_eq, beq_eq_false_iff_ne, bne_eq_false_iff_eq, Int.not_lt, Int.not_le, Nat.not_lt, Nat.not_le, Int.ofNat_lt, Int.ofNat_le, Bool.not_eq_eq_eq_not, Bool.not_true, Bool.not_false] at hc12
            refine SCode.skip ?_
            show SCode _ _ _ _
            refine SCode.seqR ?_
            refine SOps.move rfl ?_
            refine SOps.move rfl ?_
            refine SOps.move rfl ?_
            refine SOps.callP (rCascade hV _ _ _ (by assumption) (by assumption)) rfl ?_
            rintro _ rfl
            refine SOps.move rfl ?_
            refine SOps.extract rfl rfl ?_
            refine SOps.extract rfl rfl ?_
            refine SOps.assign rfl ?_
            refine SOps.assign rfl ?_
            refine SOps.nil ?_
            refine SCode.seqR ?_
            refine SOps.move rfl ?_
            refine SOps.move rfl ?_
            refine SOps.move rfl ?_
            refine SOps.callP (qCascade' hV _ _ _ (by assumption) (by assumption)) rfl ?_
            rintro _ rfl
            refine SOps.move rfl ?_
            refine SOps.extract rfl rfl ?_
            refine SOps.extract rfl rfl ?_
            refine SOps.assign rfl ?_
            refine SOps.assign rfl ?_
            refine SOps.nil ?_
            refine SCode.seqR ?_
            refine SOps.callP hA rfl ?_
            rintro _ rfl
            refine SOps.move rfl ?_
            refine SOps.move rfl ?_
            refine SOps.move rfl ?_
            refine SOps.bin rfl rfl rfl ?_
            refine SOps.reSlot (t := 68) rfl (show _ = DV.v (.bool true) from congrArg (fun b => DV.v (.bool b)) (by simp)) ?_
            refine SOps.pick rfl rfl ?_
            refine SOps.move rfl ?_
            refine SOps.move rfl ?_
            refine SOps.move rfl ?_
            refine SOps.bin rfl rfl rfl ?_
            refine SOps.reSlot (t := 73) rfl (show _ = DV.v (.bool true) from congrArg (fun b => DV.v (.bool b)) (by simp)) ?_
            refine SOps.pick rfl rfl ?_
            refine SOps.assign rfl ?_
            refine SOps.nil ?_
            refine SCode.ret ?_
            exact ⟨_, Res.one (.tmp rfl), rfl, rfl⟩
theorem l7Feeds (hV : VS E) (hA : AW7 E) (a : List Letter) (r t : Rule) (s : ByteArray) (hr : SmR r) (ht : SmR t) (hs : s.size ≤ 1048576) : GCall Tryd.prog E 9 [DLs a, .agg (encR r), .agg (encR t), .v (.string s)] [] (fun d H => d = .v (.bool true) ∧ H = []) := by
  refine GCall.body (C := ⟨Tryd.prog, E, true⟩) Tryd.func9 rfl (fun _ => rfl) (by kernel_rfl) rfl ?_
  refine SCode.seqR ?_
  refine SOps.boxAM rfl rfl ?_
  refine SOps.boxAM rfl rfl ?_
  refine SOps.assign rfl ?_
  refine SOps.nil ?_
  refine SCode.seq ?_
  refine SCode.seqR ?_
  refine SOps.move rfl ?_
  refine SOps.loadPinA rfl aggB_25_6 (Nat.le_of_ble_eq_true rfl) ?_
  refine SOps.move rfl ?_
  refine SOps.callP (lSmall _ _ _) rfl ?_
  rintro _ rfl
  refine SOps.un rfl rfl ?_
  refine SOps.move rfl ?_
  refine SOps.caseB 18 rfl (fun hb1 => ?_) (fun hb1 => ?_)
  · try simp only [decide_eq_true_eq, decide_eq_false_iff_not, Bool.not_eq_true', Bool.not_eq_false', beq_iff_eq, bne_iff_ne, ne_eq, beq_eq_false_iff_ne, bne_eq_false_iff_eq, Int.not_lt, Int.not_le, Nat.not_lt, Nat.not_le, Int.ofNat_lt, Int.ofNat_le, Bool.not_eq_eq_eq_not, Bool.not_true, Bool.not_false] at hb1
    refine SOps.skip rfl ?_
    refine SOps.skip rfl ?_
    refine SOps.skip rfl ?_
    refine SOps.skip rfl ?_
    refine SOps.skip rfl ?_
    refine SOps.pick rfl rfl ?_
    refine SOps.nil ?_
    refine SCode.cond rfl (fun _ => ?_) (fun h => by cases h)
    refine SCode.seqR ?_
    refine SOps.callP hA rfl ?_
    rintro _ rfl
    refine SOps.assign rfl ?_
    refine SOps.nil ?_
    refine SCode.ret ?_
    exact ⟨_, Res.one (.tmp rfl), rfl, rfl⟩
  · try simp only [decide_eq_true_eq, decide_eq_false_iff_not, Bool.not_eq_true', Bool.not_eq_false', beq_iff_eq, bne_iff_ne, ne_eq, beq_eq_false_iff_ne, bne_eq_false_iff_eq, Int.not_lt, Int.not_le, Nat.not_lt, Nat.not_le, Int.ofNat_lt, Int.ofNat_le, Bool.not_eq_eq_eq_not, Bool.not_true, Bool.not_false] at hb1
    refine SOps.move rfl ?_
    refine SOps.loadPinA rfl aggB_25_6 (Nat.le_of_ble_eq_true rfl) ?_
    refine SOps.move rfl ?_
    refine SOps.callP (lSmall _ _ _) rfl ?_
    rintro _ rfl
    refine SOps.un rfl rfl ?_
    refine SOps.pick rfl rfl ?_
    refine SOps.nil ?_
    refine SCode.cond rfl (fun hc2 => ?_) (fun hc2 => ?_)
    · try simp only [decide_eq_true_eq, decide_eq_false_iff_not, Bool.not_eq_true', Bool.not_eq_false', beq_iff_eq, bne_iff_ne, ne_eq, beq_eq_false_iff_ne, bne_eq_false_iff_eq, Int.not_lt, Int.not_le, Nat.not_lt, Nat.not_le, Int.ofNat_lt, Int.ofNat_le, Bool.not_eq_eq_eq_not, Bool.not_true, Bool.not_false] at hc2
      refine SCode.seqR ?_
      refine SOps.callP hA rfl ?_
      rintro _ rfl
      refine SOps.assign rfl ?_
      refine SOps.nil ?_
      refine SCode.ret ?_
      exact ⟨_, Res.one (.tmp rfl), rfl, rfl⟩
    · try simp only [decide_eq_true_eq, decide_eq_false_iff_not, Bool.not_eq_true', Bool.not_eq_false', beq_iff_eq, bne_iff_ne, ne_eq, beq_eq_false_iff_ne, bne_eq_false_iff_eq, Int.not_lt, Int.not_le, Nat.not_lt, Nat.not_le, Int.ofNat_lt, Int.ofNat_le, Bool.not_eq_eq_eq_not, Bool.not_true, Bool.not_false] at hc2
      refine SCode.skip ?_
      show SCode _ _ _ _
      refine SCode.seqR ?_
      refine SOps.move rfl ?_
      refine SOps.loadPinA rfl aggB_25_6 (Nat.le_of_ble_eq_true rfl) ?_
      refine SOps.loadPinA rfl aggB_25_6 (Nat.le_of_ble_eq_true rfl) ?_
      refine SOps.move rfl ?_
      refine SOps.callP (rFeeds hV _ _ _ _ hr ht hs) rfl ?_
      rintro _ rfl
      refine SOps.move rfl ?_
      refine SOps.extract rfl rfl ?_
      refine SOps.extract rfl rfl ?_
      refine SOps.assign rfl ?_
      refine SOps.assign rfl ?_
      refine SOps.nil ?_
      refine SCode.seq ?_
      refine SCode.seqR ?_
      refine SOps.move rfl ?_
      refine SOps.loadPinA rfl aggB_25_6 (Nat.le_of_ble_eq_true rfl) ?_
      refine SOps.callP (qValid hV _ _) rfl ?_
      rintro _ rfl
      refine SOps.un rfl rfl ?_
      refine SOps.move rfl ?_
      refine SOps.caseB 38 rfl (fun hb3 => ?_) (fun hb3 => ?_)
      · try simp only [decide_eq_true_eq, decide_eq_false_iff_not, Bool.not_eq_true', Bool.not_eq_false', beq_iff_eq, bne_iff_ne, ne_eq, beq_eq_false_iff_ne, bne_eq_false_iff_eq, Int.not_lt, Int.not_le, Nat.not_lt, Nat.not_le, Int.ofNat_lt, Int.ofNat_le, Bool.not_eq_eq_eq_not, Bool.not_true, Bool.not_false] at hb3
        refine SOps.skip rfl ?_
        refine SOps.skip rfl ?_
        refine SOps.skip rfl ?_
        refine SOps.skip rfl ?_
        refine SOps.pick rfl rfl ?_
        refine SOps.move rfl ?_
        refine SOps.skip rfl ?_
        refine SOps.skip rfl ?_
        refine SOps.skip rfl ?_
        refine SOps.skip rfl ?_
        refine SOps.pick rfl rfl ?_
        refine SOps.nil ?_
        refine SCode.cond rfl (fun _ => ?_) (fun h => by cases h)
        refine SCode.seqR ?_
        have hfe : feedsR a r t s = (false, 1) := feeds_bad (by simp_all)
        refine SOps.callP hA rfl ?_
        rintro _ rfl
        refine SOps.move rfl ?_
        refine SOps.move rfl ?_
        refine SOps.reSlot (t := 52) rfl (show _ = DV.v (.bool false) from congrArg (fun b => DV.v (.bool b)) (by rw [hfe])) ?_
        refine SOps.un rfl rfl ?_
        refine SOps.pick rfl rfl ?_
        refine SOps.move rfl ?_
        refine SOps.move rfl ?_
        refine SOps.bin rfl rfl rfl ?_
        refine SOps.reSlot (t := 57) rfl (show _ = DV.v (.bool true) from congrArg (fun b => DV.v (.bool b)) (by rw [hfe]; rfl)) ?_
        refine SOps.pick rfl rfl ?_
        refine SOps.assign rfl ?_
        refine SOps.nil ?_
        refine SCode.ret ?_
        exact ⟨_, Res.one (.tmp rfl), rfl, rfl⟩
      · try simp only [decide_eq_true_eq, decide_eq_false_iff_not, Bool.not_eq_true', Bool.not_eq_false', beq_iff_eq, bne_iff_ne, ne_eq, beq_eq_false_iff_ne, bne_eq_false_iff_eq, Int.not_lt, Int.not_le, Nat.not_lt, Nat.not_le, Int.ofNat_lt, Int.ofNat_le, Bool.not_eq_eq_eq_not, Bool.not_true, Bool.not_false] at hb3
        refine SOps.move rfl ?_
        refine SOps.loadPinA rfl aggB_25_6 (Nat.le_of_ble_eq_true rfl) ?_
        refine SOps.callP (qValid hV _ _) rfl ?_
        rintro _ rfl
        refine SOps.un rfl rfl ?_
        refine SOps.pick rfl rfl ?_
        refine SOps.move rfl ?_
        refine SOps.caseB 44 rfl (fun hb4 => ?_) (fun hb4 => ?_)
        · try simp only [decide_eq_true_eq, decide_eq_false_iff_not, Bool.not_eq_true', Bool.not_eq_false', beq_iff_eq, bne_iff_ne, ne_eq, beq_eq_false_iff_ne, bne_eq_false_iff_eq, Int.not_lt, Int.not_le, Nat.not_lt, Nat.not_le, Int.ofNat_lt, Int.ofNat_le, Bool.not_eq_eq_eq_not, Bool.not_true, Bool.not_false] at hb4
          refine SOps.skip rfl ?_
          refine SOps.skip rfl ?_
          refine SOps.skip rfl ?_
          refine SOps.skip rfl ?_
          refine SOps.pick rfl rfl ?_
          refine SOps.nil ?_
          refine SCode.cond rfl (fun _ => ?_) (fun h => by cases h)
          refine SCode.seqR ?_
          have hfe : feedsR a r t s = (false, 1) := feeds_bad (by simp_all)
          refine SOps.callP hA rfl ?_
          rintro _ rfl
          refine SOps.move rfl ?_
          refine SOps.move rfl ?_
          refine SOps.reSlot (t := 52) rfl (show _ = DV.v (.bool false) from congrArg (fun b => DV.v (.bool b)) (by rw [hfe])) ?_
          refine SOps.un rfl rfl ?_
          refine SOps.pick rfl rfl ?_
          refine SOps.move rfl ?_
          refine SOps.move rfl ?_
          refine SOps.bin rfl rfl rfl ?_
          refine SOps.reSlot (t := 57) rfl (show _ = DV.v (.bool true) from congrArg (fun b => DV.v (.bool b)) (by rw [hfe]; rfl)) ?_
          refine SOps.pick rfl rfl ?_
          refine SOps.assign rfl ?_
          refine SOps.nil ?_
          refine SCode.ret ?_
          exact ⟨_, Res.one (.tmp rfl), rfl, rfl⟩
        · try simp only [decide_eq_true_eq, decide_eq_false_iff_not, Bool.not_eq_true', Bool.not_eq_false', beq_iff_eq, bne_iff_ne, ne_eq, beq_eq_false_iff_ne, bne_eq_false_iff_eq, Int.not_lt, Int.not_le, Nat.not_lt, Nat.not_le, Int.ofNat_lt, Int.ofNat_le, Bool.not_eq_eq_eq_not, Bool.not_true, Bool.not_false] at hb4
          refine SOps.move rfl ?_
          refine SOps.move rfl ?_
          refine SOps.callP (qWord hV _ _) rfl ?_
          rintro _ rfl
          refine SOps.un rfl rfl ?_
          refine SOps.pick rfl rfl ?_
          refine SOps.nil ?_
          refine SCode.cond rfl (fun hc5 => ?_) (fun hc5 => ?_)
          · try simp only [decide_eq_true_eq, decide_eq_false_iff_not, Bool.not_eq_true', Bool.not_eq_false', beq_iff_eq, bne_iff_ne, ne_eq, beq_eq_false_iff_ne, bne_eq_false_iff_eq, Int.not_lt, Int.not_le, Nat.not_lt, Nat.not_le, Int.ofNat_lt, Int.ofNat_le, Bool.not_eq_eq_eq_not, Bool.not_true, Bool.not_false] at hc5
            refine SCode.seqR ?_
            have hfe : feedsR a r t s = (false, 1) := feeds_bad (by simp_all)
            refine SOps.callP hA rfl ?_
            rintro _ rfl
            refine SOps.move rfl ?_
            refine SOps.move rfl ?_
            refine SOps.reSlot (t := 52) rfl (show _ = DV.v (.bool false) from congrArg (fun b => DV.v (.bool b)) (by rw [hfe])) ?_
            refine SOps.un rfl rfl ?_
            refine SOps.pick rfl rfl ?_
            refine SOps.move rfl ?_
            refine SOps.move rfl ?_
            refine SOps.bin rfl rfl rfl ?_
            refine SOps.reSlot (t := 57) rfl (show _ = DV.v (.bool true) from congrArg (fun b => DV.v (.bool b)) (by rw [hfe]; rfl)) ?_
            refine SOps.pick rfl rfl ?_
            refine SOps.assign rfl ?_
            refine SOps.nil ?_
            refine SCode.ret ?_
            exact ⟨_, Res.one (.tmp rfl), rfl, rfl⟩
          · try simp only [decide_eq_true_eq, decide_eq_false_iff_not, Bool.not_eq_true', Bool.not_eq_false', beq_iff_eq, bne_iff_ne, ne_eq, beq_eq_false_iff_ne, bne_eq_false_iff_eq, Int.not_lt, Int.not_le, Nat.not_lt, Nat.not_le, Int.ofNat_lt, Int.ofNat_le, Bool.not_eq_eq_eq_not, Bool.not_true, Bool.not_false] at hc5
            refine SCode.skip ?_
            show SCode _ _ _ _
            refine SCode.seqR ?_
            refine SOps.move rfl ?_
            refine SOps.loadPinA rfl aggB_25_6 (Nat.le_of_ble_eq_true rfl) ?_
            refine SOps.move rfl ?_
            refine SOps.callP (qApply' hV _ _ _ hr hs) rfl ?_
            rintro _ rfl
            refine SOps.move rfl ?_
            refine SOps.extract rfl rfl ?_
            refine SOps.extract rfl rfl ?_
            refine SOps.assign rfl ?_
            refine SOps.assign rfl ?_
            refine SOps.nil ?_
            refine SCode.seq ?_
            refine SCode.seqR ?_
            refine SOps.move rfl ?_
            refine SOps.bin rfl rfl rfl ?_
            refine SOps.nil ?_
            refine SCode.cond rfl (fun hc6 => ?_) (fun hc6 => ?_)
            · try simp only [decide_eq_true_eq, decide_eq_false_iff_not, Bool.not_eq_true', Bool.not_eq_false', beq_iff_eq, bne_iff_ne, ne_eq, beq_eq_false_iff_ne, bne_eq_false_iff_eq, Int.not_lt, Int.not_le, Nat.not_lt, Nat.not_le, Int.ofNat_lt, Int.ofNat_le, Bool.not_eq_eq_eq_not, Bool.not_true, Bool.not_false] at hc6
              refine SCode.seqR ?_
              have hfe : feedsR a r t s = (false, (applyR a r s).2) := by unfold feedsR; rw [if_pos (by simp_all), if_neg (by simp_all)]
              refine SOps.callP hA rfl ?_
              rintro _ rfl
              refine SOps.move rfl ?_
              refine SOps.move rfl ?_
              refine SOps.reSlot (t := 70) rfl (show _ = DV.v (.bool false) from congrArg (fun b => DV.v (.bool b)) (by rw [hfe])) ?_
              refine SOps.un rfl rfl ?_
              refine SOps.pick rfl rfl ?_
              refine SOps.move rfl ?_
              refine SOps.move rfl ?_
              refine SOps.move rfl ?_
              refine SOps.bin rfl rfl rfl ?_
              refine SOps.reSlot (t := 76) rfl (show _ = DV.v (.bool true) from congrArg (fun b => DV.v (.bool b)) (by rw [hfe]; simp)) ?_
              refine SOps.pick rfl rfl ?_
              refine SOps.assign rfl ?_
              refine SOps.nil ?_
              refine SCode.ret ?_
              exact ⟨_, Res.one (.tmp rfl), rfl, rfl⟩
            · try simp only [decide_eq_true_eq, decide_eq_false_iff_not, Bool.not_eq_true', Bool.not_eq_false', beq_iff_eq, bne_iff_ne, ne_eq, beq_eq_false_iff_ne, bne_eq_false_iff_eq, Int.not_lt, Int.not_le, Nat.not_lt, Nat.not_le, Int.ofNat_lt, Int.ofNat_le, Bool.not_eq_eq_eq_not, Bool.not_true, Bool.not_false] at hc6
              refine SCode.skip ?_
              show SCode _ _ _ _
              refine SCode.seq ?_
              have hz := resX_size a r s (sitesR a r s)
              have hfe : feedsR a r t s = (decide ((sitesR a t s).length < (sitesR a t (applyR a r s).1).length), 0) := by unfold feedsR; rw [if_pos (by simp_all), if_pos (by simp_all)]
              refine SCode.drawPure mixed_ [(78, .v (.bool true)), (79, .v (.bool true)), (80, .v (.int .i64 (feedsR a r t s).2)), (81, .v (.bool true)), (82, .v (.bool true)), (83, .v (.bool true)), (84, .v (.bool (feedsR a r t s).1)), (85, DLs a), (86, .agg (encR t)), (87, .v (.string (applyR a r s).1)), (88, DNats (sitesR a t (applyR a r s).1)), (89, .v (.int .i64 (((sitesR a t (applyR a r s).1).length : Nat) : Int))), (90, DLs a), (91, .agg (encR t)), (92, .v (.string s)), (93, DNats (sitesR a t s)), (94, .v (.int .i64 (((sitesR a t s).length : Nat) : Int))), (95, .v (.bool (decide ((((sitesR a t s).length : Nat) : Int) < (((sitesR a t (applyR a r s).1).length : Nat) : Int))))), (96, .v (.bool true)), (97, .v (.bool true)), (8, .v (.bool true))] [78, 79, 80, 81, 82, 83, 84, 85, 86, 87, 88, 89, 90, 91, 92, 93, 94, 95, 96, 97, 8] [[], [.inl 0], [.inl 1, .inr 10], [.inl 1, .inl 2], [.inl 1, .inl 3], [.inl 4], [.inl 5, .inr 9], [.inl 5, .inr 0], [.inl 5, .inr 6], [.inl 5, .inr 11], [.inl 5, .inl 7, .inl 8, .inl 9], [.inl 5, .inl 10], [.inl 5, .inr 0], [.inl 5, .inr 6], [.inl 5, .inr 3], [.inl 5, .inl 12, .inl 13, .inl 14], [.inl 5, .inl 15], [.inl 5, .inl 11, .inl 16], [.inl 5, .inl 6, .inl 17], [.inl 5, .inl 18], [.inl 19]] [[], [(78, .v (.bool true))], [(79, .v (.bool true)), (10, .v (.int .i64 (feedsR a r t s).2))], [(79, .v (.bool true)), (80, .v (.int .i64 (feedsR a r t s).2))], [(79, .v (.bool true)), (81, .v (.bool true))], [(82, .v (.bool true))], [(83, .v (.bool true)), (9, .v (.bool (feedsR a r t s).1))], [(83, .v (.bool true)), (0, DLs a)], [(83, .v (.bool true)), (6, .ipin (encR t))], [(83, .v (.bool true)), (11, .v (.string (applyR a r s).1))], [(83, .v (.bool true)), (85, DLs a), (86, .agg (encR t)), (87, .v (.string (applyR a r s).1))], [(83, .v (.bool true)), (88, DNats (sitesR a t (applyR a r s).1))], [(83, .v (.bool true)), (0, DLs a)], [(83, .v (.bool true)), (6, .ipin (encR t))], [(83, .v (.bool true)), (3, .v (.string s))], [(83, .v (.bool true)), (90, DLs a), (91, .agg (encR t)), (92, .v (.string s))], [(83, .v (.bool true)), (93, DNats (sitesR a t s))], [(83, .v (.bool true)), (89, .v (.int .i64 (((sitesR a t (applyR a r s).1).length : Nat) : Int))), (94, .v (.int .i64 (((sitesR a t s).length : Nat) : Int)))], [(83, .v (.bool true)), (84, .v (.bool (feedsR a r t s).1)), (95, .v (.bool (decide ((((sitesR a t s).length : Nat) : Int) < (((sitesR a t (applyR a r s).1).length : Nat) : Int)))))], [(83, .v (.bool true)), (96, .v (.bool true))], [(97, .v (.bool true))]] rfl (by kernel_rfl) (by kernel_rfl) rfl ?_ ?_
              · refine OpsOk.cons (fun rest => ?_) ?_
                · refine SOps.callP hA rfl ?_
                  rintro _ rfl
                  exact SOps.nil (by first | rfl | simp_all)
                refine OpsOk.cons (fun rest => ?_) ?_
                · refine SOps.move rfl ?_
                  exact SOps.nil (by first | rfl | simp_all)
                refine OpsOk.cons (fun rest => ?_) ?_
                · refine SOps.move rfl ?_
                  exact SOps.nil (by first | rfl | simp_all)
                refine OpsOk.cons (fun rest => ?_) ?_
                · refine SOps.bin rfl rfl rfl ?_
                  exact SOps.nil (by rw [hfe]; rfl)
                refine OpsOk.cons (fun rest => ?_) ?_
                · refine SOps.pick rfl rfl ?_
                  exact SOps.nil (by first | rfl | simp_all)
                refine OpsOk.cons (fun rest => ?_) ?_
                · refine SOps.move rfl ?_
                  exact SOps.nil (by first | rfl | simp_all)
                refine OpsOk.cons (fun rest => ?_) ?_
                · refine SOps.move rfl ?_
                  exact SOps.nil (by first | rfl | simp_all)
                refine OpsOk.cons (fun rest => ?_) ?_
                · refine SOps.move rfl ?_
                  exact SOps.nil (by first | rfl | simp_all)
                refine OpsOk.cons (fun rest => ?_) ?_
                · refine SOps.loadPinA rfl aggB_25_6 (Nat.le_of_ble_eq_true rfl) ?_
                  exact SOps.nil (by first | rfl | simp_all)
                refine OpsOk.cons (fun rest => ?_) ?_
                · refine SOps.move rfl ?_
                  exact SOps.nil (by first | rfl | simp_all)
                refine OpsOk.cons (fun rest => ?_) ?_
                · refine SOps.callP (qSites' hV _ _ _ hz) rfl ?_
                  rintro _ rfl
                  exact SOps.nil (by first | rfl | simp_all)
                refine OpsOk.cons (fun rest => ?_) ?_
                · refine SOps.lenM rfl sliceB_30_3_1 ?_
                  exact SOps.nil (by first | rfl | simp_all)
                refine OpsOk.cons (fun rest => ?_) ?_
                · refine SOps.move rfl ?_
                  exact SOps.nil (by first | rfl | simp_all)
                refine OpsOk.cons (fun rest => ?_) ?_
                · refine SOps.loadPinA rfl aggB_25_6 (Nat.le_of_ble_eq_true rfl) ?_
                  exact SOps.nil (by first | rfl | simp_all)
                refine OpsOk.cons (fun rest => ?_) ?_
                · refine SOps.move rfl ?_
                  exact SOps.nil (by first | rfl | simp_all)
                refine OpsOk.cons (fun rest => ?_) ?_
                · refine SOps.callP (qSites' hV _ _ _ hs) rfl ?_
                  rintro _ rfl
                  exact SOps.nil (by first | rfl | simp_all)
                refine OpsOk.cons (fun rest => ?_) ?_
                · refine SOps.lenM rfl sliceB_30_3_1 ?_
                  exact SOps.nil (by first | rfl | simp_all)
                refine OpsOk.cons (fun rest => ?_) ?_
                · refine SOps.bin rfl rfl rfl ?_
                  exact SOps.nil (by first | rfl | simp_all)
                refine OpsOk.cons (fun rest => ?_) ?_
                · refine SOps.boolEq rfl rfl boolTy_4 ?_
                  exact SOps.nil (by rw [hfe]; simp only [Int.ofNat_lt, beq_self_eq_true]; rfl)
                refine OpsOk.cons (fun rest => ?_) ?_
                · refine SOps.pick rfl rfl ?_
                  exact SOps.nil (by first | rfl | simp_all)
                refine OpsOk.cons (fun rest => ?_) ?_
                · refine SOps.assign rfl ?_
                  exact SOps.nil (by first | rfl | simp_all)
                exact OpsOk.nil
              · show SCode _ _ _ _
                refine SCode.ret ?_
                exact ⟨_, Res.one (.tmp rfl), rfl, rfl⟩
end Go.GH
