/-
  The walks of the laws on syllables, second part. No conditions.
-/
import Derived.Test.YtnelkblhplellaaDoorSc
import Derived.Test.YtnelkblhplellaaDoorSp
import Derived.Test.YtnelkblhplellaaDoorGr
set_option linter.unusedVariables false
set_option linter.unusedSimpArgs false
namespace Go.GH
open Go Go.Proofs
variable {E : Env}
theorem elemB_33_1_24 : elemB Tryd.prog 33 1 24 = true := by kernel_rfl
theorem lFewNil (a : List Letter) (s : ByteArray) : GCall Tryd.prog E 15 [DLs a, .agg [.v (.slice none 0 0), .v (.int .i64 0), .v (.int .i64 0)], .v (.string s)] [] (fun d H => d = .v (.bool (fewA a [] s)) ∧ H = []) :=
  (lFew a [] 0 0 s).args rfl (fun j d d' hd hd' w F x hr => by
    match j, hd, hd' with
    | 0, hd, hd' => simp at hd hd'; subst hd; subst hd'; exact hr
    | 1, hd, hd' =>
      simp at hd hd'; subst hd; subst hd'
      cases hr with
      | agg hl hr => exact .agg hl (fun j x d hx hd => by
          match j, hx, hd with
          | 0, hx, hd => simp at hd; subst hd; exact (hr 0 x _ hx rfl).nilIsl
          | 1, hx, hd => exact hr 1 x d hx hd
          | 2, hx, hd => exact hr 2 x d hx hd
          | j + 3, hx, hd => simp at hd)
    | 2, hd, hd' => simp at hd hd'; subst hd; subst hd'; exact hr
    | j + 3, hd, hd' => simp at hd)
theorem map_encN (l : List Nat) : l.map encN = (l.map (fun n : Nat => (n : Int))).map encI := by simp [encN, encI, Function.comp_def]
theorem rIntsN (x y : List Nat) : GCall Tryd.prog E 18 [DNats x, DNats y] [] (fun d H => d = .v (.bool (decide (x = y))) ∧ H = []) := by
  unfold DNats
  rw [map_encN, map_encN]
  refine (rInts _ _).mono (fun d H h => ⟨h.1.trans ?_, h.2⟩)
  congr 2
  rw [Bool.eq_iff_iff, decide_eq_true_eq, decide_eq_true_eq]
  exact List.map_inj_right (fun a b h => by omega)
theorem lawNuclei (hA : AW E) (a : List Letter) (s : ByteArray)  : GCall Tryd.prog E 4 [DLs a, .v (.string s)] [] (fun d H => d = .v (.bool true) ∧ H = []) := by
  refine GCall.body (C := ⟨Tryd.prog, E, true⟩) Tryd.func4 rfl (fun _ => rfl) (by kernel_rfl) rfl ?_
  refine SCode.seqR ?_
  refine SOps.assign rfl ?_
  refine SOps.nil ?_
  refine SCode.seq ?_
  refine SCode.seqR ?_
  refine SOps.callP hA rfl ?_
  rintro _ rfl
  refine SOps.un rfl rfl ?_
  refine SOps.move rfl ?_
  refine SOps.move rfl ?_
  refine SOps.buildM placesB_24 zeroIs_24 rfl rfl ?_
  refine SOps.move rfl ?_
  refine SOps.callP (lFewNil _ _) rfl ?_
  rintro _ rfl
  refine SOps.un rfl rfl ?_
  refine SOps.pick rfl rfl ?_
  refine SOps.nil ?_
  refine SCode.cond rfl (fun hc1 => ?_) (fun hc1 => ?_)
  · try simp only [decide_eq_true_eq, decide_eq_false_iff_not, Bool.not_eq_true', Bool.not_eq_false', beq_iff_eq, bne_iff_ne, ne_eq, beq_eq_false_iff_ne, bne_eq_false_iff_eq, Int.not_lt, Int.not_le, Nat.not_lt, Nat.not_le, Int.ofNat_lt, Int.ofNat_le, Bool.not_eq_eq_eq_not, Bool.not_true, Bool.not_false, Bool.not_eq_false'] at hc1
    refine SCode.seqR ?_
    refine SOps.callP hA rfl ?_
    rintro _ rfl
    refine SOps.assign rfl ?_
    refine SOps.nil ?_
    refine SCode.ret ?_
    exact ⟨_, Res.one (.tmp rfl), rfl, rfl⟩
  · try simp only [decide_eq_true_eq, decide_eq_false_iff_not, Bool.not_eq_true', Bool.not_eq_false', beq_iff_eq, bne_iff_ne, ne_eq, beq_eq_false_iff_ne, bne_eq_false_iff_eq, Int.not_lt, Int.not_le, Nat.not_lt, Nat.not_le, Int.ofNat_lt, Int.ofNat_le, Bool.not_eq_eq_eq_not, Bool.not_true, Bool.not_false, Bool.not_eq_false'] at hc1
    have hfew := fewA_spec hc1
    refine SCode.skip ?_
    show SCode _ _ _ _
    refine SCode.seqR ?_
    refine SOps.move rfl ?_
    refine SOps.move rfl ?_
    refine SOps.callP (sNuclei _ _ (by omega)) rfl ?_
    rintro _ rfl
    refine SOps.move rfl ?_
    refine SOps.move rfl ?_
    refine SOps.callP (rNuclei _ _ (by omega)) rfl ?_
    rintro _ rfl
    refine SOps.callP (rIntsN _ _) rfl ?_
    rintro _ rfl
    refine SOps.assign rfl ?_
    refine SOps.nil ?_
    refine SCode.ret ?_
    exact ⟨_, Res.one (.tmp rfl), congrArg (fun b => DV.v (.bool b)) (by simp), rfl⟩
theorem lawOnset (hA : AW E) (a : List Letter) (ons : List (List Int)) (ml mr : Int) (s : ByteArray)  : GCall Tryd.prog E 5 [DLs a, DP ons ml mr, .v (.string s)] [] (fun d H => d = .v (.bool true) ∧ H = []) := by
  refine GCall.body (C := ⟨Tryd.prog, E, true⟩) Tryd.func5 rfl (fun _ => rfl) (by kernel_rfl) rfl ?_
  refine SCode.seqR ?_
  refine SOps.boxAM rfl rfl ?_
  refine SOps.assign rfl ?_
  refine SOps.nil ?_
  refine SCode.seq ?_
  refine SCode.seqR ?_
  refine SOps.callP hA rfl ?_
  rintro _ rfl
  refine SOps.un rfl rfl ?_
  refine SOps.move rfl ?_
  refine SOps.move rfl ?_
  refine SOps.loadPinA rfl aggB_24_3 (Nat.le_of_ble_eq_true rfl) ?_
  refine SOps.move rfl ?_
  refine SOps.callP (lFew _ _ _ _ _) rfl ?_
  rintro _ rfl
  refine SOps.un rfl rfl ?_
  refine SOps.pick rfl rfl ?_
  refine SOps.nil ?_
  refine SCode.cond rfl (fun hc1 => ?_) (fun hc1 => ?_)
  · try simp only [decide_eq_true_eq, decide_eq_false_iff_not, Bool.not_eq_true', Bool.not_eq_false', beq_iff_eq, bne_iff_ne, ne_eq, beq_eq_false_iff_ne, bne_eq_false_iff_eq, Int.not_lt, Int.not_le, Nat.not_lt, Nat.not_le, Int.ofNat_lt, Int.ofNat_le, Bool.not_eq_eq_eq_not, Bool.not_true, Bool.not_false] at hc1
    refine SCode.seqR ?_
    refine SOps.callP hA rfl ?_
    rintro _ rfl
    refine SOps.assign rfl ?_
    refine SOps.nil ?_
    refine SCode.ret ?_
    exact ⟨_, Res.one (.tmp rfl), rfl, rfl⟩
  · try simp only [decide_eq_true_eq, decide_eq_false_iff_not, Bool.not_eq_true', Bool.not_eq_false', beq_iff_eq, bne_iff_ne, ne_eq, beq_eq_false_iff_ne, bne_eq_false_iff_eq, Int.not_lt, Int.not_le, Nat.not_lt, Nat.not_le, Int.ofNat_lt, Int.ofNat_le, Bool.not_eq_eq_eq_not, Bool.not_true, Bool.not_false] at hc1
    have hfew := fewA_spec hc1
    refine SCode.skip ?_
    show SCode _ _ _ _
    refine SCode.seq ?_
    refine SCode.drawPure mixed_ [(17, DLs a), (18, DP ons ml mr), (19, .v (.string s)), (20, .v (.bool (onset a ons s))), (21, DLs a), (22, DP ons ml mr), (23, .v (.string s)), (24, .v (.bool (onset a ons s))), (25, .v (.bool (onset a ons s == onset a ons s))), (6, .v (.bool true))] [17, 18, 19, 20, 21, 22, 23, 24, 25, 6] [[.inr 0], [.inr 4], [.inr 2], [.inl 0, .inl 1, .inl 2], [.inr 0], [.inr 4], [.inr 2], [.inl 4, .inl 5, .inl 6], [.inl 3, .inl 7], [.inl 8]] [[(0, DLs a)], [(4, .ipin [DOns ons, .v (.int .i64 ml), .v (.int .i64 mr)])], [(2, .v (.string s))], [(17, DLs a), (18, DP ons ml mr), (19, .v (.string s))], [(0, DLs a)], [(4, .ipin [DOns ons, .v (.int .i64 ml), .v (.int .i64 mr)])], [(2, .v (.string s))], [(21, DLs a), (22, DP ons ml mr), (23, .v (.string s))], [(20, .v (.bool (onset a ons s))), (24, .v (.bool (onset a ons s)))], [(25, .v (.bool (onset a ons s == onset a ons s)))]] rfl (by kernel_rfl) (by kernel_rfl) rfl ?_ ?_
    · refine OpsOk.cons (fun rest => ?_) ?_
      · refine SOps.move rfl ?_
        exact SOps.nil (by first | rfl | simp_all)
      refine OpsOk.cons (fun rest => ?_) ?_
      · refine SOps.loadPinA rfl aggB_24_3 (Nat.le_of_ble_eq_true rfl) ?_
        exact SOps.nil (by first | rfl | simp_all)
      refine OpsOk.cons (fun rest => ?_) ?_
      · refine SOps.move rfl ?_
        exact SOps.nil (by first | rfl | simp_all)
      refine OpsOk.cons (fun rest => ?_) ?_
      · refine SOps.callP (sOnset _ _ _ _ _ (by omega)) rfl ?_
        rintro _ rfl
        exact SOps.nil (by first | rfl | simp_all)
      refine OpsOk.cons (fun rest => ?_) ?_
      · refine SOps.move rfl ?_
        exact SOps.nil (by first | rfl | simp_all)
      refine OpsOk.cons (fun rest => ?_) ?_
      · refine SOps.loadPinA rfl aggB_24_3 (Nat.le_of_ble_eq_true rfl) ?_
        exact SOps.nil (by first | rfl | simp_all)
      refine OpsOk.cons (fun rest => ?_) ?_
      · refine SOps.move rfl ?_
        exact SOps.nil (by first | rfl | simp_all)
      refine OpsOk.cons (fun rest => ?_) ?_
      · refine SOps.callP (rOnset _ _ _ _ _ (by omega)) rfl ?_
        rintro _ rfl
        exact SOps.nil (by first | rfl | simp_all)
      refine OpsOk.cons (fun rest => ?_) ?_
      · refine SOps.boolEq rfl rfl boolTy_4 ?_
        exact SOps.nil (by first | rfl | simp_all)
      refine OpsOk.cons (fun rest => ?_) ?_
      · refine SOps.assign rfl ?_
        exact SOps.nil (by rw [beq_self_eq_true]; rfl)
      exact OpsOk.nil
    · show SCode _ _ _ _
      refine SCode.ret ?_
      exact ⟨_, Res.one (.tmp rfl), rfl, rfl⟩
theorem lawSplit (hV : VS E) (hA : AW E) (a : List Letter) (ons : List (List Int)) (ml mr : Int) (s : ByteArray)  : GCall Tryd.prog E 7 [DLs a, DP ons ml mr, .v (.string s)] [] (fun d H => d = .v (.bool true) ∧ H = []) := by
  refine GCall.body (C := ⟨Tryd.prog, E, true⟩) Tryd.func7 rfl (fun _ => rfl) (by kernel_rfl) rfl ?_
  refine SCode.seqR ?_
  refine SOps.boxAM rfl rfl ?_
  refine SOps.assign rfl ?_
  refine SOps.nil ?_
  refine SCode.seq ?_
  refine SCode.seqR ?_
  refine SOps.callP hA rfl ?_
  rintro _ rfl
  refine SOps.un rfl rfl ?_
  refine SOps.move rfl ?_
  refine SOps.move rfl ?_
  refine SOps.loadPinA rfl aggB_24_3 (Nat.le_of_ble_eq_true rfl) ?_
  refine SOps.move rfl ?_
  refine SOps.callP (lFew _ _ _ _ _) rfl ?_
  rintro _ rfl
  refine SOps.un rfl rfl ?_
  refine SOps.pick rfl rfl ?_
  refine SOps.nil ?_
  refine SCode.cond rfl (fun hc1 => ?_) (fun hc1 => ?_)
  · try simp only [decide_eq_true_eq, decide_eq_false_iff_not, Bool.not_eq_true', Bool.not_eq_false', beq_iff_eq, bne_iff_ne, ne_eq, beq_eq_false_iff_ne, bne_eq_false_iff_eq, Int.not_lt, Int.not_le, Nat.not_lt, Nat.not_le, Int.ofNat_lt, Int.ofNat_le, Bool.not_eq_eq_eq_not, Bool.not_true, Bool.not_false] at hc1
    refine SCode.seqR ?_
    refine SOps.callP hA rfl ?_
    rintro _ rfl
    refine SOps.assign rfl ?_
    refine SOps.nil ?_
    refine SCode.ret ?_
    exact ⟨_, Res.one (.tmp rfl), rfl, rfl⟩
  · try simp only [decide_eq_true_eq, decide_eq_false_iff_not, Bool.not_eq_true', Bool.not_eq_false', beq_iff_eq, bne_iff_ne, ne_eq, beq_eq_false_iff_ne, bne_eq_false_iff_eq, Int.not_lt, Int.not_le, Nat.not_lt, Nat.not_le, Int.ofNat_lt, Int.ofNat_le, Bool.not_eq_eq_eq_not, Bool.not_true, Bool.not_false] at hc1
    have hfew := fewA_spec hc1
    refine SCode.skip ?_
    show SCode _ _ _ _
    refine SCode.seqR ?_
    refine SOps.move rfl ?_
    refine SOps.loadPinA rfl aggB_24_3 (Nat.le_of_ble_eq_true rfl) ?_
    refine SOps.move rfl ?_
    refine SOps.callP (sSplit hV _ _ _ _ _ (by omega)) rfl ?_
    rintro _ rfl
    refine SOps.move rfl ?_
    refine SOps.extract rfl rfl ?_
    refine SOps.extract rfl rfl ?_
    refine SOps.assign rfl ?_
    refine SOps.assign rfl ?_
    refine SOps.nil ?_
    refine SCode.seqR ?_
    refine SOps.move rfl ?_
    refine SOps.loadPinA rfl aggB_24_3 (Nat.le_of_ble_eq_true rfl) ?_
    refine SOps.move rfl ?_
    refine SOps.callP (rSplit _ _ _ _ _ (by omega)) rfl ?_
    rintro _ rfl
    refine SOps.move rfl ?_
    refine SOps.extract rfl rfl ?_
    refine SOps.extract rfl rfl ?_
    refine SOps.assign rfl ?_
    refine SOps.assign rfl ?_
    refine SOps.nil ?_
    refine SCode.seqR ?_
    refine SOps.move rfl ?_
    refine SOps.move rfl ?_
    refine SOps.bin rfl rfl rfl ?_
    refine SOps.move rfl ?_
    refine SOps.caseB 38 rfl (fun hb2 => ?_) (fun hb2 => ?_)
    · try simp only [decide_eq_true_eq, decide_eq_false_iff_not, Bool.not_eq_true', Bool.not_eq_false', beq_iff_eq, bne_iff_ne, ne_eq, beq_eq_false_iff_ne, bne_eq_false_iff_eq, Int.not_lt, Int.not_le, Nat.not_lt, Nat.not_le, Int.ofNat_lt, Int.ofNat_le, Bool.not_eq_eq_eq_not, Bool.not_true, Bool.not_false] at hb2
      refine SOps.move rfl ?_
      refine SOps.move rfl ?_
      refine SOps.callP (r1Same _ _) rfl ?_
      rintro _ rfl
      refine SOps.pick rfl rfl ?_
      refine SOps.assign rfl ?_
      refine SOps.nil ?_
      refine SCode.ret ?_
      exact ⟨_, Res.one (.tmp rfl), congrArg (fun b => DV.v (.bool b)) (by rw [splitA_eq]; simp), rfl⟩
    · try simp only [decide_eq_true_eq, decide_eq_false_iff_not, Bool.not_eq_true', Bool.not_eq_false', beq_iff_eq, bne_iff_ne, ne_eq, beq_eq_false_iff_ne, bne_eq_false_iff_eq, Int.not_lt, Int.not_le, Nat.not_lt, Nat.not_le, Int.ofNat_lt, Int.ofNat_le, Bool.not_eq_eq_eq_not, Bool.not_true, Bool.not_false] at hb2
      exact absurd hb2 (by simp)
theorem lawPoints (hV : VS E) (hA : AW E) (a : List Letter) (ons : List (List Int)) (ml mr : Int) (s : ByteArray)  : GCall Tryd.prog E 10 [DLs a, DP ons ml mr, .v (.string s)] [] (fun d H => d = .v (.bool true) ∧ H = []) := by
  refine GCall.body (C := ⟨Tryd.prog, E, true⟩) Tryd.func10 rfl (fun _ => rfl) (by kernel_rfl) rfl ?_
  refine SCode.seqR ?_
  refine SOps.boxAM rfl rfl ?_
  refine SOps.assign rfl ?_
  refine SOps.nil ?_
  refine SCode.seq ?_
  refine SCode.seqR ?_
  refine SOps.callP hA rfl ?_
  rintro _ rfl
  refine SOps.un rfl rfl ?_
  refine SOps.move rfl ?_
  refine SOps.move rfl ?_
  refine SOps.loadPinA rfl aggB_24_3 (Nat.le_of_ble_eq_true rfl) ?_
  refine SOps.move rfl ?_
  refine SOps.callP (lFew _ _ _ _ _) rfl ?_
  rintro _ rfl
  refine SOps.un rfl rfl ?_
  refine SOps.pick rfl rfl ?_
  refine SOps.nil ?_
  refine SCode.cond rfl (fun hc1 => ?_) (fun hc1 => ?_)
  · try simp only [decide_eq_true_eq, decide_eq_false_iff_not, Bool.not_eq_true', Bool.not_eq_false', beq_iff_eq, bne_iff_ne, ne_eq, beq_eq_false_iff_ne, bne_eq_false_iff_eq, Int.not_lt, Int.not_le, Nat.not_lt, Nat.not_le, Int.ofNat_lt, Int.ofNat_le, Bool.not_eq_eq_eq_not, Bool.not_true, Bool.not_false] at hc1
    refine SCode.seqR ?_
    refine SOps.callP hA rfl ?_
    rintro _ rfl
    refine SOps.assign rfl ?_
    refine SOps.nil ?_
    refine SCode.ret ?_
    exact ⟨_, Res.one (.tmp rfl), rfl, rfl⟩
  · try simp only [decide_eq_true_eq, decide_eq_false_iff_not, Bool.not_eq_true', Bool.not_eq_false', beq_iff_eq, bne_iff_ne, ne_eq, beq_eq_false_iff_ne, bne_eq_false_iff_eq, Int.not_lt, Int.not_le, Nat.not_lt, Nat.not_le, Int.ofNat_lt, Int.ofNat_le, Bool.not_eq_eq_eq_not, Bool.not_true, Bool.not_false] at hc1
    have hfew := fewA_spec hc1
    refine SCode.skip ?_
    show SCode _ _ _ _
    refine SCode.seqR ?_
    refine SOps.move rfl ?_
    refine SOps.loadPinA rfl aggB_24_3 (Nat.le_of_ble_eq_true rfl) ?_
    refine SOps.move rfl ?_
    refine SOps.callP (sPoints hV _ _ _ _ _ (by omega)) rfl ?_
    rintro _ rfl
    refine SOps.move rfl ?_
    refine SOps.extract rfl rfl ?_
    refine SOps.extract rfl rfl ?_
    refine SOps.assign rfl ?_
    refine SOps.assign rfl ?_
    refine SOps.nil ?_
    refine SCode.seqR ?_
    refine SOps.move rfl ?_
    refine SOps.loadPinA rfl aggB_24_3 (Nat.le_of_ble_eq_true rfl) ?_
    refine SOps.move rfl ?_
    refine SOps.callP (rPoints _ _ _ _ _ (by omega)) rfl ?_
    rintro _ rfl
    refine SOps.move rfl ?_
    refine SOps.extract rfl rfl ?_
    refine SOps.extract rfl rfl ?_
    refine SOps.assign rfl ?_
    refine SOps.assign rfl ?_
    refine SOps.nil ?_
    refine SCode.seqR ?_
    refine SOps.move rfl ?_
    refine SOps.move rfl ?_
    refine SOps.bin rfl rfl rfl ?_
    refine SOps.move rfl ?_
    refine SOps.caseB 38 rfl (fun hb2 => ?_) (fun hb2 => ?_)
    · try simp only [decide_eq_true_eq, decide_eq_false_iff_not, Bool.not_eq_true', Bool.not_eq_false', beq_iff_eq, bne_iff_ne, ne_eq, beq_eq_false_iff_ne, bne_eq_false_iff_eq, Int.not_lt, Int.not_le, Nat.not_lt, Nat.not_le, Int.ofNat_lt, Int.ofNat_le, Bool.not_eq_eq_eq_not, Bool.not_true, Bool.not_false] at hb2
      refine SOps.move rfl ?_
      refine SOps.move rfl ?_
      refine SOps.callP (rIntsN _ _) rfl ?_
      rintro _ rfl
      refine SOps.pick rfl rfl ?_
      refine SOps.assign rfl ?_
      refine SOps.nil ?_
      refine SCode.ret ?_
      exact ⟨_, Res.one (.tmp rfl), congrArg (fun b => DV.v (.bool b)) (by rw [points_eq]; simp), rfl⟩
    · try simp only [decide_eq_true_eq, decide_eq_false_iff_not, Bool.not_eq_true', Bool.not_eq_false', beq_iff_eq, bne_iff_ne, ne_eq, beq_eq_false_iff_ne, bne_eq_false_iff_eq, Int.not_lt, Int.not_le, Nat.not_lt, Nat.not_le, Int.ofNat_lt, Int.ofNat_le, Bool.not_eq_eq_eq_not, Bool.not_true, Bool.not_false] at hb2
      exact absurd hb2 (by simp)
theorem lawMore (hA : AW E) (a : List Letter) (ons : List (List Int)) (ml mr : Int) (ms : List Int) (s : ByteArray)  : GCall Tryd.prog E 6 [DLs a, DP ons ml mr, DMasks ms, .v (.string s)] [] (fun d H => d = .v (.bool true) ∧ H = []) := by
  refine GCall.body (C := ⟨Tryd.prog, E, true⟩) Tryd.func6 rfl (fun _ => rfl) (by kernel_rfl) rfl ?_
  refine SCode.seqR ?_
  refine SOps.boxAM rfl rfl ?_
  refine SOps.assign rfl ?_
  refine SOps.nil ?_
  refine SCode.seq ?_
  refine SCode.seqR ?_
  refine SOps.callP hA rfl ?_
  rintro _ rfl
  refine SOps.un rfl rfl ?_
  refine SOps.move rfl ?_
  refine SOps.move rfl ?_
  refine SOps.loadPinA rfl aggB_24_3 (Nat.le_of_ble_eq_true rfl) ?_
  refine SOps.move rfl ?_
  refine SOps.callP (lFew _ _ _ _ _) rfl ?_
  rintro _ rfl
  refine SOps.un rfl rfl ?_
  refine SOps.pick rfl rfl ?_
  refine SOps.move rfl ?_
  refine SOps.caseB 20 rfl (fun hb1 => ?_) (fun hb1 => ?_)
  · try simp only [decide_eq_true_eq, decide_eq_false_iff_not, Bool.not_eq_true', Bool.not_eq_false', beq_iff_eq, bne_iff_ne, ne_eq, beq_eq_false_iff_ne, bne_eq_false_iff_eq, Int.not_lt, Int.not_le, Nat.not_lt, Nat.not_le, Int.ofNat_lt, Int.ofNat_le, Bool.not_eq_eq_eq_not, Bool.not_true, Bool.not_false] at hb1
    refine SOps.skip rfl ?_
    refine SOps.skip rfl ?_
    refine SOps.skip rfl ?_
    refine SOps.pick rfl rfl ?_
    refine SOps.nil ?_
    refine SCode.cond rfl (fun _ => ?_) (fun h => by cases h)
    refine SCode.seqR ?_
    refine SOps.callP hA rfl ?_
    rintro _ rfl
    refine SOps.assign rfl ?_
    refine SOps.nil ?_
    refine SCode.ret ?_
    exact ⟨_, Res.one (.tmp rfl), rfl, rfl⟩
  · try simp only [decide_eq_true_eq, decide_eq_false_iff_not, Bool.not_eq_true', Bool.not_eq_false', beq_iff_eq, bne_iff_ne, ne_eq, beq_eq_false_iff_ne, bne_eq_false_iff_eq, Int.not_lt, Int.not_le, Nat.not_lt, Nat.not_le, Int.ofNat_lt, Int.ofNat_le, Bool.not_eq_eq_eq_not, Bool.not_true, Bool.not_false] at hb1
    have hfew := fewA_spec hb1
    refine SOps.move rfl ?_
    refine SOps.lenM rfl sliceB_33_49_1 ?_
    refine SOps.bin rfl rfl rfl ?_
    refine SOps.pick rfl rfl ?_
    refine SOps.nil ?_
    refine SCode.cond rfl (fun hc2 => ?_) (fun hc2 => ?_)
    · try simp only [decide_eq_true_eq, decide_eq_false_iff_not, Bool.not_eq_true', Bool.not_eq_false', beq_iff_eq, bne_iff_ne, ne_eq, beq_eq_false_iff_ne, bne_eq_false_iff_eq, Int.not_lt, Int.not_le, Nat.not_lt, Nat.not_le, Int.ofNat_lt, Int.ofNat_le, Bool.not_eq_eq_eq_not, Bool.not_true, Bool.not_false] at hc2
      refine SCode.seqR ?_
      refine SOps.callP hA rfl ?_
      rintro _ rfl
      refine SOps.assign rfl ?_
      refine SOps.nil ?_
      refine SCode.ret ?_
      exact ⟨_, Res.one (.tmp rfl), rfl, rfl⟩
    · try simp only [decide_eq_true_eq, decide_eq_false_iff_not, Bool.not_eq_true', Bool.not_eq_false', beq_iff_eq, bne_iff_ne, ne_eq, beq_eq_false_iff_ne, bne_eq_false_iff_eq, Int.not_lt, Int.not_le, Nat.not_lt, Nat.not_le, Int.ofNat_lt, Int.ofNat_le, Bool.not_eq_eq_eq_not, Bool.not_true, Bool.not_false] at hc2
      refine SCode.skip ?_
      show SCode _ _ _ _
      refine SCode.seqR ?_
      refine SOps.litO sliceB_22_33_1 zeroIs_33 rfl (fun b0 hb_0 => ?_)
      refine SOps.fieldPin rfl fieldB_24_0_0 ?_
      refine SOps.loadPin rfl flatB_22 ?_
      refine SOps.appendOwnE 0 sliceB_22_33_1 elemB_33_1_24 rfl rfl rfl rfl SrcD.isl (by simp [lenB]; omega) (by simp; omega) (fun b9 => ?_)
      refine SOps.move rfl ?_
      refine SOps.litF rfl sliceB_22_33_1 zeroIs_33 rfl ?_
      refine SOps.appendOwnE 0 sliceB_22_33_1 elemB_33_1_24 rfl rfl rfl (by simp) SrcD.isl (by simp [lenB]; omega) (by simp; omega) (fun b10 => ?_)
      refine SOps.freezeS (t := 32) 0 rfl rfl rfl (by simp) ?_
      refine SOps.reSlot (t := 32) rfl (show _ = DOns (ons ++ [ms]) from by show DV.isl _ _ (([] ++ ons.map encO) ++ [encO ms]) = _; rw [List.nil_append, DOns, List.map_append]; rfl) ?_
      refine SOps.buildM placesB_24 zeroIs_24 rfl rfl ?_
      refine SOps.alloc (sz := 3) zeroIs_24 (fun b1 hb_1 => ?_)
      refine SOps.storeAM 0 rfl rfl aggB_24_3 rfl ?_
      refine SOps.freezeRef (t := 9) 0 0 rfl rfl rfl rfl rfl ?_
      refine SOps.nil ?_
      refine SCode.seqR ?_
      refine SOps.move rfl ?_
      refine SOps.litF rfl sliceB_22_33_1 zeroIs_33 rfl ?_
      refine SOps.buildM placesB_24 zeroIs_24 rfl rfl ?_
      refine SOps.alloc (sz := 3) zeroIs_24 (fun b2 hb_2 => ?_)
      refine SOps.storeAM 0 rfl rfl aggB_24_3 rfl ?_
      refine SOps.freezeRef (t := 10) 0 0 rfl rfl rfl rfl rfl ?_
      refine SOps.nil ?_
      refine SCode.seq ?_
      refine SCode.weaken (st' := (⟨52, [(0, DLs a), (3, .v (.string s)), (5, .ipin [DOns ons, .v (.int .i64 ml), .v (.int .i64 mr)]), (9, .ipin [DOns (ons ++ [ms]), .v (.int .i64 1), .v (.int .i64 1)]), (10, .ipin [DOns [ms], .v (.int .i64 1), .v (.int .i64 1)])], []⟩ : St)) (St.Le.of ⟨rfl, rfl, rfl, rfl, rfl, trivial⟩) ?_
      rcases hcase : onset a ons s with _ | _
      · refine SCode.drawPure mixed_ [(37, DLs a), (38, DP (ons ++ [ms]) 1 1), (39, .v (.string s)), (40, .v (.bool (onset a (ons ++ [ms]) s))), (41, DLs a), (42, DP ons ml mr), (43, .v (.string s)), (44, .v (.bool false)), (45, .v (.bool false)), (46, DLs a), (47, DP [ms] 1 1), (48, .v (.string s)), (49, .v (.bool (onset a [ms] s))), (50, .v (.bool (onset a [ms] s))), (51, .v (.bool (onset a (ons ++ [ms]) s == onset a [ms] s))), (8, .v (.bool true))] [37, 38, 39, 40, 41, 42, 43, 44, 45, 46, 47, 48, 49, 50, 51, 8] [[.inr 0], [.inr 9], [.inr 3], [.inl 0, .inl 1, .inl 2], [.inr 0], [.inr 5], [.inr 3], [.inl 4, .inl 5, .inl 6], [.inl 7], [.inl 8, .inr 0], [.inl 8, .inr 10], [.inl 8, .inr 3], [.inl 8, .inl 9, .inl 10, .inl 11], [.inl 8, .inl 12], [.inl 3, .inl 13], [.inl 14]] [[(0, DLs a)], [(9, .ipin [DOns (ons ++ [ms]), .v (.int .i64 1), .v (.int .i64 1)])], [(3, .v (.string s))], [(37, DLs a), (38, DP (ons ++ [ms]) 1 1), (39, .v (.string s))], [(0, DLs a)], [(5, .ipin [DOns ons, .v (.int .i64 ml), .v (.int .i64 mr)])], [(3, .v (.string s))], [(41, DLs a), (42, DP ons ml mr), (43, .v (.string s))], [(44, .v (.bool false))], [(45, .v (.bool false)), (0, DLs a)], [(45, .v (.bool false)), (10, .ipin [DOns [ms], .v (.int .i64 1), .v (.int .i64 1)])], [(45, .v (.bool false)), (3, .v (.string s))], [(45, .v (.bool false)), (46, DLs a), (47, DP [ms] 1 1), (48, .v (.string s))], [(45, .v (.bool false)), (49, .v (.bool (onset a [ms] s)))], [(40, .v (.bool (onset a (ons ++ [ms]) s))), (50, .v (.bool (onset a [ms] s)))], [(51, .v (.bool (onset a (ons ++ [ms]) s == onset a [ms] s)))]] rfl (by kernel_rfl) (by kernel_rfl) rfl ?_ ?_
        · refine OpsOk.cons (fun rest => ?_) ?_
          · refine SOps.move rfl ?_
            exact SOps.nil (by first | rfl | simp_all)
          refine OpsOk.cons (fun rest => ?_) ?_
          · refine SOps.loadPinA rfl aggB_24_3 (Nat.le_of_ble_eq_true rfl) ?_
            exact SOps.nil (by first | rfl | simp_all)
          refine OpsOk.cons (fun rest => ?_) ?_
          · refine SOps.move rfl ?_
            exact SOps.nil (by first | rfl | simp_all)
          refine OpsOk.cons (fun rest => ?_) ?_
          · refine SOps.callP (sOnset _ _ _ _ _ (by omega)) rfl ?_
            rintro _ rfl
            exact SOps.nil (by first | rfl | simp_all)
          refine OpsOk.cons (fun rest => ?_) ?_
          · refine SOps.move rfl ?_
            exact SOps.nil (by first | rfl | simp_all)
          refine OpsOk.cons (fun rest => ?_) ?_
          · refine SOps.loadPinA rfl aggB_24_3 (Nat.le_of_ble_eq_true rfl) ?_
            exact SOps.nil (by first | rfl | simp_all)
          refine OpsOk.cons (fun rest => ?_) ?_
          · refine SOps.move rfl ?_
            exact SOps.nil (by first | rfl | simp_all)
          refine OpsOk.cons (fun rest => ?_) ?_
          · refine SOps.callP (sOnset _ _ _ _ _ (by omega)) rfl ?_
            rintro _ rfl
            exact SOps.nil (by simp only [hcase]; rfl)
          refine OpsOk.cons (fun rest => ?_) ?_
          · refine SOps.move rfl ?_
            exact SOps.nil (by first | rfl | simp_all)
          refine OpsOk.cons (fun rest => ?_) ?_
          · refine SOps.move rfl ?_
            exact SOps.nil (by first | rfl | simp_all)
          refine OpsOk.cons (fun rest => ?_) ?_
          · refine SOps.loadPinA rfl aggB_24_3 (Nat.le_of_ble_eq_true rfl) ?_
            exact SOps.nil (by first | rfl | simp_all)
          refine OpsOk.cons (fun rest => ?_) ?_
          · refine SOps.move rfl ?_
            exact SOps.nil (by first | rfl | simp_all)
          refine OpsOk.cons (fun rest => ?_) ?_
          · refine SOps.callP (sOnset _ _ _ _ _ (by omega)) rfl ?_
            rintro _ rfl
            exact SOps.nil (by first | rfl | simp_all)
          refine OpsOk.cons (fun rest => ?_) ?_
          · refine SOps.pick rfl rfl ?_
            exact SOps.nil (by first | rfl | simp_all)
          refine OpsOk.cons (fun rest => ?_) ?_
          · refine SOps.boolEq rfl rfl boolTy_4 ?_
            exact SOps.nil (by first | rfl | simp_all)
          refine OpsOk.cons (fun rest => ?_) ?_
          · refine SOps.assign rfl ?_
            exact SOps.nil (by rw [onset_more, hcase, Bool.false_or, beq_self_eq_true]; rfl)
          exact OpsOk.nil
        · show SCode _ _ _ _
          refine SCode.drop ?_
          refine SCode.ret ?_
          exact ⟨_, Res.one (.tmp rfl), rfl, rfl⟩
      · refine SCode.drawPure mixed_ [(37, DLs a), (38, DP (ons ++ [ms]) 1 1), (39, .v (.string s)), (40, .v (.bool (onset a (ons ++ [ms]) s))), (41, DLs a), (42, DP ons ml mr), (43, .v (.string s)), (44, .v (.bool true)), (45, .v (.bool true)), (46, .v (.tuple #[])), (47, .v (.tuple #[])), (48, .v (.tuple #[])), (49, .v (.tuple #[])), (50, .v (.bool true)), (51, .v (.bool (onset a (ons ++ [ms]) s == true))), (8, .v (.bool true))] [37, 38, 39, 40, 41, 42, 43, 44, 45, 46, 47, 48, 49, 50, 51, 8] [[.inr 0], [.inr 9], [.inr 3], [.inl 0, .inl 1, .inl 2], [.inr 0], [.inr 5], [.inr 3], [.inl 4, .inl 5, .inl 6], [.inl 7], [.inl 8], [.inl 8], [.inl 8], [.inl 8], [.inl 8, .inl 12], [.inl 3, .inl 13], [.inl 14]] [[(0, DLs a)], [(9, .ipin [DOns (ons ++ [ms]), .v (.int .i64 1), .v (.int .i64 1)])], [(3, .v (.string s))], [(37, DLs a), (38, DP (ons ++ [ms]) 1 1), (39, .v (.string s))], [(0, DLs a)], [(5, .ipin [DOns ons, .v (.int .i64 ml), .v (.int .i64 mr)])], [(3, .v (.string s))], [(41, DLs a), (42, DP ons ml mr), (43, .v (.string s))], [(44, .v (.bool true))], [(45, .v (.bool true))], [(45, .v (.bool true))], [(45, .v (.bool true))], [(45, .v (.bool true))], [(45, .v (.bool true)), (49, .v (.tuple #[]))], [(40, .v (.bool (onset a (ons ++ [ms]) s))), (50, .v (.bool true))], [(51, .v (.bool (onset a (ons ++ [ms]) s == true)))]] rfl (by kernel_rfl) (by kernel_rfl) rfl ?_ ?_
        · refine OpsOk.cons (fun rest => ?_) ?_
          · refine SOps.move rfl ?_
            exact SOps.nil (by first | rfl | simp_all)
          refine OpsOk.cons (fun rest => ?_) ?_
          · refine SOps.loadPinA rfl aggB_24_3 (Nat.le_of_ble_eq_true rfl) ?_
            exact SOps.nil (by first | rfl | simp_all)
          refine OpsOk.cons (fun rest => ?_) ?_
          · refine SOps.move rfl ?_
            exact SOps.nil (by first | rfl | simp_all)
          refine OpsOk.cons (fun rest => ?_) ?_
          · refine SOps.callP (sOnset _ _ _ _ _ (by omega)) rfl ?_
            rintro _ rfl
            exact SOps.nil (by first | rfl | simp_all)
          refine OpsOk.cons (fun rest => ?_) ?_
          · refine SOps.move rfl ?_
            exact SOps.nil (by first | rfl | simp_all)
          refine OpsOk.cons (fun rest => ?_) ?_
          · refine SOps.loadPinA rfl aggB_24_3 (Nat.le_of_ble_eq_true rfl) ?_
            exact SOps.nil (by first | rfl | simp_all)
          refine OpsOk.cons (fun rest => ?_) ?_
          · refine SOps.move rfl ?_
            exact SOps.nil (by first | rfl | simp_all)
          refine OpsOk.cons (fun rest => ?_) ?_
          · refine SOps.callP (sOnset _ _ _ _ _ (by omega)) rfl ?_
            rintro _ rfl
            exact SOps.nil (by simp only [hcase]; rfl)
          refine OpsOk.cons (fun rest => ?_) ?_
          · refine SOps.move rfl ?_
            exact SOps.nil (by first | rfl | simp_all)
          refine OpsOk.cons (fun rest => ?_) ?_
          · refine SOps.skip rfl ?_
            exact SOps.nil (by first | rfl | simp_all)
          refine OpsOk.cons (fun rest => ?_) ?_
          · refine SOps.skip rfl ?_
            exact SOps.nil (by first | rfl | simp_all)
          refine OpsOk.cons (fun rest => ?_) ?_
          · refine SOps.skip rfl ?_
            exact SOps.nil (by first | rfl | simp_all)
          refine OpsOk.cons (fun rest => ?_) ?_
          · refine SOps.skip rfl ?_
            exact SOps.nil (by first | rfl | simp_all)
          refine OpsOk.cons (fun rest => ?_) ?_
          · refine SOps.pick rfl rfl ?_
            exact SOps.nil (by first | rfl | simp_all)
          refine OpsOk.cons (fun rest => ?_) ?_
          · refine SOps.boolEq rfl rfl boolTy_4 ?_
            exact SOps.nil (by first | rfl | simp_all)
          refine OpsOk.cons (fun rest => ?_) ?_
          · refine SOps.assign rfl ?_
            exact SOps.nil (by rw [onset_more, hcase, Bool.true_or]; rfl)
          exact OpsOk.nil
        · show SCode _ _ _ _
          refine SCode.drop ?_
          refine SCode.ret ?_
          exact ⟨_, Res.one (.tmp rfl), rfl, rfl⟩
end Go.GH
