/-
  The walks of Apply, Trace, Cascade and of the laws on rules. No conditions.
-/
import Derived.Test.YtjcihlpjlpackaaDoorQb
set_option linter.unusedVariables false
set_option linter.unusedSimpArgs false
namespace Go.GH
open Go Go.Proofs
variable {E : Env}
theorem elemB_9_1_16 : elemB Tryd.prog 9 1 16 = true := by kernel_rfl
theorem placesB_25 : placesB Tryd.prog 25 [(0, 1), (1, 1), (2, 1), (3, 1), (4, 1), (5, 1)] = true := by kernel_rfl
theorem placesB_50 : placesB Tryd.prog 50 [(0, 1), (1, 1)] = true := by kernel_rfl
theorem placesB_52 : placesB Tryd.prog 52 [(0, 1), (1, 1), (2, 1), (3, 1)] = true := by kernel_rfl
theorem sliceB_36_25_6 : sliceB Tryd.prog 36 25 6 = true := by kernel_rfl
theorem someB_21 : (Tryd.prog.underlying 21).isSome = true := by kernel_rfl
theorem zeroIs_25 : zeroIs Tryd.prog 25 (.agg #[.int .i32 0, .string .empty, .slice none 0 0, .slice none 0 0, .bool false, .bool false]) := by unfold zeroIs; kernel_rfl
theorem zeroIs_9 : zeroIs Tryd.prog 9 (.string .empty) := by unfold zeroIs; kernel_rfl
theorem rApply (hV : VS E) (a : List Letter) (r : Rule) (s : ByteArray) (hr : SmR r) (hs : s.size ≤ 1048576) : GCall Tryd.prog E 19 [DLs a, .agg (encR r), .v (.string s)] [] (fun d H => d = tupA (applyR a r s) ∧ H = []) := by
  refine GCall.body (C := ⟨Tryd.prog, E, true⟩) Tryd.func19 rfl (fun _ => rfl) (by kernel_rfl) rfl ?_
  refine SCode.seqR ?_
  refine SOps.boxAM rfl rfl ?_
  refine SOps.assign rfl ?_
  refine SOps.assign rfl ?_
  refine SOps.nil ?_
  refine SCode.seq ?_
  refine SCode.seqR ?_
  refine SOps.move rfl ?_
  refine SOps.loadPinA rfl aggB_25_6 (Nat.le_of_ble_eq_true rfl) ?_
  refine SOps.callP (rValid hV _ _ (by assumption)) rfl ?_
  rintro _ rfl
  refine SOps.un rfl rfl ?_
  refine SOps.move rfl ?_
  refine SOps.caseB 13 rfl (fun hb1 => ?_) (fun hb1 => ?_)
  · try simp only [decide_eq_true_eq, decide_eq_false_iff_not, Bool.not_eq_true', Bool.not_eq_false', beq_iff_eq, bne_iff_ne, ne_eq, beq_eq_false_iff_ne, bne_eq_false_iff_eq, Int.not_lt, Int.not_le, Nat.not_lt, Nat.not_le, Int.ofNat_lt, Int.ofNat_le, Bool.not_eq_eq_eq_not, Bool.not_true, Bool.not_false] at hb1
    refine SOps.skip rfl ?_
    refine SOps.skip rfl ?_
    refine SOps.skip rfl ?_
    refine SOps.skip rfl ?_
    refine SOps.pick rfl rfl ?_
    refine SOps.nil ?_
    refine SCode.cond rfl (fun _ => ?_) (fun h => by cases h)
    refine SCode.seqR ?_
    refine SOps.assign rfl ?_
    refine SOps.assign rfl ?_
    refine SOps.nil ?_
    refine SCode.ret ?_
    exact ⟨_, Res.two (.tmp rfl) (.tmp rfl), (by unfold applyR resX; rw [if_neg (by simp_all [okR])]; rfl), rfl⟩
  · try simp only [decide_eq_true_eq, decide_eq_false_iff_not, Bool.not_eq_true', Bool.not_eq_false', beq_iff_eq, bne_iff_ne, ne_eq, beq_eq_false_iff_ne, bne_eq_false_iff_eq, Int.not_lt, Int.not_le, Nat.not_lt, Nat.not_le, Int.ofNat_lt, Int.ofNat_le, Bool.not_eq_eq_eq_not, Bool.not_true, Bool.not_false] at hb1
    refine SOps.move rfl ?_
    refine SOps.move rfl ?_
    refine SOps.callP (lIsWord hV _ _) rfl ?_
    rintro _ rfl
    refine SOps.un rfl rfl ?_
    refine SOps.pick rfl rfl ?_
    refine SOps.nil ?_
    refine SCode.cond rfl (fun hc2 => ?_) (fun hc2 => ?_)
    · try simp only [decide_eq_true_eq, decide_eq_false_iff_not, Bool.not_eq_true', Bool.not_eq_false', beq_iff_eq, bne_iff_ne, ne_eq, beq_eq_false_iff_ne, bne_eq_false_iff_eq, Int.not_lt, Int.not_le, Nat.not_lt, Nat.not_le, Int.ofNat_lt, Int.ofNat_le, Bool.not_eq_eq_eq_not, Bool.not_true, Bool.not_false] at hc2
      refine SCode.seqR ?_
      refine SOps.assign rfl ?_
      refine SOps.assign rfl ?_
      refine SOps.nil ?_
      refine SCode.ret ?_
      exact ⟨_, Res.two (.tmp rfl) (.tmp rfl), (by unfold applyR resX; rw [if_neg (by simp_all [okR])]; rfl), rfl⟩
    · try simp only [decide_eq_true_eq, decide_eq_false_iff_not, Bool.not_eq_true', Bool.not_eq_false', beq_iff_eq, bne_iff_ne, ne_eq, beq_eq_false_iff_ne, bne_eq_false_iff_eq, Int.not_lt, Int.not_le, Nat.not_lt, Nat.not_le, Int.ofNat_lt, Int.ofNat_le, Bool.not_eq_eq_eq_not, Bool.not_true, Bool.not_false] at hc2
      refine SCode.skip ?_
      show SCode _ _ _ _
      refine SCode.seq ?_
      have hok : okR a r s = true := by simp_all [okR]
      obtain ⟨h4, h40, hu8⟩ := okR_to hok
      refine SCode.drawPure mixed_ [(19, .agg (encR r)), (20, DLs a), (21, .agg (encR r)), (22, .v (.string s)), (23, DNats (sitesR a r s)), (24, .v (.string s)), (25, .v (.string (encs (resF r.fr (runes r.to) (runes s) 0 (sitesR a r s))))), (8, .v (.string (encs (resF r.fr (runes r.to) (runes s) 0 (sitesR a r s)))))] [19, 20, 21, 22, 23, 24, 25, 8] [[.inr 4], [.inr 0], [.inr 4], [.inr 2], [.inl 1, .inl 2, .inl 3], [.inr 2], [.inl 0, .inl 4, .inl 5], [.inl 6]] [[(4, .ipin (encR r))], [(0, DLs a)], [(4, .ipin (encR r))], [(2, .v (.string s))], [(20, DLs a), (21, .agg (encR r)), (22, .v (.string s))], [(2, .v (.string s))], [(19, .agg (encR r)), (23, DNats (sitesR a r s)), (24, .v (.string s))], [(25, .v (.string (encs (resF r.fr (runes r.to) (runes s) 0 (sitesR a r s)))))]] rfl (by kernel_rfl) (by kernel_rfl) rfl ?_ ?_
      · refine OpsOk.cons (fun rest => ?_) ?_
        · refine SOps.loadPinA rfl aggB_25_6 (Nat.le_of_ble_eq_true rfl) ?_
          exact SOps.nil (by first | rfl | simp_all)
        refine OpsOk.cons (fun rest => ?_) ?_
        · refine SOps.move rfl ?_
          exact SOps.nil (by first | rfl | simp_all)
        refine OpsOk.cons (fun rest => ?_) ?_
        · refine SOps.loadPinA rfl aggB_25_6 (Nat.le_of_ble_eq_true rfl) ?_
          exact SOps.nil (by first | rfl | simp_all)
        refine OpsOk.cons (fun rest => ?_) ?_
        · refine SOps.move rfl ?_
          exact SOps.nil (by first | rfl | simp_all)
        refine OpsOk.cons (fun rest => ?_) ?_
        · refine SOps.callP (rSites hV _ _ _ hr hs) rfl ?_
          rintro _ rfl
          exact SOps.nil (by first | rfl | simp_all)
        refine OpsOk.cons (fun rest => ?_) ?_
        · refine SOps.move rfl ?_
          exact SOps.nil (by first | rfl | simp_all)
        refine OpsOk.cons (fun rest => ?_) ?_
        · refine SOps.callP (rResult _ _ _ h4 h40) rfl ?_
          rintro _ rfl
          exact SOps.nil (by first | rfl | simp_all)
        refine OpsOk.cons (fun rest => ?_) ?_
        · refine SOps.assign rfl ?_
          exact SOps.nil (by first | rfl | simp_all)
        exact OpsOk.nil
      · show SCode _ _ _ _
        refine SCode.seq ?_
        refine SCode.seqR ?_
        refine SOps.move rfl ?_
        refine SOps.callP (uRuneCount _) rfl ?_
        rintro _ rfl
        refine SOps.bin rfl rfl rfl ?_
        refine SOps.nil ?_
        refine SCode.cond rfl (fun hc3 => ?_) (fun hc3 => ?_)
        · try simp only [decide_eq_true_eq, decide_eq_false_iff_not, Bool.not_eq_true', Bool.not_eq_false', beq_iff_eq, bne_iff_ne, ne_eq, beq_eq_false_iff_ne, bne_eq_false_iff_eq, Int.not_lt, Int.not_le, Nat.not_lt, Nat.not_le, Int.ofNat_lt, Int.ofNat_le, Bool.not_eq_eq_eq_not, Bool.not_true, Bool.not_false] at hc3
          refine SCode.seqR ?_
          refine SOps.assign rfl ?_
          refine SOps.assign rfl ?_
          refine SOps.nil ?_
          refine SCode.ret ?_
          exact ⟨_, Res.two (.tmp rfl) (.tmp rfl), (by unfold applyR resX; rw [if_pos hok, if_pos (by omega)]; rfl), rfl⟩
        · try simp only [decide_eq_true_eq, decide_eq_false_iff_not, Bool.not_eq_true', Bool.not_eq_false', beq_iff_eq, bne_iff_ne, ne_eq, beq_eq_false_iff_ne, bne_eq_false_iff_eq, Int.not_lt, Int.not_le, Nat.not_lt, Nat.not_le, Int.ofNat_lt, Int.ofNat_le, Bool.not_eq_eq_eq_not, Bool.not_true, Bool.not_false] at hc3
          refine SCode.skip ?_
          show SCode _ _ _ _
          refine SCode.seqR ?_
          refine SOps.move rfl ?_
          refine SOps.assign rfl ?_
          refine SOps.assign rfl ?_
          refine SOps.nil ?_
          refine SCode.ret ?_
          exact ⟨_, Res.two (.tmp rfl) (.tmp rfl), (by unfold applyR resX; rw [if_pos hok, if_neg (by omega)]; rfl), rfl⟩
theorem qApply (hV : VS E) (a : List Letter) (r : Rule) (s : ByteArray) (hr : SmR r) (hs : s.size ≤ 1048576) : GCall Tryd.prog E 20 [DLs a, .agg (encR r), .v (.string s)] [] (fun d H => d = tupA (applyQ a r s) ∧ H = []) := by
  refine GCall.body (C := ⟨Tryd.prog, E, true⟩) Tryd.func20 rfl (fun _ => rfl) (by kernel_rfl) rfl ?_
  refine SCode.seqR ?_
  refine SOps.boxAM rfl rfl ?_
  refine SOps.assign rfl ?_
  refine SOps.assign rfl ?_
  refine SOps.nil ?_
  refine SCode.seq ?_
  refine SCode.seqR ?_
  refine SOps.move rfl ?_
  refine SOps.loadPinA rfl aggB_25_6 (Nat.le_of_ble_eq_true rfl) ?_
  refine SOps.callP (qValid hV _ _) rfl ?_
  rintro _ rfl
  refine SOps.un rfl rfl ?_
  refine SOps.move rfl ?_
  refine SOps.caseB 18 rfl (fun hb1 => ?_) (fun hb1 => ?_)
  · try simp only [decide_eq_true_eq, decide_eq_false_iff_not, Bool.not_eq_true', Bool.not_eq_false', beq_iff_eq, bne_iff_ne, ne_eq, beq_eq_false_iff_ne, bne_eq_false_iff_eq, Int.not_lt, Int.not_le, Nat.not_lt, Nat.not_le, Int.ofNat_lt, Int.ofNat_le, Bool.not_eq_eq_eq_not, Bool.not_true, Bool.not_false] at hb1
    refine SOps.skip rfl ?_
    refine SOps.skip rfl ?_
    refine SOps.skip rfl ?_
    refine SOps.skip rfl ?_
    refine SOps.pick rfl rfl ?_
    refine SOps.nil ?_
    refine SCode.cond rfl (fun _ => ?_) (fun h => by cases h)
    refine SCode.seqR ?_
    refine SOps.assign rfl ?_
    refine SOps.assign rfl ?_
    refine SOps.nil ?_
    refine SCode.ret ?_
    exact ⟨_, Res.two (.tmp rfl) (.tmp rfl), (by unfold applyQ resX; first | (rw [if_neg (by simp_all [okR])]; rfl) | (rw [if_pos hok, if_pos (by omega)]; rfl) | (rw [if_pos hok, if_neg (by omega)]; rfl)), rfl⟩
  · try simp only [decide_eq_true_eq, decide_eq_false_iff_not, Bool.not_eq_true', Bool.not_eq_false', beq_iff_eq, bne_iff_ne, ne_eq, beq_eq_false_iff_ne, bne_eq_false_iff_eq, Int.not_lt, Int.not_le, Nat.not_lt, Nat.not_le, Int.ofNat_lt, Int.ofNat_le, Bool.not_eq_eq_eq_not, Bool.not_true, Bool.not_false] at hb1
    refine SOps.move rfl ?_
    refine SOps.move rfl ?_
    refine SOps.callP (qWord hV _ _) rfl ?_
    rintro _ rfl
    refine SOps.un rfl rfl ?_
    refine SOps.pick rfl rfl ?_
    refine SOps.nil ?_
    refine SCode.cond rfl (fun hc2 => ?_) (fun hc2 => ?_)
    · try simp only [decide_eq_true_eq, decide_eq_false_iff_not, Bool.not_eq_true', Bool.not_eq_false', beq_iff_eq, bne_iff_ne, ne_eq, beq_eq_false_iff_ne, bne_eq_false_iff_eq, Int.not_lt, Int.not_le, Nat.not_lt, Nat.not_le, Int.ofNat_lt, Int.ofNat_le, Bool.not_eq_eq_eq_not, Bool.not_true, Bool.not_false] at hc2
      refine SCode.seqR ?_
      refine SOps.assign rfl ?_
      refine SOps.assign rfl ?_
      refine SOps.nil ?_
      refine SCode.ret ?_
      exact ⟨_, Res.two (.tmp rfl) (.tmp rfl), (by unfold applyQ resX; first | (rw [if_neg (by simp_all [okR])]; rfl) | (rw [if_pos hok, if_pos (by omega)]; rfl) | (rw [if_pos hok, if_neg (by omega)]; rfl)), rfl⟩
    · try simp only [decide_eq_true_eq, decide_eq_false_iff_not, Bool.not_eq_true', Bool.not_eq_false', beq_iff_eq, bne_iff_ne, ne_eq, beq_eq_false_iff_ne, bne_eq_false_iff_eq, Int.not_lt, Int.not_le, Nat.not_lt, Nat.not_le, Int.ofNat_lt, Int.ofNat_le, Bool.not_eq_eq_eq_not, Bool.not_true, Bool.not_false] at hc2
      refine SCode.skip ?_
      show SCode _ _ _ _
      refine SCode.seqR ?_
      refine SOps.move rfl ?_
      refine SOps.loadPinA rfl aggB_25_6 (Nat.le_of_ble_eq_true rfl) ?_
      refine SOps.move rfl ?_
      refine SOps.callP (qSites hV _ _ _ hs) rfl ?_
      rintro _ rfl
      refine SOps.assign rfl ?_
      refine SOps.nil ?_
      refine SCode.seqR ?_
      refine SOps.move rfl ?_
      refine SOps.runesF rfl rfl strB_9 sliceB_35_21_1 intB_21_i32 ?_
      refine SOps.assign rfl ?_
      refine SOps.nil ?_
      refine SCode.seqR ?_
      refine SOps.assign rfl ?_
      refine SOps.nil ?_
      refine SCode.seqR ?_
      refine SOps.assign rfl ?_
      refine SOps.nil ?_
      refine SCode.seq ?_
      refine SCode.seqR ?_
      refine SOps.assign rfl ?_
      refine SOps.nil ?_
      refine SCode.block ?_
      have hok : okR a r s = true := by simp_all [okR]
      obtain ⟨h4, h40, hu8⟩ := okR_to hok
      have hto : encs (runes r.to) = r.to := encs_runes hu8
      obtain ⟨hr1, _, _⟩ := hr
      have hll : (sitesQ a r s).length ≤ (runes s).length + 1 := by unfold sitesQ; split <;> first | exact filter_len (siteQ a r (runes s)) ((runes s).length + 1) | exact Nat.zero_le _
      refine SCode.loop3 (fun (i : Nat) (kk : Nat) (acc : ByteArray) => (⟨80, [(4, .ipin (encR r)), (8, DNats (sitesQ a r s)), (9, DRunes (runes s)), (10, .v (.string acc)), (11, .v (.int .i64 (kk : Int))), (12, .v (.int .i64 (i : Int)))], []⟩ : St)) (fun (i : Nat) (kk : Nat) (acc : ByteArray) => acc.size ≤ 1100000 * i ∧ kk ≤ (sitesQ a r s).length ∧ ((i ≤ (runes s).length ∧ acc ++ encs (resF r.fr (runes r.to) ((runes s).drop i) i ((sitesQ a r s).drop kk)) = encs (resF r.fr (runes r.to) (runes s) 0 (sitesQ a r s))) ∨ (i = (runes s).length + 1 ∧ acc = encs (resF r.fr (runes r.to) (runes s) 0 (sitesQ a r s))))) (fun (i : Nat) (kk : Nat) (acc : ByteArray) => (runes s).length + 1 - i) (0) (0) (.empty) (by exact ⟨Nat.le_refl _, Nat.zero_le _, .inl ⟨Nat.zero_le _, by rw [ByteArray.empty_append]; rfl⟩⟩) (St.Le.of ⟨(by first | rfl | (show some _ = some _; simp)), (by first | rfl | (show some _ = some _; simp)), (by first | rfl | (show some _ = some _; simp)), (by first | rfl | (show some _ = some _; simp)), (by first | rfl | (show some _ = some _; simp)), (by first | rfl | (show some _ = some _; simp)), trivial⟩ rfl (by first | rfl | (simp))) ?_
      rintro i kk acc ⟨hol, hkk, hf⟩
      refine SCode.seq ?_
      refine SCode.seqR ?_
      refine SOps.move rfl ?_
      refine SOps.move rfl ?_
      refine SOps.lenM rfl sliceB_35_21_1 ?_
      refine SOps.bin rfl rfl rfl ?_
      refine SOps.nil ?_
      refine SCode.cond rfl (fun hc3 => ?_) (fun hc3 => ?_)
      · try simp only [decide_eq_true_eq, decide_eq_false_iff_not, Bool.not_eq_true', Bool.not_eq_false', beq_iff_eq, bne_iff_ne, ne_eq, beq_eq_false_iff_ne, bne_eq_false_iff_eq, Int.not_lt, Int.not_le, Nat.not_lt, Nat.not_le, Int.ofNat_lt, Int.ofNat_le, Bool.not_eq_eq_eq_not, Bool.not_true, Bool.not_false] at hc3
        refine SCode.skip ?_
        show SCode _ _ _ _
        refine SCode.seq ?_
        refine SCode.block ?_
        refine SCode.seqR ?_
        have hf2 := (hf.resolve_right (by omega)).2
        have hdn : i = (runes s).length → (runes s).drop i = [] := fun h => List.drop_eq_nil_of_le (by omega)
        have hdc : ∀ h : i < (runes s).length, (runes s).drop i = (runes s)[i] :: (runes s).drop (i + 1) := fun h => List.drop_eq_getElem_cons h
        refine SOps.move rfl ?_
        refine SOps.move rfl ?_
        refine SOps.lenM rfl sliceB_30_3_1 ?_
        refine SOps.bin rfl rfl rfl ?_
        refine SOps.move rfl ?_
        refine SOps.caseB 40 rfl (fun hb4 => ?_) (fun hb4 => ?_)
        · try simp only [decide_eq_true_eq, decide_eq_false_iff_not, Bool.not_eq_true', Bool.not_eq_false', beq_iff_eq, bne_iff_ne, ne_eq, beq_eq_false_iff_ne, bne_eq_false_iff_eq, Int.not_lt, Int.not_le, Nat.not_lt, Nat.not_le, Int.ofNat_lt, Int.ofNat_le, Bool.not_eq_eq_eq_not, Bool.not_true, Bool.not_false] at hb4
          have hkd : (sitesQ a r s).drop kk = (sitesQ a r s)[kk] :: (sitesQ a r s).drop (kk + 1) := List.drop_eq_getElem_cons (by omega)
          refine SOps.move rfl ?_
          refine SOps.move rfl ?_
          refine SOps.indexM (kk) rfl rfl sliceB_30_3_1 (by first | omega | (simp only [lenB]; omega)) (by first | omega | (simp only [lenB]; omega)) ?_
          refine SOps.loadPin rfl flatB_3 ?_
          refine SOps.move rfl ?_
          refine SOps.bin rfl rfl rfl ?_
          refine SOps.pick rfl rfl ?_
          refine SOps.assign rfl ?_
          refine SOps.nil ?_
          refine SCode.seq ?_
          refine SCode.seqR ?_
          refine SOps.move rfl ?_
          refine SOps.nil ?_
          refine SCode.cond rfl (fun hc5 => ?_) (fun hc5 => ?_)
          · try simp only [decide_eq_true_eq, decide_eq_false_iff_not, Bool.not_eq_true', Bool.not_eq_false', beq_iff_eq, bne_iff_ne, ne_eq, beq_eq_false_iff_ne, bne_eq_false_iff_eq, Int.not_lt, Int.not_le, Nat.not_lt, Nat.not_le, Int.ofNat_lt, Int.ofNat_le, Bool.not_eq_eq_eq_not, Bool.not_true, Bool.not_false] at hc5
            have hs0 : (sitesQ a r s)[kk] = i := Int.ofNat.inj hc5
            refine SCode.seqR ?_
            refine SOps.move rfl ?_
            refine SOps.fieldPin rfl fieldB_25_1_1 ?_
            refine SOps.loadPin rfl flatB_9 ?_
            refine SOps.concat rfl rfl (by simp only [lenB, ByteArray.size_append]; first | omega | (have := encode_size ((runes s)[i]); omega)) ?_
            refine SOps.assign rfl ?_
            refine SOps.nil ?_
            refine SCode.region ?_
            refine SOps.move rfl ?_
            refine SOps.addI rfl rfl (by first | omega | (simp only [lenB]; omega)) (by first | omega | (simp only [lenB]; omega)) ?_
            refine SOps.assign rfl ?_
            refine SOps.nil ?_
            show SCode _ _ _ _
            refine SCode.seqR ?_
            refine SOps.move rfl ?_
            refine SOps.move rfl ?_
            refine SOps.lenM rfl sliceB_35_21_1 ?_
            refine SOps.bin rfl rfl rfl ?_
            refine SOps.move rfl ?_
            refine SOps.caseB 59 rfl (fun hb6 => ?_) (fun hb6 => ?_)
            · try simp only [decide_eq_true_eq, decide_eq_false_iff_not, Bool.not_eq_true', Bool.not_eq_false', beq_iff_eq, bne_iff_ne, ne_eq, beq_eq_false_iff_ne, bne_eq_false_iff_eq, Int.not_lt, Int.not_le, Nat.not_lt, Nat.not_le, Int.ofNat_lt, Int.ofNat_le, Bool.not_eq_eq_eq_not, Bool.not_true, Bool.not_false] at hb6
              refine SOps.move rfl ?_
              refine SOps.un rfl rfl ?_
              refine SOps.move rfl ?_
              refine SOps.caseB 62 rfl (fun hb7 => ?_) (fun hb7 => ?_)
              · try simp only [decide_eq_true_eq, decide_eq_false_iff_not, Bool.not_eq_true', Bool.not_eq_false', beq_iff_eq, bne_iff_ne, ne_eq, beq_eq_false_iff_ne, bne_eq_false_iff_eq, Int.not_lt, Int.not_le, Nat.not_lt, Nat.not_le, Int.ofNat_lt, Int.ofNat_le, Bool.not_eq_eq_eq_not, Bool.not_true, Bool.not_false] at hb7
                refine SOps.skip rfl ?_
                refine SOps.skip rfl ?_
                refine SOps.skip rfl ?_
                refine SOps.pick rfl rfl ?_
                refine SOps.pick rfl rfl ?_
                refine SOps.nil ?_
                refine SCode.cond rfl (fun _ => ?_) (fun h => by cases h)
                refine SCode.region ?_
                refine SOps.move rfl ?_
                refine SOps.move rfl ?_
                refine SOps.move rfl ?_
                refine SOps.indexM (i) rfl rfl sliceB_35_21_1 (by first | omega | (simp only [lenB]; omega)) (by first | omega | (simp only [lenB]; omega)) ?_
                refine SOps.loadPin rfl flatB_21 ?_
                refine SOps.convIntStr rfl someB_21 strB_9 ?_
                refine SOps.concat rfl rfl (by simp only [lenB, ByteArray.size_append]; first | omega | (have := encode_size ((runes s)[i]); omega)) ?_
                refine SOps.assign rfl ?_
                refine SOps.nil ?_
                show SCode _ _ _ _
                refine SCode.region ?_
                refine SOps.move rfl ?_
                refine SOps.addI rfl rfl (by first | omega | (simp only [lenB]; omega)) (by first | omega | (simp only [lenB]; omega)) ?_
                refine SOps.assign rfl ?_
                refine SOps.nil ?_
                first
                  | (exfalso; omega)
                  | exact ⟨i + 1, kk + 1, acc ++ r.to ++ Utf8.encode ((runes s)[i]), ⟨by first | omega | (simp only [ByteArray.size_append]; omega) | (have := encode_size ((runes s)[i]); simp only [ByteArray.size_append]; omega), by omega, by cases Nat.lt_or_ge i (runes s).length with | inl hlt => (first | (exfalso; omega) | (left; refine ⟨by omega, ?_⟩; rw [← hf2, hdc hlt, resF_cons]; clear hf2 hf hdc hdn; simp_all [encs_append, encs_cons, encs_nil, ByteArray.append_assoc]; done)) | inr hge => (first | (exfalso; omega) | (right; refine ⟨by omega, ?_⟩; rw [← hf2, hdn (by omega), resF_nil]; clear hf2 hf hdc hdn; simp_all [encs_append, encs_cons, encs_nil, ByteArray.append_assoc]; done))⟩, by omega, St.Le.of ⟨rfl, rfl, rfl, rfl, rfl, rfl, trivial⟩⟩
                  | exact ⟨i + 1, kk + 1, acc ++ r.to, ⟨by first | omega | (simp only [ByteArray.size_append]; omega) | (have := encode_size ((runes s)[i]); simp only [ByteArray.size_append]; omega), by omega, by cases Nat.lt_or_ge i (runes s).length with | inl hlt => (first | (exfalso; omega) | (left; refine ⟨by omega, ?_⟩; rw [← hf2, hdc hlt, resF_cons]; clear hf2 hf hdc hdn; simp_all [encs_append, encs_cons, encs_nil, ByteArray.append_assoc]; done)) | inr hge => (first | (exfalso; omega) | (right; refine ⟨by omega, ?_⟩; rw [← hf2, hdn (by omega), resF_nil]; clear hf2 hf hdc hdn; simp_all [encs_append, encs_cons, encs_nil, ByteArray.append_assoc]; done))⟩, by omega, St.Le.of ⟨rfl, rfl, rfl, rfl, rfl, rfl, trivial⟩⟩
                  | exact ⟨i + 1, kk, acc ++ Utf8.encode ((runes s)[i]), ⟨by first | omega | (simp only [ByteArray.size_append]; omega) | (have := encode_size ((runes s)[i]); simp only [ByteArray.size_append]; omega), by omega, by cases Nat.lt_or_ge i (runes s).length with | inl hlt => (first | (exfalso; omega) | (left; refine ⟨by omega, ?_⟩; rw [← hf2, hdc hlt, resF_cons]; clear hf2 hf hdc hdn; simp_all [encs_append, encs_cons, encs_nil, ByteArray.append_assoc]; done)) | inr hge => (first | (exfalso; omega) | (right; refine ⟨by omega, ?_⟩; rw [← hf2, hdn (by omega), resF_nil]; clear hf2 hf hdc hdn; simp_all [encs_append, encs_cons, encs_nil, ByteArray.append_assoc]; done))⟩, by omega, St.Le.of ⟨rfl, rfl, rfl, rfl, rfl, rfl, trivial⟩⟩
                  | exact ⟨i + 1, kk, acc, ⟨by first | omega | (simp only [ByteArray.size_append]; omega) | (have := encode_size ((runes s)[i]); simp only [ByteArray.size_append]; omega), by omega, by cases Nat.lt_or_ge i (runes s).length with | inl hlt => (first | (exfalso; omega) | (left; refine ⟨by omega, ?_⟩; rw [← hf2, hdc hlt, resF_cons]; clear hf2 hf hdc hdn; simp_all [encs_append, encs_cons, encs_nil, ByteArray.append_assoc]; done)) | inr hge => (first | (exfalso; omega) | (right; refine ⟨by omega, ?_⟩; rw [← hf2, hdn (by omega), resF_nil]; clear hf2 hf hdc hdn; simp_all [encs_append, encs_cons, encs_nil, ByteArray.append_assoc]; done))⟩, by omega, St.Le.of ⟨rfl, rfl, rfl, rfl, rfl, rfl, trivial⟩⟩
              · try simp only [decide_eq_true_eq, decide_eq_false_iff_not, Bool.not_eq_true', Bool.not_eq_false', beq_iff_eq, bne_iff_ne, ne_eq, beq_eq_false_iff_ne, bne_eq_false_iff_eq, Int.not_lt, Int.not_le, Nat.not_lt, Nat.not_le, Int.ofNat_lt, Int.ofNat_le, Bool.not_eq_eq_eq_not, Bool.not_true, Bool.not_false] at hb7
                refine SOps.fieldPin rfl fieldB_25_0_0 ?_
                refine SOps.loadPin rfl flatB_21 ?_
                refine SOps.bin rfl rfl rfl ?_
                refine SOps.pick rfl rfl ?_
                refine SOps.pick rfl rfl ?_
                refine SOps.nil ?_
                refine SCode.cond rfl (fun hc8 => ?_) (fun hc8 => ?_)
                · try simp only [decide_eq_true_eq, decide_eq_false_iff_not, Bool.not_eq_true', Bool.not_eq_false', beq_iff_eq, bne_iff_ne, ne_eq, beq_eq_false_iff_ne, bne_eq_false_iff_eq, Int.not_lt, Int.not_le, Nat.not_lt, Nat.not_le, Int.ofNat_lt, Int.ofNat_le, Bool.not_eq_eq_eq_not, Bool.not_true, Bool.not_false] at hc8
                  refine SCode.region ?_
                  refine SOps.move rfl ?_
                  refine SOps.move rfl ?_
                  refine SOps.move rfl ?_
                  refine SOps.indexM (i) rfl rfl sliceB_35_21_1 (by first | omega | (simp only [lenB]; omega)) (by first | omega | (simp only [lenB]; omega)) ?_
                  refine SOps.loadPin rfl flatB_21 ?_
                  refine SOps.convIntStr rfl someB_21 strB_9 ?_
                  refine SOps.concat rfl rfl (by simp only [lenB, ByteArray.size_append]; first | omega | (have := encode_size ((runes s)[i]); omega)) ?_
                  refine SOps.assign rfl ?_
                  refine SOps.nil ?_
                  show SCode _ _ _ _
                  refine SCode.region ?_
                  refine SOps.move rfl ?_
                  refine SOps.addI rfl rfl (by first | omega | (simp only [lenB]; omega)) (by first | omega | (simp only [lenB]; omega)) ?_
                  refine SOps.assign rfl ?_
                  refine SOps.nil ?_
                  first
                    | (exfalso; omega)
                    | exact ⟨i + 1, kk + 1, acc ++ r.to ++ Utf8.encode ((runes s)[i]), ⟨by first | omega | (simp only [ByteArray.size_append]; omega) | (have := encode_size ((runes s)[i]); simp only [ByteArray.size_append]; omega), by omega, by cases Nat.lt_or_ge i (runes s).length with | inl hlt => (first | (exfalso; omega) | (left; refine ⟨by omega, ?_⟩; rw [← hf2, hdc hlt, resF_cons]; clear hf2 hf hdc hdn; simp_all [encs_append, encs_cons, encs_nil, ByteArray.append_assoc]; done)) | inr hge => (first | (exfalso; omega) | (right; refine ⟨by omega, ?_⟩; rw [← hf2, hdn (by omega), resF_nil]; clear hf2 hf hdc hdn; simp_all [encs_append, encs_cons, encs_nil, ByteArray.append_assoc]; done))⟩, by omega, St.Le.of ⟨rfl, rfl, rfl, rfl, rfl, rfl, trivial⟩⟩
                    | exact ⟨i + 1, kk + 1, acc ++ r.to, ⟨by first | omega | (simp only [ByteArray.size_append]; omega) | (have := encode_size ((runes s)[i]); simp only [ByteArray.size_append]; omega), by omega, by cases Nat.lt_or_ge i (runes s).length with | inl hlt => (first | (exfalso; omega) | (left; refine ⟨by omega, ?_⟩; rw [← hf2, hdc hlt, resF_cons]; clear hf2 hf hdc hdn; simp_all [encs_append, encs_cons, encs_nil, ByteArray.append_assoc]; done)) | inr hge => (first | (exfalso; omega) | (right; refine ⟨by omega, ?_⟩; rw [← hf2, hdn (by omega), resF_nil]; clear hf2 hf hdc hdn; simp_all [encs_append, encs_cons, encs_nil, ByteArray.append_assoc]; done))⟩, by omega, St.Le.of ⟨rfl, rfl, rfl, rfl, rfl, rfl, trivial⟩⟩
                    | exact ⟨i + 1, kk, acc ++ Utf8.encode ((runes s)[i]), ⟨by first | omega | (simp only [ByteArray.size_append]; omega) | (have := encode_size ((runes s)[i]); simp only [ByteArray.size_append]; omega), by omega, by cases Nat.lt_or_ge i (runes s).length with | inl hlt => (first | (exfalso; omega) | (left; refine ⟨by omega, ?_⟩; rw [← hf2, hdc hlt, resF_cons]; clear hf2 hf hdc hdn; simp_all [encs_append, encs_cons, encs_nil, ByteArray.append_assoc]; done)) | inr hge => (first | (exfalso; omega) | (right; refine ⟨by omega, ?_⟩; rw [← hf2, hdn (by omega), resF_nil]; clear hf2 hf hdc hdn; simp_all [encs_append, encs_cons, encs_nil, ByteArray.append_assoc]; done))⟩, by omega, St.Le.of ⟨rfl, rfl, rfl, rfl, rfl, rfl, trivial⟩⟩
                    | exact ⟨i + 1, kk, acc, ⟨by first | omega | (simp only [ByteArray.size_append]; omega) | (have := encode_size ((runes s)[i]); simp only [ByteArray.size_append]; omega), by omega, by cases Nat.lt_or_ge i (runes s).length with | inl hlt => (first | (exfalso; omega) | (left; refine ⟨by omega, ?_⟩; rw [← hf2, hdc hlt, resF_cons]; clear hf2 hf hdc hdn; simp_all [encs_append, encs_cons, encs_nil, ByteArray.append_assoc]; done)) | inr hge => (first | (exfalso; omega) | (right; refine ⟨by omega, ?_⟩; rw [← hf2, hdn (by omega), resF_nil]; clear hf2 hf hdc hdn; simp_all [encs_append, encs_cons, encs_nil, ByteArray.append_assoc]; done))⟩, by omega, St.Le.of ⟨rfl, rfl, rfl, rfl, rfl, rfl, trivial⟩⟩
                · try simp only [decide_eq_true_eq, decide_eq_false_iff_not, Bool.not_eq_true', Bool.not_eq_false', beq_iff_eq, bne_iff_ne, ne_eq, beq_eq_false_iff_ne, bne_eq_false_iff_eq, Int.not_lt, Int.not_le, Nat.not_lt, Nat.not_le, Int.ofNat_lt, Int.ofNat_le, Bool.not_eq_eq_eq_not, Bool.not_true, Bool.not_false] at hc8
                  refine SCode.skip ?_
                  show SCode _ _ _ _
                  refine SCode.region ?_
                  refine SOps.move rfl ?_
                  refine SOps.addI rfl rfl (by first | omega | (simp only [lenB]; omega)) (by first | omega | (simp only [lenB]; omega)) ?_
                  refine SOps.assign rfl ?_
                  refine SOps.nil ?_
                  first
                    | (exfalso; omega)
                    | exact ⟨i + 1, kk + 1, acc ++ r.to ++ Utf8.encode ((runes s)[i]), ⟨by first | omega | (simp only [ByteArray.size_append]; omega) | (have := encode_size ((runes s)[i]); simp only [ByteArray.size_append]; omega), by omega, by cases Nat.lt_or_ge i (runes s).length with | inl hlt => (first | (exfalso; omega) | (left; refine ⟨by omega, ?_⟩; rw [← hf2, hdc hlt, resF_cons]; clear hf2 hf hdc hdn; simp_all [encs_append, encs_cons, encs_nil, ByteArray.append_assoc]; done)) | inr hge => (first | (exfalso; omega) | (right; refine ⟨by omega, ?_⟩; rw [← hf2, hdn (by omega), resF_nil]; clear hf2 hf hdc hdn; simp_all [encs_append, encs_cons, encs_nil, ByteArray.append_assoc]; done))⟩, by omega, St.Le.of ⟨rfl, rfl, rfl, rfl, rfl, rfl, trivial⟩⟩
                    | exact ⟨i + 1, kk + 1, acc ++ r.to, ⟨by first | omega | (simp only [ByteArray.size_append]; omega) | (have := encode_size ((runes s)[i]); simp only [ByteArray.size_append]; omega), by omega, by cases Nat.lt_or_ge i (runes s).length with | inl hlt => (first | (exfalso; omega) | (left; refine ⟨by omega, ?_⟩; rw [← hf2, hdc hlt, resF_cons]; clear hf2 hf hdc hdn; simp_all [encs_append, encs_cons, encs_nil, ByteArray.append_assoc]; done)) | inr hge => (first | (exfalso; omega) | (right; refine ⟨by omega, ?_⟩; rw [← hf2, hdn (by omega), resF_nil]; clear hf2 hf hdc hdn; simp_all [encs_append, encs_cons, encs_nil, ByteArray.append_assoc]; done))⟩, by omega, St.Le.of ⟨rfl, rfl, rfl, rfl, rfl, rfl, trivial⟩⟩
                    | exact ⟨i + 1, kk, acc ++ Utf8.encode ((runes s)[i]), ⟨by first | omega | (simp only [ByteArray.size_append]; omega) | (have := encode_size ((runes s)[i]); simp only [ByteArray.size_append]; omega), by omega, by cases Nat.lt_or_ge i (runes s).length with | inl hlt => (first | (exfalso; omega) | (left; refine ⟨by omega, ?_⟩; rw [← hf2, hdc hlt, resF_cons]; clear hf2 hf hdc hdn; simp_all [encs_append, encs_cons, encs_nil, ByteArray.append_assoc]; done)) | inr hge => (first | (exfalso; omega) | (right; refine ⟨by omega, ?_⟩; rw [← hf2, hdn (by omega), resF_nil]; clear hf2 hf hdc hdn; simp_all [encs_append, encs_cons, encs_nil, ByteArray.append_assoc]; done))⟩, by omega, St.Le.of ⟨rfl, rfl, rfl, rfl, rfl, rfl, trivial⟩⟩
                    | exact ⟨i + 1, kk, acc, ⟨by first | omega | (simp only [ByteArray.size_append]; omega) | (have := encode_size ((runes s)[i]); simp only [ByteArray.size_append]; omega), by omega, by cases Nat.lt_or_ge i (runes s).length with | inl hlt => (first | (exfalso; omega) | (left; refine ⟨by omega, ?_⟩; rw [← hf2, hdc hlt, resF_cons]; clear hf2 hf hdc hdn; simp_all [encs_append, encs_cons, encs_nil, ByteArray.append_assoc]; done)) | inr hge => (first | (exfalso; omega) | (right; refine ⟨by omega, ?_⟩; rw [← hf2, hdn (by omega), resF_nil]; clear hf2 hf hdc hdn; simp_all [encs_append, encs_cons, encs_nil, ByteArray.append_assoc]; done))⟩, by omega, St.Le.of ⟨rfl, rfl, rfl, rfl, rfl, rfl, trivial⟩⟩
            · try simp only [decide_eq_true_eq, decide_eq_false_iff_not, Bool.not_eq_true', Bool.not_eq_false', beq_iff_eq, bne_iff_ne, ne_eq, beq_eq_false_iff_ne, bne_eq_false_iff_eq, Int.not_lt, Int.not_le, Nat.not_lt, Nat.not_le, Int.ofNat_lt, Int.ofNat_le, Bool.not_eq_eq_eq_not, Bool.not_true, Bool.not_false] at hb6
              refine SOps.skip rfl ?_
              refine SOps.skip rfl ?_
              refine SOps.skip rfl ?_
              refine SOps.skip rfl ?_
              refine SOps.skip rfl ?_
              refine SOps.skip rfl ?_
              refine SOps.skip rfl ?_
              refine SOps.pick rfl rfl ?_
              refine SOps.nil ?_
              refine SCode.cond rfl (fun h => by cases h) (fun _ => ?_)
              refine SCode.skip ?_
              show SCode _ _ _ _
              refine SCode.region ?_
              refine SOps.move rfl ?_
              refine SOps.addI rfl rfl (by first | omega | (simp only [lenB]; omega)) (by first | omega | (simp only [lenB]; omega)) ?_
              refine SOps.assign rfl ?_
              refine SOps.nil ?_
              first
                | (exfalso; omega)
                | exact ⟨i + 1, kk + 1, acc ++ r.to ++ Utf8.encode ((runes s)[i]), ⟨by first | omega | (simp only [ByteArray.size_append]; omega) | (have := encode_size ((runes s)[i]); simp only [ByteArray.size_append]; omega), by omega, by cases Nat.lt_or_ge i (runes s).length with | inl hlt => (first | (exfalso; omega) | (left; refine ⟨by omega, ?_⟩; rw [← hf2, hdc hlt, resF_cons]; clear hf2 hf hdc hdn; simp_all [encs_append, encs_cons, encs_nil, ByteArray.append_assoc]; done)) | inr hge => (first | (exfalso; omega) | (right; refine ⟨by omega, ?_⟩; rw [← hf2, hdn (by omega), resF_nil]; clear hf2 hf hdc hdn; simp_all [encs_append, encs_cons, encs_nil, ByteArray.append_assoc]; done))⟩, by omega, St.Le.of ⟨rfl, rfl, rfl, rfl, rfl, rfl, trivial⟩⟩
                | exact ⟨i + 1, kk + 1, acc ++ r.to, ⟨by first | omega | (simp only [ByteArray.size_append]; omega) | (have := encode_size ((runes s)[i]); simp only [ByteArray.size_append]; omega), by omega, by cases Nat.lt_or_ge i (runes s).length with | inl hlt => (first | (exfalso; omega) | (left; refine ⟨by omega, ?_⟩; rw [← hf2, hdc hlt, resF_cons]; clear hf2 hf hdc hdn; simp_all [encs_append, encs_cons, encs_nil, ByteArray.append_assoc]; done)) | inr hge => (first | (exfalso; omega) | (right; refine ⟨by omega, ?_⟩; rw [← hf2, hdn (by omega), resF_nil]; clear hf2 hf hdc hdn; simp_all [encs_append, encs_cons, encs_nil, ByteArray.append_assoc]; done))⟩, by omega, St.Le.of ⟨rfl, rfl, rfl, rfl, rfl, rfl, trivial⟩⟩
                | exact ⟨i + 1, kk, acc ++ Utf8.encode ((runes s)[i]), ⟨by first | omega | (simp only [ByteArray.size_append]; omega) | (have := encode_size ((runes s)[i]); simp only [ByteArray.size_append]; omega), by omega, by cases Nat.lt_or_ge i (runes s).length with | inl hlt => (first | (exfalso; omega) | (left; refine ⟨by omega, ?_⟩; rw [← hf2, hdc hlt, resF_cons]; clear hf2 hf hdc hdn; simp_all [encs_append, encs_cons, encs_nil, ByteArray.append_assoc]; done)) | inr hge => (first | (exfalso; omega) | (right; refine ⟨by omega, ?_⟩; rw [← hf2, hdn (by omega), resF_nil]; clear hf2 hf hdc hdn; simp_all [encs_append, encs_cons, encs_nil, ByteArray.append_assoc]; done))⟩, by omega, St.Le.of ⟨rfl, rfl, rfl, rfl, rfl, rfl, trivial⟩⟩
                | exact ⟨i + 1, kk, acc, ⟨by first | omega | (simp only [ByteArray.size_append]; omega) | (have := encode_size ((runes s)[i]); simp only [ByteArray.size_append]; omega), by omega, by cases Nat.lt_or_ge i (runes s).length with | inl hlt => (first | (exfalso; omega) | (left; refine ⟨by omega, ?_⟩; rw [← hf2, hdc hlt, resF_cons]; clear hf2 hf hdc hdn; simp_all [encs_append, encs_cons, encs_nil, ByteArray.append_assoc]; done)) | inr hge => (first | (exfalso; omega) | (right; refine ⟨by omega, ?_⟩; rw [← hf2, hdn (by omega), resF_nil]; clear hf2 hf hdc hdn; simp_all [encs_append, encs_cons, encs_nil, ByteArray.append_assoc]; done))⟩, by omega, St.Le.of ⟨rfl, rfl, rfl, rfl, rfl, rfl, trivial⟩⟩
          · try simp only [decide_eq_true_eq, decide_eq_false_iff_not, Bool.not_eq_true', Bool.not_eq_false', beq_iff_eq, bne_iff_ne, ne_eq, beq_eq_false_iff_ne, bne_eq_false_iff_eq, Int.not_lt, Int.not_le, Nat.not_lt, Nat.not_le, Int.ofNat_lt, Int.ofNat_le, Bool.not_eq_eq_eq_not, Bool.not_true, Bool.not_false] at hc5
            have hs0 : ¬ (sitesQ a r s)[kk] = i := fun h => hc5 (by rw [← h])
            refine SCode.skip ?_
            show SCode _ _ _ _
            refine SCode.seqR ?_
            refine SOps.move rfl ?_
            refine SOps.move rfl ?_
            refine SOps.lenM rfl sliceB_35_21_1 ?_
            refine SOps.bin rfl rfl rfl ?_
            refine SOps.move rfl ?_
            refine SOps.caseB 59 rfl (fun hb9 => ?_) (fun hb9 => ?_)
            · try simp only [decide_eq_true_eq, decide_eq_false_iff_not, Bool.not_eq_true', Bool.not_eq_false', beq_iff_eq, bne_iff_ne, ne_eq, beq_eq_false_iff_ne, bne_eq_false_iff_eq, Int.not_lt, Int.not_le, Nat.not_lt, Nat.not_le, Int.ofNat_lt, Int.ofNat_le, Bool.not_eq_eq_eq_not, Bool.not_true, Bool.not_false] at hb9
              refine SOps.move rfl ?_
              refine SOps.un rfl rfl ?_
              refine SOps.move rfl ?_
              refine SOps.caseB 62 rfl (fun hb10 => ?_) (fun hb10 => ?_)
              · try simp only [decide_eq_true_eq, decide_eq_false_iff_not, Bool.not_eq_true', Bool.not_eq_false', beq_iff_eq, bne_iff_ne, ne_eq, beq_eq_false_iff_ne, bne_eq_false_iff_eq, Int.not_lt, Int.not_le, Nat.not_lt, Nat.not_le, Int.ofNat_lt, Int.ofNat_le, Bool.not_eq_eq_eq_not, Bool.not_true, Bool.not_false] at hb10
                refine SOps.skip rfl ?_
                refine SOps.skip rfl ?_
                refine SOps.skip rfl ?_
                refine SOps.pick rfl rfl ?_
                refine SOps.pick rfl rfl ?_
                refine SOps.nil ?_
                refine SCode.cond rfl (fun _ => ?_) (fun h => by cases h)
                refine SCode.region ?_
                refine SOps.move rfl ?_
                refine SOps.move rfl ?_
                refine SOps.move rfl ?_
                refine SOps.indexM (i) rfl rfl sliceB_35_21_1 (by first | omega | (simp only [lenB]; omega)) (by first | omega | (simp only [lenB]; omega)) ?_
                refine SOps.loadPin rfl flatB_21 ?_
                refine SOps.convIntStr rfl someB_21 strB_9 ?_
                refine SOps.concat rfl rfl (by simp only [lenB, ByteArray.size_append]; first | omega | (have := encode_size ((runes s)[i]); omega)) ?_
                refine SOps.assign rfl ?_
                refine SOps.nil ?_
                show SCode _ _ _ _
                refine SCode.region ?_
                refine SOps.move rfl ?_
                refine SOps.addI rfl rfl (by first | omega | (simp only [lenB]; omega)) (by first | omega | (simp only [lenB]; omega)) ?_
                refine SOps.assign rfl ?_
                refine SOps.nil ?_
                first
                  | (exfalso; omega)
                  | exact ⟨i + 1, kk + 1, acc ++ r.to ++ Utf8.encode ((runes s)[i]), ⟨by first | omega | (simp only [ByteArray.size_append]; omega) | (have := encode_size ((runes s)[i]); simp only [ByteArray.size_append]; omega), by omega, by cases Nat.lt_or_ge i (runes s).length with | inl hlt => (first | (exfalso; omega) | (left; refine ⟨by omega, ?_⟩; rw [← hf2, hdc hlt, resF_cons]; clear hf2 hf hdc hdn; simp_all [encs_append, encs_cons, encs_nil, ByteArray.append_assoc]; done)) | inr hge => (first | (exfalso; omega) | (right; refine ⟨by omega, ?_⟩; rw [← hf2, hdn (by omega), resF_nil]; clear hf2 hf hdc hdn; simp_all [encs_append, encs_cons, encs_nil, ByteArray.append_assoc]; done))⟩, by omega, St.Le.of ⟨rfl, rfl, rfl, rfl, rfl, rfl, trivial⟩⟩
                  | exact ⟨i + 1, kk + 1, acc ++ r.to, ⟨by first | omega | (simp only [ByteArray.size_append]; omega) | (have := encode_size ((runes s)[i]); simp only [ByteArray.size_append]; omega), by omega, by cases Nat.lt_or_ge i (runes s).length with | inl hlt => (first | (exfalso; omega) | (left; refine ⟨by omega, ?_⟩; rw [← hf2, hdc hlt, resF_cons]; clear hf2 hf hdc hdn; simp_all [encs_append, encs_cons, encs_nil, ByteArray.append_assoc]; done)) | inr hge => (first | (exfalso; omega) | (right; refine ⟨by omega, ?_⟩; rw [← hf2, hdn (by omega), resF_nil]; clear hf2 hf hdc hdn; simp_all [encs_append, encs_cons, encs_nil, ByteArray.append_assoc]; done))⟩, by omega, St.Le.of ⟨rfl, rfl, rfl, rfl, rfl, rfl, trivial⟩⟩
                  | exact ⟨i + 1, kk, acc ++ Utf8.encode ((runes s)[i]), ⟨by first | omega | (simp only [ByteArray.size_append]; omega) | (have := encode_size ((runes s)[i]); simp only [ByteArray.size_append]; omega), by omega, by cases Nat.lt_or_ge i (runes s).length with | inl hlt => (first | (exfalso; omega) | (left; refine ⟨by omega, ?_⟩; rw [← hf2, hdc hlt, resF_cons]; clear hf2 hf hdc hdn; simp_all [encs_append, encs_cons, encs_nil, ByteArray.append_assoc]; done)) | inr hge => (first | (exfalso; omega) | (right; refine ⟨by omega, ?_⟩; rw [← hf2, hdn (by omega), resF_nil]; clear hf2 hf hdc hdn; simp_all [encs_append, encs_cons, encs_nil, ByteArray.append_assoc]; done))⟩, by omega, St.Le.of ⟨rfl, rfl, rfl, rfl, rfl, rfl, trivial⟩⟩
                  | exact ⟨i + 1, kk, acc, ⟨by first | omega | (simp only [ByteArray.size_append]; omega) | (have := encode_size ((runes s)[i]); simp only [ByteArray.size_append]; omega), by omega, by cases Nat.lt_or_ge i (runes s).length with | inl hlt => (first | (exfalso; omega) | (left; refine ⟨by omega, ?_⟩; rw [← hf2, hdc hlt, resF_cons]; clear hf2 hf hdc hdn; simp_all [encs_append, encs_cons, encs_nil, ByteArray.append_assoc]; done)) | inr hge => (first | (exfalso; omega) | (right; refine ⟨by omega, ?_⟩; rw [← hf2, hdn (by omega), resF_nil]; clear hf2 hf hdc hdn; simp_all [encs_append, encs_cons, encs_nil, ByteArray.append_assoc]; done))⟩, by omega, St.Le.of ⟨rfl, rfl, rfl, rfl, rfl, rfl, trivial⟩⟩
              · try simp only [decide_eq_true_eq, decide_eq_false_iff_not, Bool.not_eq_true', Bool.not_eq_false', beq_iff_eq, bne_iff_ne, ne_eq, beq_eq_false_iff_ne, bne_eq_false_iff_eq, Int.not_lt, Int.not_le, Nat.not_lt, Nat.not_le, Int.ofNat_lt, Int.ofNat_le, Bool.not_eq_eq_eq_not, Bool.not_true, Bool.not_false] at hb10
                refine SOps.fieldPin rfl fieldB_25_0_0 ?_
                refine SOps.loadPin rfl flatB_21 ?_
                refine SOps.bin rfl rfl rfl ?_
                refine SOps.pick rfl rfl ?_
                refine SOps.pick rfl rfl ?_
                refine SOps.nil ?_
                refine SCode.cond rfl (fun hc11 => ?_) (fun hc11 => ?_)
                · try simp only [decide_eq_true_eq, decide_eq_false_iff_not, Bool.not_eq_true', Bool.not_eq_false', beq_iff_eq, bne_iff_ne, ne_eq, beq_eq_false_iff_ne, bne_eq_false_iff_eq, Int.not_lt, Int.not_le, Nat.not_lt, Nat.not_le, Int.ofNat_lt, Int.ofNat_le, Bool.not_eq_eq_eq_not, Bool.not_true, Bool.not_false] at hc11
                  refine SCode.region ?_
                  refine SOps.move rfl ?_
                  refine SOps.move rfl ?_
                  refine SOps.move rfl ?_
                  refine SOps.indexM (i) rfl rfl sliceB_35_21_1 (by first | omega | (simp only [lenB]; omega)) (by first | omega | (simp only [lenB]; omega)) ?_
                  refine SOps.loadPin rfl flatB_21 ?_
                  refine SOps.convIntStr rfl someB_21 strB_9 ?_
                  refine SOps.concat rfl rfl (by simp only [lenB, ByteArray.size_append]; first | omega | (have := encode_size ((runes s)[i]); omega)) ?_
                  refine SOps.assign rfl ?_
                  refine SOps.nil ?_
                  show SCode _ _ _ _
                  refine SCode.region ?_
                  refine SOps.move rfl ?_
                  refine SOps.addI rfl rfl (by first | omega | (simp only [lenB]; omega)) (by first | omega | (simp only [lenB]; omega)) ?_
                  refine SOps.assign rfl ?_
                  refine SOps.nil ?_
                  first
                    | (exfalso; omega)
                    | exact ⟨i + 1, kk + 1, acc ++ r.to ++ Utf8.encode ((runes s)[i]), ⟨by first | omega | (simp only [ByteArray.size_append]; omega) | (have := encode_size ((runes s)[i]); simp only [ByteArray.size_append]; omega), by omega, by cases Nat.lt_or_ge i (runes s).length with | inl hlt => (first | (exfalso; omega) | (left; refine ⟨by omega, ?_⟩; rw [← hf2, hdc hlt, resF_cons]; clear hf2 hf hdc hdn; simp_all [encs_append, encs_cons, encs_nil, ByteArray.append_assoc]; done)) | inr hge => (first | (exfalso; omega) | (right; refine ⟨by omega, ?_⟩; rw [← hf2, hdn (by omega), resF_nil]; clear hf2 hf hdc hdn; simp_all [encs_append, encs_cons, encs_nil, ByteArray.append_assoc]; done))⟩, by omega, St.Le.of ⟨rfl, rfl, rfl, rfl, rfl, rfl, trivial⟩⟩
                    | exact ⟨i + 1, kk + 1, acc ++ r.to, ⟨by first | omega | (simp only [ByteArray.size_append]; omega) | (have := encode_size ((runes s)[i]); simp only [ByteArray.size_append]; omega), by omega, by cases Nat.lt_or_ge i (runes s).length with | inl hlt => (first | (exfalso; omega) | (left; refine ⟨by omega, ?_⟩; rw [← hf2, hdc hlt, resF_cons]; clear hf2 hf hdc hdn; simp_all [encs_append, encs_cons, encs_nil, ByteArray.append_assoc]; done)) | inr hge => (first | (exfalso; omega) | (right; refine ⟨by omega, ?_⟩; rw [← hf2, hdn (by omega), resF_nil]; clear hf2 hf hdc hdn; simp_all [encs_append, encs_cons, encs_nil, ByteArray.append_assoc]; done))⟩, by omega, St.Le.of ⟨rfl, rfl, rfl, rfl, rfl, rfl, trivial⟩⟩
                    | exact ⟨i + 1, kk, acc ++ Utf8.encode ((runes s)[i]), ⟨by first | omega | (simp only [ByteArray.size_append]; omega) | (have := encode_size ((runes s)[i]); simp only [ByteArray.size_append]; omega), by omega, by cases Nat.lt_or_ge i (runes s).length with | inl hlt => (first | (exfalso; omega) | (left; refine ⟨by omega, ?_⟩; rw [← hf2, hdc hlt, resF_cons]; clear hf2 hf hdc hdn; simp_all [encs_append, encs_cons, encs_nil, ByteArray.append_assoc]; done)) | inr hge => (first | (exfalso; omega) | (right; refine ⟨by omega, ?_⟩; rw [← hf2, hdn (by omega), resF_nil]; clear hf2 hf hdc hdn; simp_all [encs_append, encs_cons, encs_nil, ByteArray.append_assoc]; done))⟩, by omega, St.Le.of ⟨rfl, rfl, rfl, rfl, rfl, rfl, trivial⟩⟩
                    | exact ⟨i + 1, kk, acc, ⟨by first | omega | (simp only [ByteArray.size_append]; omega) | (have := encode_size ((runes s)[i]); simp only [ByteArray.size_append]; omega), by omega, by cases Nat.lt_or_ge i (runes s).length with | inl hlt => (first | (exfalso; omega) | (left; refine ⟨by omega, ?_⟩; rw [← hf2, hdc hlt, resF_cons]; clear hf2 hf hdc hdn; simp_all [encs_append, encs_cons, encs_nil, ByteArray.append_assoc]; done)) | inr hge => (first | (exfalso; omega) | (right; refine ⟨by omega, ?_⟩; rw [← hf2, hdn (by omega), resF_nil]; clear hf2 hf hdc hdn; simp_all [encs_append, encs_cons, encs_nil, ByteArray.append_assoc]; done))⟩, by omega, St.Le.of ⟨rfl, rfl, rfl, rfl, rfl, rfl, trivial⟩⟩
                · try simp only [decide_eq_true_eq, decide_eq_false_iff_not, Bool.not_eq_true', Bool.not_eq_false', beq_iff_eq, bne_iff_ne, ne_eq, beq_eq_false_iff_ne, bne_eq_false_iff_eq, Int.not_lt, Int.not_le, Nat.not_lt, Nat.not_le, Int.ofNat_lt, Int.ofNat_le, Bool.not_eq_eq_eq_not, Bool.not_true, Bool.not_false] at hc11
                  refine SCode.skip ?_
                  show SCode _ _ _ _
                  refine SCode.region ?_
                  refine SOps.move rfl ?_
                  refine SOps.addI rfl rfl (by first | omega | (simp only [lenB]; omega)) (by first | omega | (simp only [lenB]; omega)) ?_
                  refine SOps.assign rfl ?_
                  refine SOps.nil ?_
                  first
                    | (exfalso; omega)
                    | exact ⟨i + 1, kk + 1, acc ++ r.to ++ Utf8.encode ((runes s)[i]), ⟨by first | omega | (simp only [ByteArray.size_append]; omega) | (have := encode_size ((runes s)[i]); simp only [ByteArray.size_append]; omega), by omega, by cases Nat.lt_or_ge i (runes s).length with | inl hlt => (first | (exfalso; omega) | (left; refine ⟨by omega, ?_⟩; rw [← hf2, hdc hlt, resF_cons]; clear hf2 hf hdc hdn; simp_all [encs_append, encs_cons, encs_nil, ByteArray.append_assoc]; done)) | inr hge => (first | (exfalso; omega) | (right; refine ⟨by omega, ?_⟩; rw [← hf2, hdn (by omega), resF_nil]; clear hf2 hf hdc hdn; simp_all [encs_append, encs_cons, encs_nil, ByteArray.append_assoc]; done))⟩, by omega, St.Le.of ⟨rfl, rfl, rfl, rfl, rfl, rfl, trivial⟩⟩
                    | exact ⟨i + 1, kk + 1, acc ++ r.to, ⟨by first | omega | (simp only [ByteArray.size_append]; omega) | (have := encode_size ((runes s)[i]); simp only [ByteArray.size_append]; omega), by omega, by cases Nat.lt_or_ge i (runes s).length with | inl hlt => (first | (exfalso; omega) | (left; refine ⟨by omega, ?_⟩; rw [← hf2, hdc hlt, resF_cons]; clear hf2 hf hdc hdn; simp_all [encs_append, encs_cons, encs_nil, ByteArray.append_assoc]; done)) | inr hge => (first | (exfalso; omega) | (right; refine ⟨by omega, ?_⟩; rw [← hf2, hdn (by omega), resF_nil]; clear hf2 hf hdc hdn; simp_all [encs_append, encs_cons, encs_nil, ByteArray.append_assoc]; done))⟩, by omega, St.Le.of ⟨rfl, rfl, rfl, rfl, rfl, rfl, trivial⟩⟩
                    | exact ⟨i + 1, kk, acc ++ Utf8.encode ((runes s)[i]), ⟨by first | omega | (simp only [ByteArray.size_append]; omega) | (have := encode_size ((runes s)[i]); simp only [ByteArray.size_append]; omega), by omega, by cases Nat.lt_or_ge i (runes s).length with | inl hlt => (first | (exfalso; omega) | (left; refine ⟨by omega, ?_⟩; rw [← hf2, hdc hlt, resF_cons]; clear hf2 hf hdc hdn; simp_all [encs_append, encs_cons, encs_nil, ByteArray.append_assoc]; done)) | inr hge => (first | (exfalso; omega) | (right; refine ⟨by omega, ?_⟩; rw [← hf2, hdn (by omega), resF_nil]; clear hf2 hf hdc hdn; simp_all [encs_append, encs_cons, encs_nil, ByteArray.append_assoc]; done))⟩, by omega, St.Le.of ⟨rfl, rfl, rfl, rfl, rfl, rfl, trivial⟩⟩
                    | exact ⟨i + 1, kk, acc, ⟨by first | omega | (simp only [ByteArray.size_append]; omega) | (have := encode_size ((runes s)[i]); simp only [ByteArray.size_append]; omega), by omega, by cases Nat.lt_or_ge i (runes s).length with | inl hlt => (first | (exfalso; omega) | (left; refine ⟨by omega, ?_⟩; rw [← hf2, hdc hlt, resF_cons]; clear hf2 hf hdc hdn; simp_all [encs_append, encs_cons, encs_nil, ByteArray.append_assoc]; done)) | inr hge => (first | (exfalso; omega) | (right; refine ⟨by omega, ?_⟩; rw [← hf2, hdn (by omega), resF_nil]; clear hf2 hf hdc hdn; simp_all [encs_append, encs_cons, encs_nil, ByteArray.append_assoc]; done))⟩, by omega, St.Le.of ⟨rfl, rfl, rfl, rfl, rfl, rfl, trivial⟩⟩
            · try simp only [decide_eq_true_eq, decide_eq_false_iff_not, Bool.not_eq_true', Bool.not_eq_false', beq_iff_eq, bne_iff_ne, ne_eq, beq_eq_false_iff_ne, bne_eq_false_iff_eq, Int.not_lt, Int.not_le, Nat.not_lt, Nat.not_le, Int.ofNat_lt, Int.ofNat_le, Bool.not_eq_eq_eq_not, Bool.not_true, Bool.not_false] at hb9
              refine SOps.skip rfl ?_
              refine SOps.skip rfl ?_
              refine SOps.skip rfl ?_
              refine SOps.skip rfl ?_
              refine SOps.skip rfl ?_
              refine SOps.skip rfl ?_
              refine SOps.skip rfl ?_
              refine SOps.pick rfl rfl ?_
              refine SOps.nil ?_
              refine SCode.cond rfl (fun h => by cases h) (fun _ => ?_)
              refine SCode.skip ?_
              show SCode _ _ _ _
              refine SCode.region ?_
              refine SOps.move rfl ?_
              refine SOps.addI rfl rfl (by first | omega | (simp only [lenB]; omega)) (by first | omega | (simp only [lenB]; omega)) ?_
              refine SOps.assign rfl ?_
              refine SOps.nil ?_
              first
                | (exfalso; omega)
                | exact ⟨i + 1, kk + 1, acc ++ r.to ++ Utf8.encode ((runes s)[i]), ⟨by first | omega | (simp only [ByteArray.size_append]; omega) | (have := encode_size ((runes s)[i]); simp only [ByteArray.size_append]; omega), by omega, by cases Nat.lt_or_ge i (runes s).length with | inl hlt => (first | (exfalso; omega) | (left; refine ⟨by omega, ?_⟩; rw [← hf2, hdc hlt, resF_cons]; clear hf2 hf hdc hdn; simp_all [encs_append, encs_cons, encs_nil, ByteArray.append_assoc]; done)) | inr hge => (first | (exfalso; omega) | (right; refine ⟨by omega, ?_⟩; rw [← hf2, hdn (by omega), resF_nil]; clear hf2 hf hdc hdn; simp_all [encs_append, encs_cons, encs_nil, ByteArray.append_assoc]; done))⟩, by omega, St.Le.of ⟨rfl, rfl, rfl, rfl, rfl, rfl, trivial⟩⟩
                | exact ⟨i + 1, kk + 1, acc ++ r.to, ⟨by first | omega | (simp only [ByteArray.size_append]; omega) | (have := encode_size ((runes s)[i]); simp only [ByteArray.size_append]; omega), by omega, by cases Nat.lt_or_ge i (runes s).length with | inl hlt => (first | (exfalso; omega) | (left; refine ⟨by omega, ?_⟩; rw [← hf2, hdc hlt, resF_cons]; clear hf2 hf hdc hdn; simp_all [encs_append, encs_cons, encs_nil, ByteArray.append_assoc]; done)) | inr hge => (first | (exfalso; omega) | (right; refine ⟨by omega, ?_⟩; rw [← hf2, hdn (by omega), resF_nil]; clear hf2 hf hdc hdn; simp_all [encs_append, encs_cons, encs_nil, ByteArray.append_assoc]; done))⟩, by omega, St.Le.of ⟨rfl, rfl, rfl, rfl, rfl, rfl, trivial⟩⟩
                | exact ⟨i + 1, kk, acc ++ Utf8.encode ((runes s)[i]), ⟨by first | omega | (simp only [ByteArray.size_append]; omega) | (have := encode_size ((runes s)[i]); simp only [ByteArray.size_append]; omega), by omega, by cases Nat.lt_or_ge i (runes s).length with | inl hlt => (first | (exfalso; omega) | (left; refine ⟨by omega, ?_⟩; rw [← hf2, hdc hlt, resF_cons]; clear hf2 hf hdc hdn; simp_all [encs_append, encs_cons, encs_nil, ByteArray.append_assoc]; done)) | inr hge => (first | (exfalso; omega) | (right; refine ⟨by omega, ?_⟩; rw [← hf2, hdn (by omega), resF_nil]; clear hf2 hf hdc hdn; simp_all [encs_append, encs_cons, encs_nil, ByteArray.append_assoc]; done))⟩, by omega, St.Le.of ⟨rfl, rfl, rfl, rfl, rfl, rfl, trivial⟩⟩
                | exact ⟨i + 1, kk, acc, ⟨by first | omega | (simp only [ByteArray.size_append]; omega) | (have := encode_size ((runes s)[i]); simp only [ByteArray.size_append]; omega), by omega, by cases Nat.lt_or_ge i (runes s).length with | inl hlt => (first | (exfalso; omega) | (left; refine ⟨by omega, ?_⟩; rw [← hf2, hdc hlt, resF_cons]; clear hf2 hf hdc hdn; simp_all [encs_append, encs_cons, encs_nil, ByteArray.append_assoc]; done)) | inr hge => (first | (exfalso; omega) | (right; refine ⟨by omega, ?_⟩; rw [← hf2, hdn (by omega), resF_nil]; clear hf2 hf hdc hdn; simp_all [encs_append, encs_cons, encs_nil, ByteArray.append_assoc]; done))⟩, by omega, St.Le.of ⟨rfl, rfl, rfl, rfl, rfl, rfl, trivial⟩⟩
        · try simp only [decide_eq_true_eq, decide_eq_false_iff_not, Bool.not_eq_true', Bool.not_eq_false', beq_iff_eq, bne_iff_ne, ne_eq, beq_eq_false_iff_ne, bne_eq_false_iff_eq, Int.not_lt, Int.not_le, Nat.not_lt, Nat.not_le, Int.ofNat_lt, Int.ofNat_le, Bool.not_eq_eq_eq_not, Bool.not_true, Bool.not_false] at hb4
          have hkd : (sitesQ a r s).drop kk = [] := List.drop_eq_nil_of_le (by omega)
          refine SOps.skip rfl ?_
          refine SOps.skip rfl ?_
          refine SOps.skip rfl ?_
          refine SOps.skip rfl ?_
          refine SOps.skip rfl ?_
          refine SOps.skip rfl ?_
          refine SOps.pick rfl rfl ?_
          refine SOps.assign rfl ?_
          refine SOps.nil ?_
          refine SCode.seq ?_
          refine SCode.seqR ?_
          refine SOps.move rfl ?_
          refine SOps.nil ?_
          refine SCode.cond rfl (fun h => by cases h) (fun _ => ?_)
          refine SCode.skip ?_
          show SCode _ _ _ _
          refine SCode.seqR ?_
          refine SOps.move rfl ?_
          refine SOps.move rfl ?_
          refine SOps.lenM rfl sliceB_35_21_1 ?_
          refine SOps.bin rfl rfl rfl ?_
          refine SOps.move rfl ?_
          refine SOps.caseB 59 rfl (fun hb12 => ?_) (fun hb12 => ?_)
          · try simp only [decide_eq_true_eq, decide_eq_false_iff_not, Bool.not_eq_true', Bool.not_eq_false', beq_iff_eq, bne_iff_ne, ne_eq, beq_eq_false_iff_ne, bne_eq_false_iff_eq, Int.not_lt, Int.not_le, Nat.not_lt, Nat.not_le, Int.ofNat_lt, Int.ofNat_le, Bool.not_eq_eq_eq_not, Bool.not_true, Bool.not_false] at hb12
            refine SOps.move rfl ?_
            refine SOps.un rfl rfl ?_
            refine SOps.move rfl ?_
            refine SOps.skip rfl ?_
            refine SOps.skip rfl ?_
            refine SOps.skip rfl ?_
            refine SOps.pick rfl rfl ?_
            refine SOps.pick rfl rfl ?_
            refine SOps.nil ?_
            refine SCode.cond rfl (fun _ => ?_) (fun h => by cases h)
            refine SCode.region ?_
            refine SOps.move rfl ?_
            refine SOps.move rfl ?_
            refine SOps.move rfl ?_
            refine SOps.indexM (i) rfl rfl sliceB_35_21_1 (by first | omega | (simp only [lenB]; omega)) (by first | omega | (simp only [lenB]; omega)) ?_
            refine SOps.loadPin rfl flatB_21 ?_
            refine SOps.convIntStr rfl someB_21 strB_9 ?_
            refine SOps.concat rfl rfl (by simp only [lenB, ByteArray.size_append]; first | omega | (have := encode_size ((runes s)[i]); omega)) ?_
            refine SOps.assign rfl ?_
            refine SOps.nil ?_
            show SCode _ _ _ _
            refine SCode.region ?_
            refine SOps.move rfl ?_
            refine SOps.addI rfl rfl (by first | omega | (simp only [lenB]; omega)) (by first | omega | (simp only [lenB]; omega)) ?_
            refine SOps.assign rfl ?_
            refine SOps.nil ?_
            first
              | (exfalso; omega)
              | exact ⟨i + 1, kk + 1, acc ++ r.to ++ Utf8.encode ((runes s)[i]), ⟨by first | omega | (simp only [ByteArray.size_append]; omega) | (have := encode_size ((runes s)[i]); simp only [ByteArray.size_append]; omega), by omega, by cases Nat.lt_or_ge i (runes s).length with | inl hlt => (first | (exfalso; omega) | (left; refine ⟨by omega, ?_⟩; rw [← hf2, hdc hlt, resF_cons]; clear hf2 hf hdc hdn; simp_all [encs_append, encs_cons, encs_nil, ByteArray.append_assoc]; done)) | inr hge => (first | (exfalso; omega) | (right; refine ⟨by omega, ?_⟩; rw [← hf2, hdn (by omega), resF_nil]; clear hf2 hf hdc hdn; simp_all [encs_append, encs_cons, encs_nil, ByteArray.append_assoc]; done))⟩, by omega, St.Le.of ⟨rfl, rfl, rfl, rfl, rfl, rfl, trivial⟩⟩
              | exact ⟨i + 1, kk + 1, acc ++ r.to, ⟨by first | omega | (simp only [ByteArray.size_append]; omega) | (have := encode_size ((runes s)[i]); simp only [ByteArray.size_append]; omega), by omega, by cases Nat.lt_or_ge i (runes s).length with | inl hlt => (first | (exfalso; omega) | (left; refine ⟨by omega, ?_⟩; rw [← hf2, hdc hlt, resF_cons]; clear hf2 hf hdc hdn; simp_all [encs_append, encs_cons, encs_nil, ByteArray.append_assoc]; done)) | inr hge => (first | (exfalso; omega) | (right; refine ⟨by omega, ?_⟩; rw [← hf2, hdn (by omega), resF_nil]; clear hf2 hf hdc hdn; simp_all [encs_append, encs_cons, encs_nil, ByteArray.append_assoc]; done))⟩, by omega, St.Le.of ⟨rfl, rfl, rfl, rfl, rfl, rfl, trivial⟩⟩
              | exact ⟨i + 1, kk, acc ++ Utf8.encode ((runes s)[i]), ⟨by first | omega | (simp only [ByteArray.size_append]; omega) | (have := encode_size ((runes s)[i]); simp only [ByteArray.size_append]; omega), by omega, by cases Nat.lt_or_ge i (runes s).length with | inl hlt => (first | (exfalso; omega) | (left; refine ⟨by omega, ?_⟩; rw [← hf2, hdc hlt, resF_cons]; clear hf2 hf hdc hdn; simp_all [encs_append, encs_cons, encs_nil, ByteArray.append_assoc]; done)) | inr hge => (first | (exfalso; omega) | (right; refine ⟨by omega, ?_⟩; rw [← hf2, hdn (by omega), resF_nil]; clear hf2 hf hdc hdn; simp_all [encs_append, encs_cons, encs_nil, ByteArray.append_assoc]; done))⟩, by omega, St.Le.of ⟨rfl, rfl, rfl, rfl, rfl, rfl, trivial⟩⟩
              | exact ⟨i + 1, kk, acc, ⟨by first | omega | (simp only [ByteArray.size_append]; omega) | (have := encode_size ((runes s)[i]); simp only [ByteArray.size_append]; omega), by omega, by cases Nat.lt_or_ge i (runes s).length with | inl hlt => (first | (exfalso; omega) | (left; refine ⟨by omega, ?_⟩; rw [← hf2, hdc hlt, resF_cons]; clear hf2 hf hdc hdn; simp_all [encs_append, encs_cons, encs_nil, ByteArray.append_assoc]; done)) | inr hge => (first | (exfalso; omega) | (right; refine ⟨by omega, ?_⟩; rw [← hf2, hdn (by omega), resF_nil]; clear hf2 hf hdc hdn; simp_all [encs_append, encs_cons, encs_nil, ByteArray.append_assoc]; done))⟩, by omega, St.Le.of ⟨rfl, rfl, rfl, rfl, rfl, rfl, trivial⟩⟩
          · try simp only [decide_eq_true_eq, decide_eq_false_iff_not, Bool.not_eq_true', Bool.not_eq_false', beq_iff_eq, bne_iff_ne, ne_eq, beq_eq_false_iff_ne, bne_eq_false_iff_eq, Int.not_lt, Int.not_le, Nat.not_lt, Nat.not_le, Int.ofNat_lt, Int.ofNat_le, Bool.not_eq_eq_eq_not, Bool.not_true, Bool.not_false] at hb12
            refine SOps.skip rfl ?_
            refine SOps.skip rfl ?_
            refine SOps.skip rfl ?_
            refine SOps.skip rfl ?_
            refine SOps.skip rfl ?_
            refine SOps.skip rfl ?_
            refine SOps.skip rfl ?_
            refine SOps.pick rfl rfl ?_
            refine SOps.nil ?_
            refine SCode.cond rfl (fun h => by cases h) (fun _ => ?_)
            refine SCode.skip ?_
            show SCode _ _ _ _
            refine SCode.region ?_
            refine SOps.move rfl ?_
            refine SOps.addI rfl rfl (by first | omega | (simp only [lenB]; omega)) (by first | omega | (simp only [lenB]; omega)) ?_
            refine SOps.assign rfl ?_
            refine SOps.nil ?_
            first
              | (exfalso; omega)
              | exact ⟨i + 1, kk + 1, acc ++ r.to ++ Utf8.encode ((runes s)[i]), ⟨by first | omega | (simp only [ByteArray.size_append]; omega) | (have := encode_size ((runes s)[i]); simp only [ByteArray.size_append]; omega), by omega, by cases Nat.lt_or_ge i (runes s).length with | inl hlt => (first | (exfalso; omega) | (left; refine ⟨by omega, ?_⟩; rw [← hf2, hdc hlt, resF_cons]; clear hf2 hf hdc hdn; simp_all [encs_append, encs_cons, encs_nil, ByteArray.append_assoc]; done)) | inr hge => (first | (exfalso; omega) | (right; refine ⟨by omega, ?_⟩; rw [← hf2, hdn (by omega), resF_nil]; clear hf2 hf hdc hdn; simp_all [encs_append, encs_cons, encs_nil, ByteArray.append_assoc]; done))⟩, by omega, St.Le.of ⟨rfl, rfl, rfl, rfl, rfl, rfl, trivial⟩⟩
              | exact ⟨i + 1, kk + 1, acc ++ r.to, ⟨by first | omega | (simp only [ByteArray.size_append]; omega) | (have := encode_size ((runes s)[i]); simp only [ByteArray.size_append]; omega), by omega, by cases Nat.lt_or_ge i (runes s).length with | inl hlt => (first | (exfalso; omega) | (left; refine ⟨by omega, ?_⟩; rw [← hf2, hdc hlt, resF_cons]; clear hf2 hf hdc hdn; simp_all [encs_append, encs_cons, encs_nil, ByteArray.append_assoc]; done)) | inr hge => (first | (exfalso; omega) | (right; refine ⟨by omega, ?_⟩; rw [← hf2, hdn (by omega), resF_nil]; clear hf2 hf hdc hdn; simp_all [encs_append, encs_cons, encs_nil, ByteArray.append_assoc]; done))⟩, by omega, St.Le.of ⟨rfl, rfl, rfl, rfl, rfl, rfl, trivial⟩⟩
              | exact ⟨i + 1, kk, acc ++ Utf8.encode ((runes s)[i]), ⟨by first | omega | (simp only [ByteArray.size_append]; omega) | (have := encode_size ((runes s)[i]); simp only [ByteArray.size_append]; omega), by omega, by cases Nat.lt_or_ge i (runes s).length with | inl hlt => (first | (exfalso; omega) | (left; refine ⟨by omega, ?_⟩; rw [← hf2, hdc hlt, resF_cons]; clear hf2 hf hdc hdn; simp_all [encs_append, encs_cons, encs_nil, ByteArray.append_assoc]; done)) | inr hge => (first | (exfalso; omega) | (right; refine ⟨by omega, ?_⟩; rw [← hf2, hdn (by omega), resF_nil]; clear hf2 hf hdc hdn; simp_all [encs_append, encs_cons, encs_nil, ByteArray.append_assoc]; done))⟩, by omega, St.Le.of ⟨rfl, rfl, rfl, rfl, rfl, rfl, trivial⟩⟩
              | exact ⟨i + 1, kk, acc, ⟨by first | omega | (simp only [ByteArray.size_append]; omega) | (have := encode_size ((runes s)[i]); simp only [ByteArray.size_append]; omega), by omega, by cases Nat.lt_or_ge i (runes s).length with | inl hlt => (first | (exfalso; omega) | (left; refine ⟨by omega, ?_⟩; rw [← hf2, hdc hlt, resF_cons]; clear hf2 hf hdc hdn; simp_all [encs_append, encs_cons, encs_nil, ByteArray.append_assoc]; done)) | inr hge => (first | (exfalso; omega) | (right; refine ⟨by omega, ?_⟩; rw [← hf2, hdn (by omega), resF_nil]; clear hf2 hf hdc hdn; simp_all [encs_append, encs_cons, encs_nil, ByteArray.append_assoc]; done))⟩, by omega, St.Le.of ⟨rfl, rfl, rfl, rfl, rfl, rfl, trivial⟩⟩
      · try simp only [decide_eq_true_eq, decide_eq_false_iff_not, Bool.not_eq_true', Bool.not_eq_false', beq_iff_eq, bne_iff_ne, ne_eq, beq_eq_false_iff_ne, bne_eq_false_iff_eq, Int.not_lt, Int.not_le, Nat.not_lt, Nat.not_le, Int.ofNat_lt, Int.ofNat_le, Bool.not_eq_eq_eq_not, Bool.not_true, Bool.not_false] at hc3
        refine SCode.exit ?_
        show SCode _ _ _ _
        refine SCode.seq ?_
        refine SCode.seqR ?_
        obtain ⟨_, rfl⟩ := hf.resolve_left (by omega)
        refine SOps.move rfl ?_
        refine SOps.runesF rfl rfl strB_9 sliceB_35_21_1 intB_21_i32 ?_
        refine SOps.lenM rfl sliceB_35_21_1 ?_
        refine SOps.bin rfl rfl rfl ?_
        refine SOps.nil ?_
        refine SCode.cond rfl (fun hc13 => ?_) (fun hc13 => ?_)
        · try simp only [decide_eq_true_eq, decide_eq_false_iff_not, Bool.not_eq_true', Bool.not_eq_false', beq_iff_eq, bne_iff_ne, ne_eq, beq_eq_false_iff_ne, bne_eq_false_iff_eq, Int.not_lt, Int.not_le, Nat.not_lt, Nat.not_le, Int.ofNat_lt, Int.ofNat_le, Bool.not_eq_eq_eq_not, Bool.not_true, Bool.not_false] at hc13
          refine SCode.seqR ?_
          refine SOps.assign rfl ?_
          refine SOps.assign rfl ?_
          refine SOps.nil ?_
          refine SCode.ret ?_
          exact ⟨_, Res.two (.tmp rfl) (.tmp rfl), (by unfold applyQ resX; first | (rw [if_neg (by simp_all [okR])]; rfl) | (rw [if_pos hok, if_pos (by omega)]; rfl) | (rw [if_pos hok, if_neg (by omega)]; rfl)), rfl⟩
        · try simp only [decide_eq_true_eq, decide_eq_false_iff_not, Bool.not_eq_true', Bool.not_eq_false', beq_iff_eq, bne_iff_ne, ne_eq, beq_eq_false_iff_ne, bne_eq_false_iff_eq, Int.not_lt, Int.not_le, Nat.not_lt, Nat.not_le, Int.ofNat_lt, Int.ofNat_le, Bool.not_eq_eq_eq_not, Bool.not_true, Bool.not_false] at hc13
          refine SCode.skip ?_
          show SCode _ _ _ _
          refine SCode.seqR ?_
          refine SOps.move rfl ?_
          refine SOps.assign rfl ?_
          refine SOps.assign rfl ?_
          refine SOps.nil ?_
          refine SCode.ret ?_
          exact ⟨_, Res.two (.tmp rfl) (.tmp rfl), (by unfold applyQ resX; first | (rw [if_neg (by simp_all [okR])]; rfl) | (rw [if_pos hok, if_pos (by omega)]; rfl) | (rw [if_pos hok, if_neg (by omega)]; rfl)), rfl⟩
def trF (ap : Rule → ByteArray → ByteArray × Int) : List Rule → List ByteArray → ByteArray → List ByteArray × Int
  | [], out, _ => (out, 0)
  | r :: rs, out, last => if (ap r last).2 = 0 then trF ap rs (out ++ [(ap r last).1]) (ap r last).1 else ([], (ap r last).2)
theorem trF_nil (ap : Rule → ByteArray → ByteArray × Int) (out : List ByteArray) (last : ByteArray) : trF ap [] out last = (out, 0) := rfl
theorem trF_cons (ap : Rule → ByteArray → ByteArray × Int) (r : Rule) (rs : List Rule) (out : List ByteArray) (last : ByteArray) : trF ap (r :: rs) out last = if (ap r last).2 = 0 then trF ap rs (out ++ [(ap r last).1]) (ap r last).1 else ([], (ap r last).2) := rfl
def okT (a : List Letter) (l : List Rule) (s : ByteArray) : Bool := decide (l.length ≤ 64) && admA a && consS a 40 s && l.all (validR a)
def traceX (a : List Letter) (l : List Rule) (s : ByteArray) (ap : Rule → ByteArray → ByteArray × Int) : List ByteArray × Int := if okT a l s then trF ap l [s] s else ([], 1)
def traceR (a : List Letter) (l : List Rule) (s : ByteArray) : List ByteArray × Int := traceX a l s (applyR a)
def traceQ (a : List Letter) (l : List Rule) (s : ByteArray) : List ByteArray × Int := traceX a l s (applyQ a)
def tupT (x : List ByteArray × Int) : DV := .tup [DStrs x.1, .v (.int .i64 x.2)]
theorem qCheck (hV : VS E) (a : List Letter) (l : List Rule) (s : ByteArray)  : GCall Tryd.prog E 53 [DLs a, DRs l, .v (.string s)] [] (fun d H => d = .v (.bool (okT a l s)) ∧ H = []) := by
  refine GCall.body (C := ⟨Tryd.prog, E, true⟩) Tryd.func53 rfl (fun _ => rfl) (by kernel_rfl) rfl ?_
  refine SCode.seqR ?_
  refine SOps.assign rfl ?_
  refine SOps.nil ?_
  refine SCode.seq ?_
  refine SCode.seqR ?_
  refine SOps.assign rfl ?_
  refine SOps.nil ?_
  refine SCode.block ?_
  refine SCode.loop1 (fun (i : Nat) => (⟨33, [(0, DLs a), (1, DRs l), (2, .v (.string s)), (7, .v (.int .i64 (i : Int)))], []⟩ : St)) (fun (i : Nat) => i ≤ l.length ∧ ∀ r ∈ l.take i, validR a r = true) (fun (i : Nat) => l.length - i) (0) (by simp) (St.Le.of ⟨(by first | rfl | (show some _ = some _; simp)), (by first | rfl | (show some _ = some _; simp)), (by first | rfl | (show some _ = some _; simp)), (by first | rfl | (show some _ = some _; simp)), trivial⟩ rfl (by first | rfl | (simp))) ?_
  rintro i ⟨hi, hf⟩
  refine SCode.fact (isl_len (t := 1) rfl) (fun hB => ?_)
  simp only [List.length_map, lenB] at hB
  refine SCode.seq ?_
  refine SCode.seqR ?_
  refine SOps.move rfl ?_
  refine SOps.move rfl ?_
  refine SOps.lenM rfl sliceB_36_25_6 ?_
  refine SOps.bin rfl rfl rfl ?_
  refine SOps.nil ?_
  refine SCode.cond rfl (fun hc1 => ?_) (fun hc1 => ?_)
  · try simp only [decide_eq_true_eq, decide_eq_false_iff_not, Bool.not_eq_true', Bool.not_eq_false', beq_iff_eq, bne_iff_ne, ne_eq, beq_eq_false_iff_ne, bne_eq_false_iff_eq, Int.not_lt, Int.not_le, Nat.not_lt, Nat.not_le, Int.ofNat_lt, Int.ofNat_le, Bool.not_eq_eq_eq_not, Bool.not_true, Bool.not_false] at hc1
    refine SCode.skip ?_
    show SCode _ _ _ _
    refine SCode.seq ?_
    refine SCode.block ?_
    refine SCode.seqR ?_
    refine SOps.move rfl ?_
    refine SOps.move rfl ?_
    refine SOps.move rfl ?_
    refine SOps.indexM (i) rfl rfl sliceB_36_25_6 (by omega) (by omega) ?_
    refine SOps.loadPinA rfl aggB_25_6 (Nat.le_of_ble_eq_true rfl) ?_
    refine SOps.callP (qValid hV _ _) rfl ?_
    rintro _ rfl
    refine SOps.un rfl rfl ?_
    refine SOps.nil ?_
    refine SCode.cond rfl (fun hc2 => ?_) (fun hc2 => ?_)
    · try simp only [decide_eq_true_eq, decide_eq_false_iff_not, Bool.not_eq_true', Bool.not_eq_false', beq_iff_eq, bne_iff_ne, ne_eq, beq_eq_false_iff_ne, bne_eq_false_iff_eq, Int.not_lt, Int.not_le, Nat.not_lt, Nat.not_le, Int.ofNat_lt, Int.ofNat_le, Bool.not_eq_eq_eq_not, Bool.not_true, Bool.not_false] at hc2
      refine SCode.seqR ?_
      refine SOps.assign rfl ?_
      refine SOps.nil ?_
      refine SCode.ret ?_
      exact ⟨_, Res.one (.tmp rfl), congrArg (fun b => DV.v (.bool b)) (Eq.symm (Bool.eq_false_iff.2 (fun h => by simp only [okT, Bool.and_eq_true, List.all_eq_true] at h; rw [h.2 _ (List.getElem_mem (show i < l.length by omega))] at hc2; cases hc2))), rfl⟩
    · try simp only [decide_eq_true_eq, decide_eq_false_iff_not, Bool.not_eq_true', Bool.not_eq_false', beq_iff_eq, bne_iff_ne, ne_eq, beq_eq_false_iff_ne, bne_eq_false_iff_eq, Int.not_lt, Int.not_le, Nat.not_lt, Nat.not_le, Int.ofNat_lt, Int.ofNat_le, Bool.not_eq_eq_eq_not, Bool.not_true, Bool.not_false] at hc2
      refine SCode.skip ?_
      show SCode _ _ _ _
      refine SCode.region ?_
      refine SOps.move rfl ?_
      refine SOps.addI rfl rfl (by omega) (by omega) ?_
      refine SOps.assign rfl ?_
      refine SOps.nil ?_
      exact ⟨i + 1, by exact ⟨by omega, take_more hf (by omega) hc2⟩, by omega, (St.Le.of ⟨(by first | rfl | (show some _ = some _; simp)), (by first | rfl | (show some _ = some _; simp)), (by first | rfl | (show some _ = some _; simp)), (by first | rfl | (show some _ = some _; simp)), trivial⟩ rfl (by first | rfl | (simp)))⟩
  · try simp only [decide_eq_true_eq, decide_eq_false_iff_not, Bool.not_eq_true', Bool.not_eq_false', beq_iff_eq, bne_iff_ne, ne_eq, beq_eq_false_iff_ne, bne_eq_false_iff_eq, Int.not_lt, Int.not_le, Nat.not_lt, Nat.not_le, Int.ofNat_lt, Int.ofNat_le, Bool.not_eq_eq_eq_not, Bool.not_true, Bool.not_false] at hc1
    refine SCode.exit ?_
    show SCode _ _ _ _
    refine SCode.seqR ?_
    have hall : l.all (validR a) = true := List.all_eq_true.2 (all_of (by omega) hf)
    refine SOps.move rfl ?_
    refine SOps.lenM rfl sliceB_36_25_6 ?_
    refine SOps.bin rfl rfl rfl ?_
    refine SOps.move rfl ?_
    refine SOps.caseB 24 rfl (fun hb3 => ?_) (fun hb3 => ?_)
    · try simp only [decide_eq_true_eq, decide_eq_false_iff_not, Bool.not_eq_true', Bool.not_eq_false', beq_iff_eq, bne_iff_ne, ne_eq, beq_eq_false_iff_ne, bne_eq_false_iff_eq, Int.not_lt, Int.not_le, Nat.not_lt, Nat.not_le, Int.ofNat_lt, Int.ofNat_le, Bool.not_eq_eq_eq_not, Bool.not_true, Bool.not_false] at hb3
      refine SOps.move rfl ?_
      refine SOps.callP (qAdm _) rfl ?_
      rintro _ rfl
      refine SOps.pick rfl rfl ?_
      refine SOps.move rfl ?_
      refine SOps.caseB 28 rfl (fun hb4 => ?_) (fun hb4 => ?_)
      · try simp only [decide_eq_true_eq, decide_eq_false_iff_not, Bool.not_eq_true', Bool.not_eq_false', beq_iff_eq, bne_iff_ne, ne_eq, beq_eq_false_iff_ne, bne_eq_false_iff_eq, Int.not_lt, Int.not_le, Nat.not_lt, Nat.not_le, Int.ofNat_lt, Int.ofNat_le, Bool.not_eq_eq_eq_not, Bool.not_true, Bool.not_false] at hb4
        refine SOps.move rfl ?_
        refine SOps.move rfl ?_
        refine SOps.callP (qWord hV _ _) rfl ?_
        rintro _ rfl
        refine SOps.pick rfl rfl ?_
        refine SOps.assign rfl ?_
        refine SOps.nil ?_
        refine SCode.ret ?_
        exact ⟨_, Res.one (.tmp rfl), congrArg (fun b => DV.v (.bool b)) (by rcases Classical.em (l.length ≤ 64) with h64 | h64 <;> first | (exfalso; omega) | (simp_all [okT]; done) | (simp_all [okT]; intros; omega)), rfl⟩
      · try simp only [decide_eq_true_eq, decide_eq_false_iff_not, Bool.not_eq_true', Bool.not_eq_false', beq_iff_eq, bne_iff_ne, ne_eq, beq_eq_false_iff_ne, bne_eq_false_iff_eq, Int.not_lt, Int.not_le, Nat.not_lt, Nat.not_le, Int.ofNat_lt, Int.ofNat_le, Bool.not_eq_eq_eq_not, Bool.not_true, Bool.not_false] at hb4
        refine SOps.skip rfl ?_
        refine SOps.skip rfl ?_
        refine SOps.skip rfl ?_
        refine SOps.pick rfl rfl ?_
        refine SOps.assign rfl ?_
        refine SOps.nil ?_
        refine SCode.ret ?_
        exact ⟨_, Res.one (.tmp rfl), congrArg (fun b => DV.v (.bool b)) (by rcases Classical.em (l.length ≤ 64) with h64 | h64 <;> first | (exfalso; omega) | (simp_all [okT]; done) | (simp_all [okT]; intros; omega)), rfl⟩
    · try simp only [decide_eq_true_eq, decide_eq_false_iff_not, Bool.not_eq_true', Bool.not_eq_false', beq_iff_eq, bne_iff_ne, ne_eq, beq_eq_false_iff_ne, bne_eq_false_iff_eq, Int.not_lt, Int.not_le, Nat.not_lt, Nat.not_le, Int.ofNat_lt, Int.ofNat_le, Bool.not_eq_eq_eq_not, Bool.not_true, Bool.not_false] at hb3
      refine SOps.skip rfl ?_
      refine SOps.skip rfl ?_
      refine SOps.pick rfl rfl ?_
      refine SOps.move rfl ?_
      refine SOps.skip rfl ?_
      refine SOps.skip rfl ?_
      refine SOps.skip rfl ?_
      refine SOps.pick rfl rfl ?_
      refine SOps.assign rfl ?_
      refine SOps.nil ?_
      refine SCode.ret ?_
      exact ⟨_, Res.one (.tmp rfl), congrArg (fun b => DV.v (.bool b)) (by rcases Classical.em (l.length ≤ 64) with h64 | h64 <;> first | (exfalso; omega) | (simp_all [okT]; done) | (simp_all [okT]; intros; omega)), rfl⟩
theorem rTrace (hV : VS E) (a : List Letter) (l : List Rule) (s : ByteArray) (hr : ∀ r ∈ l, SmR r) (hs : s.size ≤ 1048576) : GCall Tryd.prog E 23 [DLs a, DRs l, .v (.string s)] [] (fun d H => d = tupT (traceR a l s) ∧ H = []) := by
  refine GCall.body (C := ⟨Tryd.prog, E, true⟩) Tryd.func23 rfl (fun _ => rfl) (by kernel_rfl) rfl ?_
  refine SCode.seqR ?_
  refine SOps.assign rfl ?_
  refine SOps.assign rfl ?_
  refine SOps.nil ?_
  refine SCode.seq ?_
  refine SCode.seqR ?_
  refine SOps.move rfl ?_
  refine SOps.lenM rfl sliceB_36_25_6 ?_
  refine SOps.bin rfl rfl rfl ?_
  refine SOps.move rfl ?_
  refine SOps.caseB 18 rfl (fun hb1 => ?_) (fun hb1 => ?_)
  · try simp only [decide_eq_true_eq, decide_eq_false_iff_not, Bool.not_eq_true', Bool.not_eq_false', beq_iff_eq, bne_iff_ne, ne_eq, beq_eq_false_iff_ne, bne_eq_false_iff_eq, Int.not_lt, Int.not_le, Nat.not_lt, Nat.not_le, Int.ofNat_lt, Int.ofNat_le, Bool.not_eq_eq_eq_not, Bool.not_true, Bool.not_false] at hb1
    refine SOps.skip rfl ?_
    refine SOps.skip rfl ?_
    refine SOps.skip rfl ?_
    refine SOps.pick rfl rfl ?_
    refine SOps.move rfl ?_
    refine SOps.skip rfl ?_
    refine SOps.skip rfl ?_
    refine SOps.skip rfl ?_
    refine SOps.skip rfl ?_
    refine SOps.pick rfl rfl ?_
    refine SOps.nil ?_
    refine SCode.cond rfl (fun _ => ?_) (fun h => by cases h)
    refine SCode.seqR ?_
    refine SOps.assign rfl ?_
    refine SOps.assign rfl ?_
    refine SOps.nil ?_
    refine SCode.nilIsl (t := 6) (sz := 1) rfl ?_
    refine SCode.drop ?_
    refine SCode.ret ?_
    exact ⟨_, Res.two (.tmp rfl) (.tmp rfl), (by unfold traceR traceX; rw [if_neg (fun h => by have hok := h; simp only [okT, Bool.and_eq_true, decide_eq_true_eq, List.all_eq_true] at hok; omega)]; rfl), rfl⟩
  · try simp only [decide_eq_true_eq, decide_eq_false_iff_not, Bool.not_eq_true', Bool.not_eq_false', beq_iff_eq, bne_iff_ne, ne_eq, beq_eq_false_iff_ne, bne_eq_false_iff_eq, Int.not_lt, Int.not_le, Nat.not_lt, Nat.not_le, Int.ofNat_lt, Int.ofNat_le, Bool.not_eq_eq_eq_not, Bool.not_true, Bool.not_false] at hb1
    refine SOps.move rfl ?_
    refine SOps.callP (lAdm _) rfl ?_
    rintro _ rfl
    refine SOps.un rfl rfl ?_
    refine SOps.pick rfl rfl ?_
    refine SOps.move rfl ?_
    refine SOps.caseB 23 rfl (fun hb2 => ?_) (fun hb2 => ?_)
    · try simp only [decide_eq_true_eq, decide_eq_false_iff_not, Bool.not_eq_true', Bool.not_eq_false', beq_iff_eq, bne_iff_ne, ne_eq, beq_eq_false_iff_ne, bne_eq_false_iff_eq, Int.not_lt, Int.not_le, Nat.not_lt, Nat.not_le, Int.ofNat_lt, Int.ofNat_le, Bool.not_eq_eq_eq_not, Bool.not_true, Bool.not_false] at hb2
      refine SOps.skip rfl ?_
      refine SOps.skip rfl ?_
      refine SOps.skip rfl ?_
      refine SOps.skip rfl ?_
      refine SOps.pick rfl rfl ?_
      refine SOps.nil ?_
      refine SCode.cond rfl (fun _ => ?_) (fun h => by cases h)
      refine SCode.seqR ?_
      refine SOps.assign rfl ?_
      refine SOps.assign rfl ?_
      refine SOps.nil ?_
      refine SCode.nilIsl (t := 6) (sz := 1) rfl ?_
      refine SCode.drop ?_
      refine SCode.ret ?_
      exact ⟨_, Res.two (.tmp rfl) (.tmp rfl), (by unfold traceR traceX; rw [if_neg (fun h => by have hok := h; simp only [okT, Bool.and_eq_true, decide_eq_true_eq, List.all_eq_true] at hok; simp_all)]; rfl), rfl⟩
    · try simp only [decide_eq_true_eq, decide_eq_false_iff_not, Bool.not_eq_true', Bool.not_eq_false', beq_iff_eq, bne_iff_ne, ne_eq, beq_eq_false_iff_ne, bne_eq_false_iff_eq, Int.not_lt, Int.not_le, Nat.not_lt, Nat.not_le, Int.ofNat_lt, Int.ofNat_le, Bool.not_eq_eq_eq_not, Bool.not_true, Bool.not_false] at hb2
      refine SOps.move rfl ?_
      refine SOps.move rfl ?_
      refine SOps.callP (lIsWord hV _ _) rfl ?_
      rintro _ rfl
      refine SOps.un rfl rfl ?_
      refine SOps.pick rfl rfl ?_
      refine SOps.nil ?_
      refine SCode.cond rfl (fun hc3 => ?_) (fun hc3 => ?_)
      · try simp only [decide_eq_true_eq, decide_eq_false_iff_not, Bool.not_eq_true', Bool.not_eq_false', beq_iff_eq, bne_iff_ne, ne_eq, beq_eq_false_iff_ne, bne_eq_false_iff_eq, Int.not_lt, Int.not_le, Nat.not_lt, Nat.not_le, Int.ofNat_lt, Int.ofNat_le, Bool.not_eq_eq_eq_not, Bool.not_true, Bool.not_false] at hc3
        refine SCode.seqR ?_
        refine SOps.assign rfl ?_
        refine SOps.assign rfl ?_
        refine SOps.nil ?_
        refine SCode.nilIsl (t := 6) (sz := 1) rfl ?_
        refine SCode.drop ?_
        refine SCode.ret ?_
        exact ⟨_, Res.two (.tmp rfl) (.tmp rfl), (by unfold traceR traceX; rw [if_neg (fun h => by have hok := h; simp only [okT, Bool.and_eq_true, decide_eq_true_eq, List.all_eq_true] at hok; simp_all)]; rfl), rfl⟩
      · try simp only [decide_eq_true_eq, decide_eq_false_iff_not, Bool.not_eq_true', Bool.not_eq_false', beq_iff_eq, bne_iff_ne, ne_eq, beq_eq_false_iff_ne, bne_eq_false_iff_eq, Int.not_lt, Int.not_le, Nat.not_lt, Nat.not_le, Int.ofNat_lt, Int.ofNat_le, Bool.not_eq_eq_eq_not, Bool.not_true, Bool.not_false] at hc3
        refine SCode.skip ?_
        show SCode _ _ _ _
        refine SCode.seq ?_
        refine SCode.seqR ?_
        refine SOps.move rfl ?_
        refine SOps.lenM rfl sliceB_36_25_6 ?_
        refine SOps.move rfl ?_
        refine SOps.nil ?_
        refine SCode.block ?_
        refine SCode.loop1 (fun (i : Nat) => (⟨69, [(0, DLs a), (1, DRs l), (2, .v (.string s)), (29, DRs l), (30, .v (.int .i64 ((l.length : Nat) : Int))), (31, .v (.int .i64 (i : Int)))], []⟩ : St)) (fun (i : Nat) => i ≤ l.length ∧ ∀ r ∈ l.take i, validR a r = true) (fun (i : Nat) => l.length - i) (0) (by simp) (St.Le.of ⟨(by first | rfl | (show some _ = some _; simp)), (by first | rfl | (show some _ = some _; simp)), (by first | rfl | (show some _ = some _; simp)), (by first | rfl | (show some _ = some _; simp)), (by first | rfl | (show some _ = some _; simp)), (by first | rfl | (show some _ = some _; simp)), trivial⟩ rfl (by first | rfl | (simp))) ?_
        rintro i ⟨hi, hf⟩
        refine SCode.seqR ?_
        refine SOps.bin rfl rfl rfl ?_
        refine SOps.nil ?_
        refine SCode.seq ?_
        refine SCode.cond rfl (fun hc4 => ?_) (fun hc4 => ?_)
        · try simp only [decide_eq_true_eq, decide_eq_false_iff_not, Bool.not_eq_true', Bool.not_eq_false', beq_iff_eq, bne_iff_ne, ne_eq, beq_eq_false_iff_ne, bne_eq_false_iff_eq, Int.not_lt, Int.not_le, Nat.not_lt, Nat.not_le, Int.ofNat_lt, Int.ofNat_le, Bool.not_eq_eq_eq_not, Bool.not_true, Bool.not_false] at hc4
          refine SCode.skip ?_
          show SCode _ _ _ _
          refine SCode.seq ?_
          refine SCode.block ?_
          refine SCode.seqR ?_
          refine SOps.indexM (i) rfl rfl sliceB_36_25_6 (by first | omega | (simp only [lenB]; omega)) (by first | omega | (simp only [lenB]; omega)) ?_
          refine SOps.loadPinA rfl aggB_25_6 (Nat.le_of_ble_eq_true rfl) ?_
          refine SOps.alloc (sz := 6) zeroIs_25 (fun b0 hb_0 => ?_)
          refine SOps.storeAM 0 rfl rfl aggB_25_6 rfl ?_
          refine SOps.freezeRef (t := 9) 0 0 rfl rfl rfl rfl rfl ?_
          refine SOps.nil ?_
          refine SCode.seqR ?_
          have hr6 := hr _ (List.getElem_mem (show i < l.length by omega))
          refine SOps.move rfl ?_
          refine SOps.loadPinA rfl aggB_25_6 (Nat.le_of_ble_eq_true rfl) ?_
          refine SOps.callP (rValid hV _ _ hr6) rfl ?_
          rintro _ rfl
          refine SOps.un rfl rfl ?_
          refine SOps.nil ?_
          refine SCode.cond rfl (fun hc5 => ?_) (fun hc5 => ?_)
          · try simp only [decide_eq_true_eq, decide_eq_false_iff_not, Bool.not_eq_true', Bool.not_eq_false', beq_iff_eq, bne_iff_ne, ne_eq, beq_eq_false_iff_ne, bne_eq_false_iff_eq, Int.not_lt, Int.not_le, Nat.not_lt, Nat.not_le, Int.ofNat_lt, Int.ofNat_le, Bool.not_eq_eq_eq_not, Bool.not_true, Bool.not_false] at hc5
            refine SCode.seqR ?_
            refine SOps.assign rfl ?_
            refine SOps.assign rfl ?_
            refine SOps.nil ?_
            refine SCode.nilIsl (t := 6) (sz := 1) rfl ?_
            refine SCode.drop ?_
            refine SCode.ret ?_
            exact ⟨_, Res.two (.tmp rfl) (.tmp rfl), (by unfold traceR traceX; rw [if_neg (fun h => by have hok := h; simp only [okT, Bool.and_eq_true, decide_eq_true_eq, List.all_eq_true] at hok; have := hok.2 _ (List.getElem_mem (show i < l.length by omega)); simp_all)]; rfl), rfl⟩
          · try simp only [decide_eq_true_eq, decide_eq_false_iff_not, Bool.not_eq_true', Bool.not_eq_false', beq_iff_eq, bne_iff_ne, ne_eq, beq_eq_false_iff_ne, bne_eq_false_iff_eq, Int.not_lt, Int.not_le, Nat.not_lt, Nat.not_le, Int.ofNat_lt, Int.ofNat_le, Bool.not_eq_eq_eq_not, Bool.not_true, Bool.not_false] at hc5
            refine SCode.skip ?_
            show SCode _ _ _ _
            refine SCode.region ?_
            refine SOps.addI rfl rfl (by first | omega | (simp only [lenB]; omega)) (by first | omega | (simp only [lenB]; omega)) ?_
            refine SOps.move rfl ?_
            refine SOps.nil ?_
            exact ⟨i + 1, by exact ⟨by omega, take_more hf (by omega) hc5⟩, by omega, (St.Le.of ⟨(by first | rfl | (show some _ = some _; simp)), (by first | rfl | (show some _ = some _; simp)), (by first | rfl | (show some _ = some _; simp)), (by first | rfl | (show some _ = some _; simp)), (by first | rfl | (show some _ = some _; simp)), (by first | rfl | (show some _ = some _; simp)), trivial⟩ rfl (by first | rfl | (simp)))⟩
        · try simp only [decide_eq_true_eq, decide_eq_false_iff_not, Bool.not_eq_true', Bool.not_eq_false', beq_iff_eq, bne_iff_ne, ne_eq, beq_eq_false_iff_ne, bne_eq_false_iff_eq, Int.not_lt, Int.not_le, Nat.not_lt, Nat.not_le, Int.ofNat_lt, Int.ofNat_le, Bool.not_eq_eq_eq_not, Bool.not_true, Bool.not_false] at hc4
          refine SCode.exit ?_
          show SCode _ _ _ _
          refine SCode.seqR ?_
          refine SOps.move rfl ?_
          refine SOps.litO sliceB_39_9_1 zeroIs_9 rfl (fun b1 hb_1 => ?_)
          refine SOps.assign rfl ?_
          refine SOps.nil ?_
          refine SCode.seq ?_
          refine SCode.seqR ?_
          refine SOps.move rfl ?_
          refine SOps.lenM rfl sliceB_36_25_6 ?_
          refine SOps.move rfl ?_
          refine SOps.nil ?_
          refine SCode.block ?_
          have hall : l.all (validR a) = true := List.all_eq_true.2 (all_of (by omega) hf)
          have hok : okT a l s = true := by rcases Classical.em (l.length ≤ 64) with h64 | h64 <;> first | (exfalso; omega) | (simp_all [okT]; done)
          have h64 : l.length ≤ 64 := by omega
          refine SCode.loop3 (fun (j : Nat) (out : List ByteArray) (k : Nat) => (⟨69, [(0, DLs a), (10, .sl k 1 0 out.length), (42, DRs l), (43, .v (.int .i64 ((l.length : Nat) : Int))), (44, .v (.int .i64 (j : Int)))], [(k, .row 9 1 (out.map encS))]⟩ : St)) (fun (j : Nat) (out : List ByteArray) (k : Nat) => j ≤ l.length ∧ ∃ (ho : out.length = j + 1), (out[out.length - 1]'(by omega)).size ≤ 1048576 ∧ trF (applyR a) (l.drop j) out (out[out.length - 1]'(by omega)) = trF (applyR a) l [s] s) (fun (j : Nat) (out : List ByteArray) (k : Nat) => l.length - j) (0) ([s]) (b1) (by exact ⟨Nat.zero_le _, rfl, hs, rfl⟩) (St.Le.of ⟨(by first | rfl | (show some _ = some _; simp)), (by first | rfl | (show some _ = some _; simp)), (by first | rfl | (show some _ = some _; simp)), (by first | rfl | (show some _ = some _; simp)), (by first | rfl | (show some _ = some _; simp)), trivial⟩ rfl (by first | rfl | (simp))) ?_
          rintro j out k ⟨hj, ho, hz, ht⟩
          refine SCode.seqR ?_
          refine SOps.bin rfl rfl rfl ?_
          refine SOps.nil ?_
          refine SCode.seq ?_
          refine SCode.cond rfl (fun hc6 => ?_) (fun hc6 => ?_)
          · try simp only [decide_eq_true_eq, decide_eq_false_iff_not, Bool.not_eq_true', Bool.not_eq_false', beq_iff_eq, bne_iff_ne, ne_eq, beq_eq_false_iff_ne, bne_eq_false_iff_eq, Int.not_lt, Int.not_le, Nat.not_lt, Nat.not_le, Int.ofNat_lt, Int.ofNat_le, Bool.not_eq_eq_eq_not, Bool.not_true, Bool.not_false] at hc6
            refine SCode.skip ?_
            show SCode _ _ _ _
            refine SCode.seq ?_
            refine SCode.block ?_
            refine SCode.seqR ?_
            refine SOps.indexM (j) rfl rfl sliceB_36_25_6 (by first | omega | (simp only [lenB]; omega)) (by first | omega | (simp only [lenB]; omega)) ?_
            refine SOps.loadPinA rfl aggB_25_6 (Nat.le_of_ble_eq_true rfl) ?_
            refine SOps.alloc (sz := 6) zeroIs_25 (fun b2 hb_2 => ?_)
            refine SOps.storeAM 0 rfl rfl aggB_25_6 rfl ?_
            refine SOps.freezeRef (t := 12) 0 0 rfl rfl rfl rfl rfl ?_
            refine SOps.nil ?_
            refine SCode.seq ?_
            have hjl : j < l.length := by omega
            have hr13 := hr _ (List.getElem_mem hjl)
            refine SCode.drawPure mixed_ [(49, DLs a), (50, .agg (encR (l[j]))), (51, .sl k 1 0 out.length), (52, .sl k 1 0 out.length), (53, .v (.int .i64 ((out.length : Nat) : Int))), (54, .v (.int .i64 ((out.length : Int) - 1))), (55, .ref k ((0 + (out.length - 1)) * 1)), (56, .v (.string (out[out.length - 1]))), (57, tupA (applyR a (l[j]) (out[out.length - 1]))), (48, tupA (applyR a (l[j]) (out[out.length - 1]))), (58, .v (.string (applyR a (l[j]) (out[out.length - 1])).1)), (59, .v (.int .i64 (applyR a (l[j]) (out[out.length - 1])).2)), (13, .v (.string (applyR a (l[j]) (out[out.length - 1])).1)), (14, .v (.int .i64 (applyR a (l[j]) (out[out.length - 1])).2))] [49, 50, 51, 52, 53, 54, 55, 56, 57, 48, 58, 59, 13, 14] [[.inr 0], [.inr 12], [.inr 10], [.inr 10], [.inl 3], [.inl 4], [.inl 2, .inl 5], [.inl 6], [.inl 0, .inl 1, .inl 7], [.inl 8], [.inl 9], [.inl 9], [.inl 10], [.inl 11]] [[(0, DLs a)], [(12, .ipin (encR (l[j])))], [(10, .sl k 1 0 out.length)], [(10, .sl k 1 0 out.length)], [(52, .sl k 1 0 out.length)], [(53, .v (.int .i64 ((out.length : Nat) : Int)))], [(51, .sl k 1 0 out.length), (54, .v (.int .i64 ((out.length : Int) - 1)))], [(55, .ref k ((0 + (out.length - 1)) * 1))], [(49, DLs a), (50, .agg (encR (l[j]))), (56, .v (.string (out[out.length - 1])))], [(57, tupA (applyR a (l[j]) (out[out.length - 1])))], [(48, tupA (applyR a (l[j]) (out[out.length - 1])))], [(48, tupA (applyR a (l[j]) (out[out.length - 1])))], [(58, .v (.string (applyR a (l[j]) (out[out.length - 1])).1))], [(59, .v (.int .i64 (applyR a (l[j]) (out[out.length - 1])).2))]] rfl (by kernel_rfl) (by kernel_rfl) rfl ?_ ?_
            · refine OpsOk.cons (fun rest => ?_) ?_
              · refine SOps.move rfl ?_
                exact SOps.nil (by first | rfl | simp_all)
              refine OpsOk.cons (fun rest => ?_) ?_
              · refine SOps.loadPinA rfl aggB_25_6 (Nat.le_of_ble_eq_true rfl) ?_
                exact SOps.nil (by first | rfl | simp_all)
              refine OpsOk.cons (fun rest => ?_) ?_
              · refine SOps.move rfl ?_
                exact SOps.nil (by first | rfl | simp_all)
              refine OpsOk.cons (fun rest => ?_) ?_
              · refine SOps.move rfl ?_
                exact SOps.nil (by first | rfl | simp_all)
              refine OpsOk.cons (fun rest => ?_) ?_
              · refine SOps.lenSl rfl sliceB_39_9_1 ?_
                exact SOps.nil (by first | rfl | simp_all)
              refine OpsOk.cons (fun rest => ?_) ?_
              · refine SOps.subI rfl rfl (by first | omega | (simp only [lenB]; omega)) (by first | omega | (simp only [lenB]; omega)) ?_
                exact SOps.nil (by first | rfl | simp_all)
              refine OpsOk.cons (fun rest => ?_) ?_
              · refine SOps.indexS ((out.length - 1)) rfl rfl sliceB_39_9_1 (by first | omega | (simp only [lenB]; omega)) (by first | omega | (simp only [lenB]; omega)) ?_
                exact SOps.nil (by first | rfl | simp_all)
              refine OpsOk.cons (fun rest => ?_) ?_
              · refine SOps.loadK 0 ((out.length - 1)) rfl flatB_9 rfl (by first | omega | (simp only [lenB]; omega)) (by first | omega | (simp; omega)) rfl ?_
                exact SOps.nil (by first | rfl | simp_all)
              refine OpsOk.cons (fun rest => ?_) ?_
              · refine SOps.callP (rApply hV _ _ _ hr13 hz) rfl ?_
                rintro _ rfl
                exact SOps.nil (by first | rfl | simp_all)
              refine OpsOk.cons (fun rest => ?_) ?_
              · refine SOps.move rfl ?_
                exact SOps.nil (by first | rfl | simp_all)
              refine OpsOk.cons (fun rest => ?_) ?_
              · refine SOps.extract rfl rfl ?_
                exact SOps.nil (by first | rfl | simp_all)
              refine OpsOk.cons (fun rest => ?_) ?_
              · refine SOps.extract rfl rfl ?_
                exact SOps.nil (by first | rfl | simp_all)
              refine OpsOk.cons (fun rest => ?_) ?_
              · refine SOps.assign rfl ?_
                exact SOps.nil (by first | rfl | simp_all)
              refine OpsOk.cons (fun rest => ?_) ?_
              · refine SOps.assign rfl ?_
                exact SOps.nil (by first | rfl | simp_all)
              exact OpsOk.nil
            · show SCode _ _ _ _
              refine SCode.seq ?_
              refine SCode.seqR ?_
              refine SOps.move rfl ?_
              refine SOps.bin rfl rfl rfl ?_
              refine SOps.nil ?_
              refine SCode.cond rfl (fun hc7 => ?_) (fun hc7 => ?_)
              · try simp only [decide_eq_true_eq, decide_eq_false_iff_not, Bool.not_eq_true', Bool.not_eq_false', beq_iff_eq, bne_iff_ne, ne_eq, beq_eq_false_iff_ne, bne_eq_false_iff_eq, Int.not_lt, Int.not_le, Nat.not_lt, Nat.not_le, Int.ofNat_lt, Int.ofNat_le, Bool.not_eq_eq_eq_not, Bool.not_true, Bool.not_false] at hc7
                refine SCode.seqR ?_
                refine SOps.move rfl ?_
                refine SOps.assign rfl ?_
                refine SOps.assign rfl ?_
                refine SOps.nil ?_
                refine SCode.nilIsl (t := 6) (sz := 1) rfl ?_
                refine SCode.drop ?_
                refine SCode.ret ?_
                exact ⟨_, Res.two (.tmp rfl) (.tmp rfl), (by unfold traceR traceX; rw [if_pos hok, ← ht, List.drop_eq_getElem_cons hjl, trF_cons, if_neg hc7]; rfl), rfl⟩
              · try simp only [decide_eq_true_eq, decide_eq_false_iff_not, Bool.not_eq_true', Bool.not_eq_false', beq_iff_eq, bne_iff_ne, ne_eq, beq_eq_false_iff_ne, bne_eq_false_iff_eq, Int.not_lt, Int.not_le, Nat.not_lt, Nat.not_le, Int.ofNat_lt, Int.ofNat_le, Bool.not_eq_eq_eq_not, Bool.not_true, Bool.not_false] at hc7
                refine SCode.skip ?_
                show SCode _ _ _ _
                refine SCode.region ?_
                refine SOps.move rfl ?_
                refine SOps.move rfl ?_
                refine SOps.litF rfl sliceB_39_9_1 zeroIs_9 rfl ?_
                refine SOps.appendOwn 0 sliceB_39_9_1 elemB_9_1_16 rfl rfl rfl (by simp) SrcD.isl (by simp) (by simp [lenB] <;> (first | omega | (simp only [lenB]; omega))) (by simp <;> (first | omega | (simp only [lenB]; omega))) (fun b3 hb_3 => ?_)
                refine SOps.assign rfl ?_
                refine SOps.nil ?_
                show SCode _ _ _ _
                refine SCode.region ?_
                refine SOps.addI rfl rfl (by first | omega | (simp only [lenB]; omega)) (by first | omega | (simp only [lenB]; omega)) ?_
                refine SOps.move rfl ?_
                refine SOps.nil ?_
                exact ⟨j + 1, out ++ [(applyR a (l[j]) (out[out.length - 1])).1], b3, ⟨by omega, by simp; omega, by simp; exact resX_size _ _ _ _, by rw [← ht, List.drop_eq_getElem_cons hjl, trF_cons, if_pos hc7]; simp⟩, by omega, St.Le.of ⟨rfl, (by show some _ = some _; simp), rfl, rfl, rfl, trivial⟩ rfl (by rw [List.map_append]; rfl)⟩
          · try simp only [decide_eq_true_eq, decide_eq_false_iff_not, Bool.not_eq_true', Bool.not_eq_false', beq_iff_eq, bne_iff_ne, ne_eq, beq_eq_false_iff_ne, bne_eq_false_iff_eq, Int.not_lt, Int.not_le, Nat.not_lt, Nat.not_le, Int.ofNat_lt, Int.ofNat_le, Bool.not_eq_eq_eq_not, Bool.not_true, Bool.not_false] at hc6
            refine SCode.exit ?_
            show SCode _ _ _ _
            refine SCode.seqR ?_
            refine SOps.freezeS (t := 10) 0 rfl rfl rfl (by simp) ?_
            refine SOps.move rfl ?_
            refine SOps.assign rfl ?_
            refine SOps.assign rfl ?_
            refine SOps.nil ?_
            refine SCode.drop ?_
            refine SCode.ret ?_
            exact ⟨_, Res.two (.tmp rfl) (.tmp rfl), (by unfold traceR traceX; rw [if_pos hok, ← ht, List.drop_eq_nil_of_le (by omega), trF_nil]; rfl), rfl⟩
theorem qTrace (hV : VS E) (a : List Letter) (l : List Rule) (s : ByteArray) (hr : ∀ r ∈ l, SmR r) (hs : s.size ≤ 1048576) : GCall Tryd.prog E 44 [DLs a, DRs l, .v (.string s)] [] (fun d H => d = tupT (traceQ a l s) ∧ H = []) := by
  refine GCall.body (C := ⟨Tryd.prog, E, true⟩) Tryd.func44 rfl (fun _ => rfl) (by kernel_rfl) rfl ?_
  refine SCode.seqR ?_
  refine SOps.assign rfl ?_
  refine SOps.assign rfl ?_
  refine SOps.nil ?_
  refine SCode.seq ?_
  refine SCode.seqR ?_
  refine SOps.move rfl ?_
  refine SOps.move rfl ?_
  refine SOps.move rfl ?_
  refine SOps.callP (qCheck hV _ _ _) rfl ?_
  rintro _ rfl
  refine SOps.un rfl rfl ?_
  refine SOps.nil ?_
  refine SCode.cond rfl (fun hc1 => ?_) (fun hc1 => ?_)
  · try simp only [decide_eq_true_eq, decide_eq_false_iff_not, Bool.not_eq_true', Bool.not_eq_false', beq_iff_eq, bne_iff_ne, ne_eq, beq_eq_false_iff_ne, bne_eq_false_iff_eq, Int.not_lt, Int.not_le, Nat.not_lt, Nat.not_le, Int.ofNat_lt, Int.ofNat_le, Bool.not_eq_eq_eq_not, Bool.not_true, Bool.not_false] at hc1
    refine SCode.seqR ?_
    refine SOps.assign rfl ?_
    refine SOps.assign rfl ?_
    refine SOps.nil ?_
    refine SCode.nilIsl (t := 6) (sz := 1) rfl ?_
    refine SCode.drop ?_
    refine SCode.ret ?_
    exact ⟨_, Res.two (.tmp rfl) (.tmp rfl), (by unfold traceQ traceX; rw [if_neg (by simp_all)]; rfl), rfl⟩
  · try simp only [decide_eq_true_eq, decide_eq_false_iff_not, Bool.not_eq_true', Bool.not_eq_false', beq_iff_eq, bne_iff_ne, ne_eq, beq_eq_false_iff_ne, bne_eq_false_iff_eq, Int.not_lt, Int.not_le, Nat.not_lt, Nat.not_le, Int.ofNat_lt, Int.ofNat_le, Bool.not_eq_eq_eq_not, Bool.not_true, Bool.not_false] at hc1
    refine SCode.skip ?_
    show SCode _ _ _ _
    refine SCode.seqR ?_
    refine SOps.move rfl ?_
    refine SOps.litO sliceB_39_9_1 zeroIs_9 rfl (fun b0 hb_0 => ?_)
    refine SOps.assign rfl ?_
    refine SOps.nil ?_
    refine SCode.seq ?_
    refine SCode.seqR ?_
    refine SOps.assign rfl ?_
    refine SOps.nil ?_
    refine SCode.block ?_
    have h64 : l.length ≤ 64 := by have hok := hc1; simp only [okT, Bool.and_eq_true, decide_eq_true_eq] at hok; exact hok.1.1.1
    refine SCode.loop3 (fun (j : Nat) (out : List ByteArray) (k : Nat) => (⟨46, [(0, DLs a), (1, DRs l), (8, .sl k 1 0 out.length), (9, .v (.int .i64 (j : Int)))], [(k, .row 9 1 (out.map encS))]⟩ : St)) (fun (j : Nat) (out : List ByteArray) (k : Nat) => j ≤ l.length ∧ ∃ (ho : out.length = j + 1), (out[j]'(by omega)).size ≤ 1048576 ∧ trF (applyQ a) (l.drop j) out (out[j]'(by omega)) = trF (applyQ a) l [s] s) (fun (j : Nat) (out : List ByteArray) (k : Nat) => l.length - j) (0) ([s]) (b0) (by exact ⟨Nat.zero_le _, rfl, hs, rfl⟩) (St.Le.of ⟨(by first | rfl | (show some _ = some _; simp)), (by first | rfl | (show some _ = some _; simp)), (by first | rfl | (show some _ = some _; simp)), (by first | rfl | (show some _ = some _; simp)), trivial⟩ rfl (by first | rfl | (simp))) ?_
    rintro j out k ⟨hj, ho, hz, ht⟩
    refine SCode.seq ?_
    refine SCode.seqR ?_
    refine SOps.move rfl ?_
    refine SOps.move rfl ?_
    refine SOps.lenM rfl sliceB_36_25_6 ?_
    refine SOps.bin rfl rfl rfl ?_
    refine SOps.nil ?_
    refine SCode.cond rfl (fun hc2 => ?_) (fun hc2 => ?_)
    · try simp only [decide_eq_true_eq, decide_eq_false_iff_not, Bool.not_eq_true', Bool.not_eq_false', beq_iff_eq, bne_iff_ne, ne_eq, beq_eq_false_iff_ne, bne_eq_false_iff_eq, Int.not_lt, Int.not_le, Nat.not_lt, Nat.not_le, Int.ofNat_lt, Int.ofNat_le, Bool.not_eq_eq_eq_not, Bool.not_true, Bool.not_false] at hc2
      refine SCode.skip ?_
      show SCode _ _ _ _
      refine SCode.seq ?_
      refine SCode.block ?_
      refine SCode.seq ?_
      have hjl : j < l.length := by omega
      have hjo : j < out.length := by omega
      have hr13 := hr _ (List.getElem_mem hjl)
      refine SCode.drawPure mixed_ [(26, DLs a), (27, DRs l), (28, .v (.int .i64 (j : Int))), (29, .ipin (encR (l[j]))), (30, .agg (encR (l[j]))), (31, .sl k 1 0 out.length), (32, .v (.int .i64 (j : Int))), (33, .ref k ((0 + j) * 1)), (34, .v (.string (out[j]))), (35, tupA (applyQ a (l[j]) (out[j]))), (25, tupA (applyQ a (l[j]) (out[j]))), (36, .v (.string (applyQ a (l[j]) (out[j])).1)), (37, .v (.int .i64 (applyQ a (l[j]) (out[j])).2)), (10, .v (.string (applyQ a (l[j]) (out[j])).1)), (11, .v (.int .i64 (applyQ a (l[j]) (out[j])).2))] [26, 27, 28, 29, 30, 31, 32, 33, 34, 35, 25, 36, 37, 10, 11] [[.inr 0], [.inr 1], [.inr 9], [.inl 1, .inl 2], [.inl 3], [.inr 8], [.inr 9], [.inl 5, .inl 6], [.inl 7], [.inl 0, .inl 4, .inl 8], [.inl 9], [.inl 10], [.inl 10], [.inl 11], [.inl 12]] [[(0, DLs a)], [(1, DRs l)], [(9, .v (.int .i64 (j : Int)))], [(27, DRs l), (28, .v (.int .i64 (j : Int)))], [(29, .ipin (encR (l[j])))], [(8, .sl k 1 0 out.length)], [(9, .v (.int .i64 (j : Int)))], [(31, .sl k 1 0 out.length), (32, .v (.int .i64 (j : Int)))], [(33, .ref k ((0 + j) * 1))], [(26, DLs a), (30, .agg (encR (l[j]))), (34, .v (.string (out[j])))], [(35, tupA (applyQ a (l[j]) (out[j])))], [(25, tupA (applyQ a (l[j]) (out[j])))], [(25, tupA (applyQ a (l[j]) (out[j])))], [(36, .v (.string (applyQ a (l[j]) (out[j])).1))], [(37, .v (.int .i64 (applyQ a (l[j]) (out[j])).2))]] rfl (by kernel_rfl) (by kernel_rfl) rfl ?_ ?_
      · refine OpsOk.cons (fun rest => ?_) ?_
        · refine SOps.move rfl ?_
          exact SOps.nil (by first | rfl | simp_all)
        refine OpsOk.cons (fun rest => ?_) ?_
        · refine SOps.move rfl ?_
          exact SOps.nil (by first | rfl | simp_all)
        refine OpsOk.cons (fun rest => ?_) ?_
        · refine SOps.move rfl ?_
          exact SOps.nil (by first | rfl | simp_all)
        refine OpsOk.cons (fun rest => ?_) ?_
        · refine SOps.indexM (j) rfl rfl sliceB_36_25_6 (by first | omega | (simp only [lenB]; omega)) (by first | omega | (simp only [lenB]; omega)) ?_
          exact SOps.nil (by first | rfl | simp_all)
        refine OpsOk.cons (fun rest => ?_) ?_
        · refine SOps.loadPinA rfl aggB_25_6 (Nat.le_of_ble_eq_true rfl) ?_
          exact SOps.nil (by first | rfl | simp_all)
        refine OpsOk.cons (fun rest => ?_) ?_
        · refine SOps.move rfl ?_
          exact SOps.nil (by first | rfl | simp_all)
        refine OpsOk.cons (fun rest => ?_) ?_
        · refine SOps.move rfl ?_
          exact SOps.nil (by first | rfl | simp_all)
        refine OpsOk.cons (fun rest => ?_) ?_
        · refine SOps.indexS (j) rfl rfl sliceB_39_9_1 (by first | omega | (simp only [lenB]; omega)) (by first | omega | (simp only [lenB]; omega)) ?_
          exact SOps.nil (by first | rfl | simp_all)
        refine OpsOk.cons (fun rest => ?_) ?_
        · refine SOps.loadK 0 (j) rfl flatB_9 rfl (by first | omega | (simp only [lenB]; omega)) (by first | omega | (simp; omega)) rfl ?_
          exact SOps.nil (by first | rfl | simp_all)
        refine OpsOk.cons (fun rest => ?_) ?_
        · refine SOps.callP (qApply hV _ _ _ hr13 hz) rfl ?_
          rintro _ rfl
          exact SOps.nil (by first | rfl | simp_all)
        refine OpsOk.cons (fun rest => ?_) ?_
        · refine SOps.move rfl ?_
          exact SOps.nil (by first | rfl | simp_all)
        refine OpsOk.cons (fun rest => ?_) ?_
        · refine SOps.extract rfl rfl ?_
          exact SOps.nil (by first | rfl | simp_all)
        refine OpsOk.cons (fun rest => ?_) ?_
        · refine SOps.extract rfl rfl ?_
          exact SOps.nil (by first | rfl | simp_all)
        refine OpsOk.cons (fun rest => ?_) ?_
        · refine SOps.assign rfl ?_
          exact SOps.nil (by first | rfl | simp_all)
        refine OpsOk.cons (fun rest => ?_) ?_
        · refine SOps.assign rfl ?_
          exact SOps.nil (by first | rfl | simp_all)
        exact OpsOk.nil
      · show SCode _ _ _ _
        refine SCode.seq ?_
        refine SCode.seqR ?_
        refine SOps.move rfl ?_
        refine SOps.bin rfl rfl rfl ?_
        refine SOps.nil ?_
        refine SCode.cond rfl (fun hc3 => ?_) (fun hc3 => ?_)
        · try simp only [decide_eq_true_eq, decide_eq_false_iff_not, Bool.not_eq_true', Bool.not_eq_false', beq_iff_eq, bne_iff_ne, ne_eq, beq_eq_false_iff_ne, bne_eq_false_iff_eq, Int.not_lt, Int.not_le, Nat.not_lt, Nat.not_le, Int.ofNat_lt, Int.ofNat_le, Bool.not_eq_eq_eq_not, Bool.not_true, Bool.not_false] at hc3
          refine SCode.seqR ?_
          refine SOps.move rfl ?_
          refine SOps.assign rfl ?_
          refine SOps.assign rfl ?_
          refine SOps.nil ?_
          refine SCode.nilIsl (t := 6) (sz := 1) rfl ?_
          refine SCode.drop ?_
          refine SCode.ret ?_
          exact ⟨_, Res.two (.tmp rfl) (.tmp rfl), (by unfold traceQ traceX; rw [if_pos hc1, ← ht, List.drop_eq_getElem_cons hjl, trF_cons, if_neg hc3]; rfl), rfl⟩
        · try simp only [decide_eq_true_eq, decide_eq_false_iff_not, Bool.not_eq_true', Bool.not_eq_false', beq_iff_eq, bne_iff_ne, ne_eq, beq_eq_false_iff_ne, bne_eq_false_iff_eq, Int.not_lt, Int.not_le, Nat.not_lt, Nat.not_le, Int.ofNat_lt, Int.ofNat_le, Bool.not_eq_eq_eq_not, Bool.not_true, Bool.not_false] at hc3
          refine SCode.skip ?_
          show SCode _ _ _ _
          refine SCode.region ?_
          refine SOps.move rfl ?_
          refine SOps.move rfl ?_
          refine SOps.litF rfl sliceB_39_9_1 zeroIs_9 rfl ?_
          refine SOps.appendOwn 0 sliceB_39_9_1 elemB_9_1_16 rfl rfl rfl (by simp) SrcD.isl (by simp) (by simp [lenB] <;> (first | omega | (simp only [lenB]; omega))) (by simp <;> (first | omega | (simp only [lenB]; omega))) (fun b1 hb_1 => ?_)
          refine SOps.assign rfl ?_
          refine SOps.nil ?_
          show SCode _ _ _ _
          refine SCode.region ?_
          refine SOps.move rfl ?_
          refine SOps.addI rfl rfl (by first | omega | (simp only [lenB]; omega)) (by first | omega | (simp only [lenB]; omega)) ?_
          refine SOps.assign rfl ?_
          refine SOps.nil ?_
          exact ⟨j + 1, out ++ [(applyQ a (l[j]) (out[j])).1], b1, ⟨by omega, by simp; omega, by rw [List.getElem_append_right (by omega)]; simp [ho]; exact resX_size _ _ _ _, by rw [← ht, List.drop_eq_getElem_cons hjl, trF_cons, if_pos hc3, List.getElem_append_right (by omega)]; simp [ho]⟩, by omega, St.Le.of ⟨rfl, rfl, (by show some _ = some _; simp), rfl, trivial⟩ rfl (by rw [List.map_append]; rfl)⟩
    · try simp only [decide_eq_true_eq, decide_eq_false_iff_not, Bool.not_eq_true', Bool.not_eq_false', beq_iff_eq, bne_iff_ne, ne_eq, beq_eq_false_iff_ne, bne_eq_false_iff_eq, Int.not_lt, Int.not_le, Nat.not_lt, Nat.not_le, Int.ofNat_lt, Int.ofNat_le, Bool.not_eq_eq_eq_not, Bool.not_true, Bool.not_false] at hc2
      refine SCode.exit ?_
      show SCode _ _ _ _
      refine SCode.seqR ?_
      refine SOps.freezeS (t := 8) 0 rfl rfl rfl (by simp) ?_
      refine SOps.move rfl ?_
      refine SOps.assign rfl ?_
      refine SOps.assign rfl ?_
      refine SOps.nil ?_
      refine SCode.drop ?_
      refine SCode.ret ?_
      exact ⟨_, Res.two (.tmp rfl) (.tmp rfl), (by unfold traceQ traceX; rw [if_pos hc1, ← ht, List.drop_eq_nil_of_le (by omega), trF_nil]; rfl), rfl⟩
theorem trF_len (ap : Rule → ByteArray → ByteArray × Int) : ∀ (l : List Rule) (out : List ByteArray) (last : ByteArray), out ≠ [] → (trF ap l out last).2 = 0 → (trF ap l out last).1 ≠ []
  | [], out, last, h, _ => h
  | r :: rs, out, last, h, h2 => by
    rw [trF_cons] at h2 ⊢
    by_cases h3 : (ap r last).2 = 0
    · rw [if_pos h3] at h2 ⊢
      exact trF_len ap rs _ _ (by simp) h2
    · rw [if_neg h3] at h2
      exact absurd h2 h3
theorem traceX_ne {a : List Letter} {l : List Rule} {s : ByteArray} {ap : Rule → ByteArray → ByteArray × Int} (h : (traceX a l s ap).2 = 0) : (traceX a l s ap).1 ≠ [] := by
  unfold traceX at h ⊢
  split at h
  · rename_i h1
    rw [if_pos h1]
    exact trF_len ap _ _ _ (by simp) h
  · cases h
def cascX (x : List ByteArray × Int) : ByteArray × Int := if x.2 = 0 then (x.1.getLastD ⟨#[]⟩, 0) else (⟨#[]⟩, x.2)
def cascR (a : List Letter) (l : List Rule) (s : ByteArray) : ByteArray × Int := cascX (traceR a l s)
def cascQ (a : List Letter) (l : List Rule) (s : ByteArray) : ByteArray × Int := cascX (traceQ a l s)
theorem last_at {x : List ByteArray} (h : x ≠ []) (h2 : x.length - 1 < x.length) : x[x.length - 1] = x.getLastD ⟨#[]⟩ := by
  rw [List.getLastD_eq_getLast?, List.getLast?_eq_getElem?, List.getElem?_eq_getElem h2]; rfl
theorem rCascade (hV : VS E) (a : List Letter) (l : List Rule) (s : ByteArray) (hr : ∀ r ∈ l, SmR r) (hs : s.size ≤ 1048576) : GCall Tryd.prog E 21 [DLs a, DRs l, .v (.string s)] [] (fun d H => d = tupA (cascX (traceR a l s)) ∧ H = []) := by
  refine GCall.body (C := ⟨Tryd.prog, E, true⟩) Tryd.func21 rfl (fun _ => rfl) (by kernel_rfl) rfl ?_
  refine SCode.seqR ?_
  refine SOps.assign rfl ?_
  refine SOps.assign rfl ?_
  refine SOps.nil ?_
  refine SCode.seqR ?_
  refine SOps.move rfl ?_
  refine SOps.move rfl ?_
  refine SOps.move rfl ?_
  refine SOps.callP (rTrace hV _ _ _ hr hs) rfl ?_
  rintro _ rfl
  refine SOps.move rfl ?_
  refine SOps.extract rfl rfl ?_
  refine SOps.extract rfl rfl ?_
  refine SOps.assign rfl ?_
  refine SOps.assign rfl ?_
  refine SOps.nil ?_
  refine SCode.seq ?_
  refine SCode.seqR ?_
  refine SOps.move rfl ?_
  refine SOps.bin rfl rfl rfl ?_
  refine SOps.nil ?_
  refine SCode.cond rfl (fun hc1 => ?_) (fun hc1 => ?_)
  · try simp only [decide_eq_true_eq, decide_eq_false_iff_not, Bool.not_eq_true', Bool.not_eq_false', beq_iff_eq, bne_iff_ne, ne_eq, beq_eq_false_iff_ne, bne_eq_false_iff_eq, Int.not_lt, Int.not_le, Nat.not_lt, Nat.not_le, Int.ofNat_lt, Int.ofNat_le, Bool.not_eq_eq_eq_not, Bool.not_true, Bool.not_false] at hc1
    refine SCode.seqR ?_
    refine SOps.move rfl ?_
    refine SOps.assign rfl ?_
    refine SOps.assign rfl ?_
    refine SOps.nil ?_
    refine SCode.ret ?_
    exact ⟨_, Res.two (.tmp rfl) (.tmp rfl), (by unfold cascX; rw [if_neg hc1]; rfl), rfl⟩
  · try simp only [decide_eq_true_eq, decide_eq_false_iff_not, Bool.not_eq_true', Bool.not_eq_false', beq_iff_eq, bne_iff_ne, ne_eq, beq_eq_false_iff_ne, bne_eq_false_iff_eq, Int.not_lt, Int.not_le, Nat.not_lt, Nat.not_le, Int.ofNat_lt, Int.ofNat_le, Bool.not_eq_eq_eq_not, Bool.not_true, Bool.not_false] at hc1
    refine SCode.skip ?_
    show SCode _ _ _ _
    refine SCode.seqR ?_
    have hne : (traceR a l s).1 ≠ [] := traceX_ne (show (traceR a l s).2 = 0 from hc1)
    have hnl : 0 < (traceR a l s).1.length := List.length_pos_iff.2 hne
    refine SOps.fact (isl_len (t := 8) rfl) (fun hB => ?_)
    simp only [List.length_map, lenB] at hB
    refine SOps.move rfl ?_
    refine SOps.move rfl ?_
    refine SOps.lenM rfl sliceB_39_9_1 ?_
    refine SOps.subI rfl rfl (by first | omega | (simp only [lenB]; omega)) (by first | omega | (simp only [lenB]; omega)) ?_
    refine SOps.indexM ((traceR a l s).1.length - 1) rfl rfl sliceB_39_9_1 (by first | omega | (simp only [lenB]; omega)) (by first | omega | (simp only [lenB]; omega)) ?_
    refine SOps.loadPin rfl flatB_9 ?_
    refine SOps.assign rfl ?_
    refine SOps.assign rfl ?_
    refine SOps.nil ?_
    refine SCode.ret ?_
    exact ⟨_, Res.two (.tmp rfl) (.tmp rfl), (by unfold cascX; rw [if_pos hc1, last_at hne]; rfl), rfl⟩
theorem qCascade (hV : VS E) (a : List Letter) (l : List Rule) (s : ByteArray) (hr : ∀ r ∈ l, SmR r) (hs : s.size ≤ 1048576) : GCall Tryd.prog E 22 [DLs a, DRs l, .v (.string s)] [] (fun d H => d = tupA (cascX (traceQ a l s)) ∧ H = []) := by
  refine GCall.body (C := ⟨Tryd.prog, E, true⟩) Tryd.func22 rfl (fun _ => rfl) (by kernel_rfl) rfl ?_
  refine SCode.seqR ?_
  refine SOps.assign rfl ?_
  refine SOps.assign rfl ?_
  refine SOps.nil ?_
  refine SCode.seqR ?_
  refine SOps.move rfl ?_
  refine SOps.move rfl ?_
  refine SOps.move rfl ?_
  refine SOps.callP (qTrace hV _ _ _ hr hs) rfl ?_
  rintro _ rfl
  refine SOps.move rfl ?_
  refine SOps.extract rfl rfl ?_
  refine SOps.extract rfl rfl ?_
  refine SOps.assign rfl ?_
  refine SOps.assign rfl ?_
  refine SOps.nil ?_
  refine SCode.seq ?_
  refine SCode.seqR ?_
  refine SOps.move rfl ?_
  refine SOps.bin rfl rfl rfl ?_
  refine SOps.nil ?_
  refine SCode.cond rfl (fun hc1 => ?_) (fun hc1 => ?_)
  · try simp only [decide_eq_true_eq, decide_eq_false_iff_not, Bool.not_eq_true', Bool.not_eq_false', beq_iff_eq, bne_iff_ne, ne_eq, beq_eq_false_iff_ne, bne_eq_false_iff_eq, Int.not_lt, Int.not_le, Nat.not_lt, Nat.not_le, Int.ofNat_lt, Int.ofNat_le, Bool.not_eq_eq_eq_not, Bool.not_true, Bool.not_false] at hc1
    refine SCode.seqR ?_
    refine SOps.move rfl ?_
    refine SOps.assign rfl ?_
    refine SOps.assign rfl ?_
    refine SOps.nil ?_
    refine SCode.ret ?_
    exact ⟨_, Res.two (.tmp rfl) (.tmp rfl), (by unfold cascX; rw [if_neg hc1]; rfl), rfl⟩
  · try simp only [decide_eq_true_eq, decide_eq_false_iff_not, Bool.not_eq_true', Bool.not_eq_false', beq_iff_eq, bne_iff_ne, ne_eq, beq_eq_false_iff_ne, bne_eq_false_iff_eq, Int.not_lt, Int.not_le, Nat.not_lt, Nat.not_le, Int.ofNat_lt, Int.ofNat_le, Bool.not_eq_eq_eq_not, Bool.not_true, Bool.not_false] at hc1
    refine SCode.skip ?_
    show SCode _ _ _ _
    refine SCode.seqR ?_
    have hne : (traceQ a l s).1 ≠ [] := traceX_ne (show (traceQ a l s).2 = 0 from hc1)
    have hnl : 0 < (traceQ a l s).1.length := List.length_pos_iff.2 hne
    refine SOps.fact (isl_len (t := 8) rfl) (fun hB => ?_)
    simp only [List.length_map, lenB] at hB
    refine SOps.move rfl ?_
    refine SOps.move rfl ?_
    refine SOps.lenM rfl sliceB_39_9_1 ?_
    refine SOps.subI rfl rfl (by first | omega | (simp only [lenB]; omega)) (by first | omega | (simp only [lenB]; omega)) ?_
    refine SOps.indexM ((traceQ a l s).1.length - 1) rfl rfl sliceB_39_9_1 (by first | omega | (simp only [lenB]; omega)) (by first | omega | (simp only [lenB]; omega)) ?_
    refine SOps.loadPin rfl flatB_9 ?_
    refine SOps.assign rfl ?_
    refine SOps.assign rfl ?_
    refine SOps.nil ?_
    refine SCode.ret ?_
    exact ⟨_, Res.two (.tmp rfl) (.tmp rfl), (by unfold cascX; rw [if_pos hc1, last_at hne]; rfl), rfl⟩
def smallR (a : List Letter) (r : Rule) (s : ByteArray) : Bool := decide (a.length ≤ 70) && decide (s.size ≤ 100) && decide (r.to.size ≤ 40) && decide (r.left.length ≤ 6) && decide (r.right.length ≤ 6)
theorem smallR_iff {a : List Letter} {r : Rule} {s : ByteArray} : smallR a r s = true ↔ a.length ≤ 70 ∧ s.size ≤ 100 ∧ r.to.size ≤ 40 ∧ r.left.length ≤ 6 ∧ r.right.length ≤ 6 := by
  simp only [smallR, Bool.and_eq_true, decide_eq_true_eq, and_assoc]
def feedsR (a : List Letter) (r t : Rule) (s : ByteArray) : Bool × Int := if validR a t then (if (applyR a r s).2 = 0 then (decide ((sitesR a t s).length < (sitesR a t (applyR a r s).1).length), 0) else (false, (applyR a r s).2)) else (false, 1)
def commX (x y : ByteArray × Int) : Bool × Int := if x.2 = 1 then (false, 1) else if x.2 = 0 ∧ y.2 = 0 then (decide (x.1 = y.1), 0) else (false, 2)
def tupB (x : Bool × Int) : DV := .tup [.v (.bool x.1), .v (.int .i64 x.2)]
theorem map_encN (l : List Nat) : l.map encN = (l.map (fun n : Nat => (n : Int))).map encI := by simp [encN, encI, Function.comp_def]
theorem qIntsN (x y : List Nat) : GCall Tryd.prog E 16 [DNats x, DNats y] [] (fun d H => d = .v (.bool (decide (x = y))) ∧ H = []) := by
  unfold DNats
  rw [map_encN, map_encN]
  refine (qInts _ _).mono (fun d H h => ⟨h.1.trans ?_, h.2⟩)
  congr 2
  rw [Bool.eq_iff_iff, decide_eq_true_eq, decide_eq_true_eq]
  exact List.map_inj_right (fun a b h => by omega)
theorem lSmall (a : List Letter) (r : Rule) (s : ByteArray)  : GCall Tryd.prog E 15 [DLs a, .agg (encR r), .v (.string s)] [] (fun d H => d = .v (.bool (smallR a r s)) ∧ H = []) := by
  refine GCall.body (C := ⟨Tryd.prog, E, true⟩) Tryd.func15 rfl (fun _ => rfl) (by kernel_rfl) rfl ?_
  refine SCode.seqR ?_
  refine SOps.boxAM rfl rfl ?_
  refine SOps.assign rfl ?_
  refine SOps.nil ?_
  refine SCode.seqR ?_
  refine SOps.move rfl ?_
  refine SOps.lenM rfl sliceB_22_50_2 ?_
  refine SOps.bin rfl rfl rfl ?_
  refine SOps.move rfl ?_
  refine SOps.caseB 10 rfl (fun hb1 => ?_) (fun hb1 => ?_)
  · try simp only [decide_eq_true_eq, decide_eq_false_iff_not, Bool.not_eq_true', Bool.not_eq_false', beq_iff_eq, bne_iff_ne, ne_eq, beq_eq_false_iff_ne, bne_eq_false_iff_eq, Int.not_lt, Int.not_le, Nat.not_lt, Nat.not_le, Int.ofNat_lt, Int.ofNat_le, Bool.not_eq_eq_eq_not, Bool.not_true, Bool.not_false] at hb1
    refine SOps.move rfl ?_
    refine SOps.lenStr rfl strB_9 ?_
    refine SOps.bin rfl rfl rfl ?_
    refine SOps.pick rfl rfl ?_
    refine SOps.move rfl ?_
    refine SOps.caseB 15 rfl (fun hb2 => ?_) (fun hb2 => ?_)
    · try simp only [decide_eq_true_eq, decide_eq_false_iff_not, Bool.not_eq_true', Bool.not_eq_false', beq_iff_eq, bne_iff_ne, ne_eq, beq_eq_false_iff_ne, bne_eq_false_iff_eq, Int.not_lt, Int.not_le, Nat.not_lt, Nat.not_le, Int.ofNat_lt, Int.ofNat_le, Bool.not_eq_eq_eq_not, Bool.not_true, Bool.not_false] at hb2
      refine SOps.fieldPin rfl fieldB_25_1_1 ?_
      refine SOps.loadPin rfl flatB_9 ?_
      refine SOps.lenStr rfl strB_9 ?_
      refine SOps.bin rfl rfl rfl ?_
      refine SOps.pick rfl rfl ?_
      refine SOps.move rfl ?_
      refine SOps.caseB 21 rfl (fun hb3 => ?_) (fun hb3 => ?_)
      · try simp only [decide_eq_true_eq, decide_eq_false_iff_not, Bool.not_eq_true', Bool.not_eq_false', beq_iff_eq, bne_iff_ne, ne_eq, beq_eq_false_iff_ne, bne_eq_false_iff_eq, Int.not_lt, Int.not_le, Nat.not_lt, Nat.not_le, Int.ofNat_lt, Int.ofNat_le, Bool.not_eq_eq_eq_not, Bool.not_true, Bool.not_false] at hb3
        refine SOps.fieldPin rfl fieldB_25_2_2 ?_
        refine SOps.loadPin rfl flatB_23 ?_
        refine SOps.lenM rfl sliceB_23_52_4 ?_
        refine SOps.bin rfl rfl rfl ?_
        refine SOps.pick rfl rfl ?_
        refine SOps.move rfl ?_
        refine SOps.caseB 27 rfl (fun hb4 => ?_) (fun hb4 => ?_)
        · try simp only [decide_eq_true_eq, decide_eq_false_iff_not, Bool.not_eq_true', Bool.not_eq_false', beq_iff_eq, bne_iff_ne, ne_eq, beq_eq_false_iff_ne, bne_eq_false_iff_eq, Int.not_lt, Int.not_le, Nat.not_lt, Nat.not_le, Int.ofNat_lt, Int.ofNat_le, Bool.not_eq_eq_eq_not, Bool.not_true, Bool.not_false] at hb4
          refine SOps.fieldPin rfl fieldB_25_3_3 ?_
          refine SOps.loadPin rfl flatB_23 ?_
          refine SOps.lenM rfl sliceB_23_52_4 ?_
          refine SOps.bin rfl rfl rfl ?_
          refine SOps.pick rfl rfl ?_
          refine SOps.assign rfl ?_
          refine SOps.nil ?_
          refine SCode.ret ?_
          exact ⟨_, Res.one (.tmp rfl), congrArg (fun b => DV.v (.bool b)) (by rw [Bool.eq_iff_iff, smallR_iff]; simp only [decide_eq_true_eq, Bool.false_eq_true]; first | omega | (simp only [false_iff]; omega)), rfl⟩
        · try simp only [decide_eq_true_eq, decide_eq_false_iff_not, Bool.not_eq_true', Bool.not_eq_false', beq_iff_eq, bne_iff_ne, ne_eq, beq_eq_false_iff_ne, bne_eq_false_iff_eq, Int.not_lt, Int.not_le, Nat.not_lt, Nat.not_le, Int.ofNat_lt, Int.ofNat_le, Bool.not_eq_eq_eq_not, Bool.not_true, Bool.not_false] at hb4
          refine SOps.skip rfl ?_
          refine SOps.skip rfl ?_
          refine SOps.skip rfl ?_
          refine SOps.skip rfl ?_
          refine SOps.pick rfl rfl ?_
          refine SOps.assign rfl ?_
          refine SOps.nil ?_
          refine SCode.ret ?_
          exact ⟨_, Res.one (.tmp rfl), congrArg (fun b => DV.v (.bool b)) (by rw [Bool.eq_iff_iff, smallR_iff]; simp only [decide_eq_true_eq, Bool.false_eq_true]; first | omega | (simp only [false_iff]; omega)), rfl⟩
      · try simp only [decide_eq_true_eq, decide_eq_false_iff_not, Bool.not_eq_true', Bool.not_eq_false', beq_iff_eq, bne_iff_ne, ne_eq, beq_eq_false_iff_ne, bne_eq_false_iff_eq, Int.not_lt, Int.not_le, Nat.not_lt, Nat.not_le, Int.ofNat_lt, Int.ofNat_le, Bool.not_eq_eq_eq_not, Bool.not_true, Bool.not_false] at hb3
        refine SOps.skip rfl ?_
        refine SOps.skip rfl ?_
        refine SOps.skip rfl ?_
        refine SOps.skip rfl ?_
        refine SOps.pick rfl rfl ?_
        refine SOps.move rfl ?_
        refine SOps.skip rfl ?_
        refine SOps.skip rfl ?_
        refine SOps.skip rfl ?_
        refine SOps.skip rfl ?_
        refine SOps.pick rfl rfl ?_
        refine SOps.assign rfl ?_
        refine SOps.nil ?_
        refine SCode.ret ?_
        exact ⟨_, Res.one (.tmp rfl), congrArg (fun b => DV.v (.bool b)) (by rw [Bool.eq_iff_iff, smallR_iff]; simp only [decide_eq_true_eq, Bool.false_eq_true]; first | omega | (simp only [false_iff]; omega)), rfl⟩
    · try simp only [decide_eq_true_eq, decide_eq_false_iff_not, Bool.not_eq_true', Bool.not_eq_false', beq_iff_eq, bne_iff_ne, ne_eq, beq_eq_false_iff_ne, bne_eq_false_iff_eq, Int.not_lt, Int.not_le, Nat.not_lt, Nat.not_le, Int.ofNat_lt, Int.ofNat_le, Bool.not_eq_eq_eq_not, Bool.not_true, Bool.not_false] at hb2
      refine SOps.skip rfl ?_
      refine SOps.skip rfl ?_
      refine SOps.skip rfl ?_
      refine SOps.skip rfl ?_
      refine SOps.pick rfl rfl ?_
      refine SOps.move rfl ?_
      refine SOps.skip rfl ?_
      refine SOps.skip rfl ?_
      refine SOps.skip rfl ?_
      refine SOps.skip rfl ?_
      refine SOps.pick rfl rfl ?_
      refine SOps.move rfl ?_
      refine SOps.skip rfl ?_
      refine SOps.skip rfl ?_
      refine SOps.skip rfl ?_
      refine SOps.skip rfl ?_
      refine SOps.pick rfl rfl ?_
      refine SOps.assign rfl ?_
      refine SOps.nil ?_
      refine SCode.ret ?_
      exact ⟨_, Res.one (.tmp rfl), congrArg (fun b => DV.v (.bool b)) (by rw [Bool.eq_iff_iff, smallR_iff]; simp only [decide_eq_true_eq, Bool.false_eq_true]; first | omega | (simp only [false_iff]; omega)), rfl⟩
  · try simp only [decide_eq_true_eq, decide_eq_false_iff_not, Bool.not_eq_true', Bool.not_eq_false', beq_iff_eq, bne_iff_ne, ne_eq, beq_eq_false_iff_ne, bne_eq_false_iff_eq, Int.not_lt, Int.not_le, Nat.not_lt, Nat.not_le, Int.ofNat_lt, Int.ofNat_le, Bool.not_eq_eq_eq_not, Bool.not_true, Bool.not_false] at hb1
    refine SOps.skip rfl ?_
    refine SOps.skip rfl ?_
    refine SOps.skip rfl ?_
    refine SOps.pick rfl rfl ?_
    refine SOps.move rfl ?_
    refine SOps.skip rfl ?_
    refine SOps.skip rfl ?_
    refine SOps.skip rfl ?_
    refine SOps.skip rfl ?_
    refine SOps.pick rfl rfl ?_
    refine SOps.move rfl ?_
    refine SOps.skip rfl ?_
    refine SOps.skip rfl ?_
    refine SOps.skip rfl ?_
    refine SOps.skip rfl ?_
    refine SOps.pick rfl rfl ?_
    refine SOps.move rfl ?_
    refine SOps.skip rfl ?_
    refine SOps.skip rfl ?_
    refine SOps.skip rfl ?_
    refine SOps.skip rfl ?_
    refine SOps.pick rfl rfl ?_
    refine SOps.assign rfl ?_
    refine SOps.nil ?_
    refine SCode.ret ?_
    exact ⟨_, Res.one (.tmp rfl), congrArg (fun b => DV.v (.bool b)) (by rw [Bool.eq_iff_iff, smallR_iff]; simp only [decide_eq_true_eq, Bool.false_eq_true]; first | omega | (simp only [false_iff]; omega)), rfl⟩
theorem rFeeds (hV : VS E) (a : List Letter) (r t : Rule) (s : ByteArray) (hr : SmR r) (ht : SmR t) (hs : s.size ≤ 1048576) : GCall Tryd.prog E 25 [DLs a, .agg (encR r), .agg (encR t), .v (.string s)] [] (fun d H => d = tupB (feedsR a r t s) ∧ H = []) := by
  refine GCall.body (C := ⟨Tryd.prog, E, true⟩) Tryd.func25 rfl (fun _ => rfl) (by kernel_rfl) rfl ?_
  refine SCode.seqR ?_
  refine SOps.boxAM rfl rfl ?_
  refine SOps.boxAM rfl rfl ?_
  refine SOps.assign rfl ?_
  refine SOps.assign rfl ?_
  refine SOps.nil ?_
  refine SCode.seq ?_
  refine SCode.seqR ?_
  refine SOps.move rfl ?_
  refine SOps.loadPinA rfl aggB_25_6 (Nat.le_of_ble_eq_true rfl) ?_
  refine SOps.callP (rValid hV _ _ ht) rfl ?_
  rintro _ rfl
  refine SOps.un rfl rfl ?_
  refine SOps.nil ?_
  refine SCode.cond rfl (fun hc1 => ?_) (fun hc1 => ?_)
  · try simp only [decide_eq_true_eq, decide_eq_false_iff_not, Bool.not_eq_true', Bool.not_eq_false', beq_iff_eq, bne_iff_ne, ne_eq, beq_eq_false_iff_ne, bne_eq_false_iff_eq, Int.not_lt, Int.not_le, Nat.not_lt, Nat.not_le, Int.ofNat_lt, Int.ofNat_le, Bool.not_eq_eq_eq_not, Bool.not_true, Bool.not_false] at hc1
    refine SCode.seqR ?_
    refine SOps.assign rfl ?_
    refine SOps.assign rfl ?_
    refine SOps.nil ?_
    refine SCode.ret ?_
    exact ⟨_, Res.two (.tmp rfl) (.tmp rfl), (by unfold feedsR; rw [if_neg (by rw [hc1]; simp)]; rfl), rfl⟩
  · try simp only [decide_eq_true_eq, decide_eq_false_iff_not, Bool.not_eq_true', Bool.not_eq_false', beq_iff_eq, bne_iff_ne, ne_eq, beq_eq_false_iff_ne, bne_eq_false_iff_eq, Int.not_lt, Int.not_le, Nat.not_lt, Nat.not_le, Int.ofNat_lt, Int.ofNat_le, Bool.not_eq_eq_eq_not, Bool.not_true, Bool.not_false] at hc1
    refine SCode.skip ?_
    show SCode _ _ _ _
    refine SCode.seqR ?_
    refine SOps.move rfl ?_
    refine SOps.loadPinA rfl aggB_25_6 (Nat.le_of_ble_eq_true rfl) ?_
    refine SOps.move rfl ?_
    refine SOps.callP (rApply hV _ _ _ hr hs) rfl ?_
    rintro _ rfl
    refine SOps.move rfl ?_
    refine SOps.extract rfl rfl ?_
    refine SOps.extract rfl rfl ?_
    refine SOps.assign rfl ?_
    refine SOps.assign rfl ?_
    refine SOps.nil ?_
    refine SCode.seq ?_
    refine SCode.seqR ?_
    refine SOps.move rfl ?_
    refine SOps.bin rfl rfl rfl ?_
    refine SOps.nil ?_
    refine SCode.cond rfl (fun hc2 => ?_) (fun hc2 => ?_)
    · try simp only [decide_eq_true_eq, decide_eq_false_iff_not, Bool.not_eq_true', Bool.not_eq_false', beq_iff_eq, bne_iff_ne, ne_eq, beq_eq_false_iff_ne, bne_eq_false_iff_eq, Int.not_lt, Int.not_le, Nat.not_lt, Nat.not_le, Int.ofNat_lt, Int.ofNat_le, Bool.not_eq_eq_eq_not, Bool.not_true, Bool.not_false] at hc2
      refine SCode.seqR ?_
      refine SOps.move rfl ?_
      refine SOps.assign rfl ?_
      refine SOps.assign rfl ?_
      refine SOps.nil ?_
      refine SCode.ret ?_
      exact ⟨_, Res.two (.tmp rfl) (.tmp rfl), (by unfold feedsR; rw [if_pos hc1, if_neg hc2]; rfl), rfl⟩
    · try simp only [decide_eq_true_eq, decide_eq_false_iff_not, Bool.not_eq_true', Bool.not_eq_false', beq_iff_eq, bne_iff_ne, ne_eq, beq_eq_false_iff_ne, bne_eq_false_iff_eq, Int.not_lt, Int.not_le, Nat.not_lt, Nat.not_le, Int.ofNat_lt, Int.ofNat_le, Bool.not_eq_eq_eq_not, Bool.not_true, Bool.not_false] at hc2
      refine SCode.skip ?_
      show SCode _ _ _ _
      refine SCode.seq ?_
      have hz := resX_size a r s (sitesR a r s)
      refine SCode.drawPure mixed_ [(26, DLs a), (27, .agg (encR t)), (28, .v (.string (applyR a r s).1)), (29, DNats (sitesR a t (applyR a r s).1)), (30, .v (.int .i64 (((sitesR a t (applyR a r s).1).length : Nat) : Int))), (31, DLs a), (32, .agg (encR t)), (33, .v (.string s)), (34, DNats (sitesR a t s)), (35, .v (.int .i64 (((sitesR a t s).length : Nat) : Int))), (36, .v (.bool (decide ((((sitesR a t s).length : Nat) : Int) < (((sitesR a t (applyR a r s).1).length : Nat) : Int))))), (8, .v (.bool (decide ((((sitesR a t s).length : Nat) : Int) < (((sitesR a t (applyR a r s).1).length : Nat) : Int))))), (9, .v (.int .i64 0))] [26, 27, 28, 29, 30, 31, 32, 33, 34, 35, 36, 8, 9] [[.inr 0], [.inr 6], [.inr 10], [.inl 0, .inl 1, .inl 2], [.inl 3], [.inr 0], [.inr 6], [.inr 3], [.inl 5, .inl 6, .inl 7], [.inl 8], [.inl 4, .inl 9], [.inl 10], []] [[(0, DLs a)], [(6, .ipin (encR t))], [(10, .v (.string (applyR a r s).1))], [(26, DLs a), (27, .agg (encR t)), (28, .v (.string (applyR a r s).1))], [(29, DNats (sitesR a t (applyR a r s).1))], [(0, DLs a)], [(6, .ipin (encR t))], [(3, .v (.string s))], [(31, DLs a), (32, .agg (encR t)), (33, .v (.string s))], [(34, DNats (sitesR a t s))], [(30, .v (.int .i64 (((sitesR a t (applyR a r s).1).length : Nat) : Int))), (35, .v (.int .i64 (((sitesR a t s).length : Nat) : Int)))], [(36, .v (.bool (decide ((((sitesR a t s).length : Nat) : Int) < (((sitesR a t (applyR a r s).1).length : Nat) : Int)))))], []] rfl (by kernel_rfl) (by kernel_rfl) rfl ?_ ?_
      · refine OpsOk.cons (fun rest => ?_) ?_
        · refine SOps.move rfl ?_
          exact SOps.nil (by first | rfl | simp_all)
        refine OpsOk.cons (fun rest => ?_) ?_
        · refine SOps.loadPinA rfl aggB_25_6 (Nat.le_of_ble_eq_true rfl) ?_
          exact SOps.nil (by first | rfl | simp_all)
        refine OpsOk.cons (fun rest => ?_) ?_
        · refine SOps.move rfl ?_
          exact SOps.nil (by first | rfl | simp_all)
        refine OpsOk.cons (fun rest => ?_) ?_
        · refine SOps.callP (rSites hV _ _ _ ht hz) rfl ?_
          rintro _ rfl
          exact SOps.nil (by first | rfl | simp_all)
        refine OpsOk.cons (fun rest => ?_) ?_
        · refine SOps.lenM rfl sliceB_30_3_1 ?_
          exact SOps.nil (by first | rfl | simp_all)
        refine OpsOk.cons (fun rest => ?_) ?_
        · refine SOps.move rfl ?_
          exact SOps.nil (by first | rfl | simp_all)
        refine OpsOk.cons (fun rest => ?_) ?_
        · refine SOps.loadPinA rfl aggB_25_6 (Nat.le_of_ble_eq_true rfl) ?_
          exact SOps.nil (by first | rfl | simp_all)
        refine OpsOk.cons (fun rest => ?_) ?_
        · refine SOps.move rfl ?_
          exact SOps.nil (by first | rfl | simp_all)
        refine OpsOk.cons (fun rest => ?_) ?_
        · refine SOps.callP (rSites hV _ _ _ ht hs) rfl ?_
          rintro _ rfl
          exact SOps.nil (by first | rfl | simp_all)
        refine OpsOk.cons (fun rest => ?_) ?_
        · refine SOps.lenM rfl sliceB_30_3_1 ?_
          exact SOps.nil (by first | rfl | simp_all)
        refine OpsOk.cons (fun rest => ?_) ?_
        · refine SOps.bin rfl rfl rfl ?_
          exact SOps.nil (by first | rfl | simp_all)
        refine OpsOk.cons (fun rest => ?_) ?_
        · refine SOps.assign rfl ?_
          exact SOps.nil (by first | rfl | simp_all)
        refine OpsOk.cons (fun rest => ?_) ?_
        · refine SOps.assign rfl ?_
          exact SOps.nil (by first | rfl | simp_all)
        exact OpsOk.nil
      · show SCode _ _ _ _
        refine SCode.ret ?_
        exact ⟨_, Res.two (.tmp rfl) (.tmp rfl), (by unfold feedsR; rw [if_pos hc1, if_pos hc2]; unfold tupB; simp only [Int.ofNat_lt]), rfl⟩
theorem rCommute (hV : VS E) (a : List Letter) (r t : Rule) (s : ByteArray) (hr : SmR r) (ht : SmR t) (hs : s.size ≤ 1048576) : GCall Tryd.prog E 28 [DLs a, .agg (encR r), .agg (encR t), .v (.string s)] [] (fun d H => d = tupB (commX (cascX (traceR a [r, t] s)) (cascX (traceR a [t, r] s))) ∧ H = []) := by
  refine GCall.body (C := ⟨Tryd.prog, E, true⟩) Tryd.func28 rfl (fun _ => rfl) (by kernel_rfl) rfl ?_
  refine SCode.seqR ?_
  refine SOps.boxAM rfl rfl ?_
  refine SOps.boxAM rfl rfl ?_
  refine SOps.assign rfl ?_
  refine SOps.assign rfl ?_
  refine SOps.nil ?_
  refine SCode.seqR ?_
  refine SOps.move rfl ?_
  refine SOps.loadPinA rfl aggB_25_6 (Nat.le_of_ble_eq_true rfl) ?_
  refine SOps.loadPinA rfl aggB_25_6 (Nat.le_of_ble_eq_true rfl) ?_
  refine SOps.litF rfl sliceB_36_25_6 zeroIs_25 rfl ?_
  refine SOps.move rfl ?_
  refine SOps.callP (rCascade hV a [r, t] s (fun q hq => by simp only [List.mem_cons, List.not_mem_nil, or_false] at hq; rcases hq with rfl | rfl <;> assumption) hs) rfl ?_
  rintro _ rfl
  refine SOps.move rfl ?_
  refine SOps.extract rfl rfl ?_
  refine SOps.extract rfl rfl ?_
  refine SOps.assign rfl ?_
  refine SOps.assign rfl ?_
  refine SOps.nil ?_
  refine SCode.seq ?_
  refine SCode.seqR ?_
  refine SOps.move rfl ?_
  refine SOps.bin rfl rfl rfl ?_
  refine SOps.nil ?_
  refine SCode.cond rfl (fun hc1 => ?_) (fun hc1 => ?_)
  · try simp only [decide_eq_true_eq, decide_eq_false_iff_not, Bool.not_eq_true', Bool.not_eq_false', beq_iff_eq, bne_iff_ne, ne_eq, beq_eq_false_iff_ne, bne_eq_false_iff_eq, Int.not_lt, Int.not_le, Nat.not_lt, Nat.not_le, Int.ofNat_lt, Int.ofNat_le, Bool.not_eq_eq_eq_not, Bool.not_true, Bool.not_false] at hc1
    refine SCode.seqR ?_
    refine SOps.move rfl ?_
    refine SOps.assign rfl ?_
    refine SOps.assign rfl ?_
    refine SOps.nil ?_
    refine SCode.ret ?_
    exact ⟨_, Res.two (.tmp rfl) (.tmp rfl), (by unfold commX tupB; first | (rw [if_pos hc1]; done) | (rw [if_pos hc1]; first | rfl | (simp only [hc1]; done)) | (rw [if_neg hc1, if_pos (by simp_all)]; done) | (rw [if_neg hc1, if_pos (by simp_all)]; rfl) | (rw [if_neg hc1, if_neg (by simp_all)]; done) | (rw [if_neg hc1, if_neg (by simp_all)]; rfl)), rfl⟩
  · try simp only [decide_eq_true_eq, decide_eq_false_iff_not, Bool.not_eq_true', Bool.not_eq_false', beq_iff_eq, bne_iff_ne, ne_eq, beq_eq_false_iff_ne, bne_eq_false_iff_eq, Int.not_lt, Int.not_le, Nat.not_lt, Nat.not_le, Int.ofNat_lt, Int.ofNat_le, Bool.not_eq_eq_eq_not, Bool.not_true, Bool.not_false] at hc1
    refine SCode.skip ?_
    show SCode _ _ _ _
    refine SCode.seqR ?_
    refine SOps.move rfl ?_
    refine SOps.loadPinA rfl aggB_25_6 (Nat.le_of_ble_eq_true rfl) ?_
    refine SOps.loadPinA rfl aggB_25_6 (Nat.le_of_ble_eq_true rfl) ?_
    refine SOps.litF rfl sliceB_36_25_6 zeroIs_25 rfl ?_
    refine SOps.move rfl ?_
    refine SOps.callP (rCascade hV a [t, r] s (fun q hq => by simp only [List.mem_cons, List.not_mem_nil, or_false] at hq; rcases hq with rfl | rfl <;> assumption) hs) rfl ?_
    rintro _ rfl
    refine SOps.move rfl ?_
    refine SOps.extract rfl rfl ?_
    refine SOps.extract rfl rfl ?_
    refine SOps.assign rfl ?_
    refine SOps.assign rfl ?_
    refine SOps.nil ?_
    refine SCode.seq ?_
    refine SCode.seqR ?_
    refine SOps.move rfl ?_
    refine SOps.bin rfl rfl rfl ?_
    refine SOps.move rfl ?_
    refine SOps.caseB 37 rfl (fun hb2 => ?_) (fun hb2 => ?_)
    · try simp only [decide_eq_true_eq, decide_eq_false_iff_not, Bool.not_eq_true', Bool.not_eq_false', beq_iff_eq, bne_iff_ne, ne_eq, beq_eq_false_iff_ne, bne_eq_false_iff_eq, Int.not_lt, Int.not_le, Nat.not_lt, Nat.not_le, Int.ofNat_lt, Int.ofNat_le, Bool.not_eq_eq_eq_not, Bool.not_true, Bool.not_false] at hb2
      refine SOps.skip rfl ?_
      refine SOps.skip rfl ?_
      refine SOps.pick rfl rfl ?_
      refine SOps.nil ?_
      refine SCode.cond rfl (fun _ => ?_) (fun h => by cases h)
      refine SCode.seqR ?_
      refine SOps.assign rfl ?_
      refine SOps.assign rfl ?_
      refine SOps.nil ?_
      refine SCode.ret ?_
      exact ⟨_, Res.two (.tmp rfl) (.tmp rfl), (by unfold commX tupB; first | (rw [if_pos hc1]; done) | (rw [if_pos hc1]; first | rfl | (simp only [hc1]; done)) | (rw [if_neg hc1, if_pos (by simp_all)]; done) | (rw [if_neg hc1, if_pos (by simp_all)]; rfl) | (rw [if_neg hc1, if_neg (by simp_all)]; done) | (rw [if_neg hc1, if_neg (by simp_all)]; rfl)), rfl⟩
    · try simp only [decide_eq_true_eq, decide_eq_false_iff_not, Bool.not_eq_true', Bool.not_eq_false', beq_iff_eq, bne_iff_ne, ne_eq, beq_eq_false_iff_ne, bne_eq_false_iff_eq, Int.not_lt, Int.not_le, Nat.not_lt, Nat.not_le, Int.ofNat_lt, Int.ofNat_le, Bool.not_eq_eq_eq_not, Bool.not_true, Bool.not_false] at hb2
      refine SOps.move rfl ?_
      refine SOps.bin rfl rfl rfl ?_
      refine SOps.pick rfl rfl ?_
      refine SOps.nil ?_
      refine SCode.cond rfl (fun hc3 => ?_) (fun hc3 => ?_)
      · try simp only [decide_eq_true_eq, decide_eq_false_iff_not, Bool.not_eq_true', Bool.not_eq_false', beq_iff_eq, bne_iff_ne, ne_eq, beq_eq_false_iff_ne, bne_eq_false_iff_eq, Int.not_lt, Int.not_le, Nat.not_lt, Nat.not_le, Int.ofNat_lt, Int.ofNat_le, Bool.not_eq_eq_eq_not, Bool.not_true, Bool.not_false] at hc3
        refine SCode.seqR ?_
        refine SOps.assign rfl ?_
        refine SOps.assign rfl ?_
        refine SOps.nil ?_
        refine SCode.ret ?_
        exact ⟨_, Res.two (.tmp rfl) (.tmp rfl), (by unfold commX tupB; first | (rw [if_pos hc1]; done) | (rw [if_pos hc1]; first | rfl | (simp only [hc1]; done)) | (rw [if_neg hc1, if_pos (by simp_all)]; done) | (rw [if_neg hc1, if_pos (by simp_all)]; rfl) | (rw [if_neg hc1, if_neg (by simp_all)]; done) | (rw [if_neg hc1, if_neg (by simp_all)]; rfl)), rfl⟩
      · try simp only [decide_eq_true_eq, decide_eq_false_iff_not, Bool.not_eq_true', Bool.not_eq_false', beq_iff_eq, bne_iff_ne, ne_eq, beq_eq_false_iff_ne, bne_eq_false_iff_eq, Int.not_lt, Int.not_le, Nat.not_lt, Nat.not_le, Int.ofNat_lt, Int.ofNat_le, Bool.not_eq_eq_eq_not, Bool.not_true, Bool.not_false] at hc3
        refine SCode.skip ?_
        show SCode _ _ _ _
        refine SCode.seqR ?_
        refine SOps.move rfl ?_
        refine SOps.move rfl ?_
        refine SOps.bin rfl rfl rfl ?_
        refine SOps.assign rfl ?_
        refine SOps.assign rfl ?_
        refine SOps.nil ?_
        refine SCode.ret ?_
        exact ⟨_, Res.two (.tmp rfl) (.tmp rfl), (by unfold commX tupB; first | (rw [if_pos hc1]; done) | (rw [if_pos hc1]; first | rfl | (simp only [hc1]; done)) | (rw [if_neg hc1, if_pos (by simp_all)]; done) | (rw [if_neg hc1, if_pos (by simp_all)]; rfl) | (rw [if_neg hc1, if_neg (by simp_all)]; done) | (rw [if_neg hc1, if_neg (by simp_all)]; rfl)), rfl⟩
def aw7A : List Letter := [⟨97, 9⟩, ⟨101, 5⟩, ⟨116, 2⟩]
def aw7R : Rule := ⟨97, ⟨#[101]⟩, [⟨4, ⟨#[]⟩, false, false⟩, ⟨2, ⟨#[]⟩, false, true⟩], [], false, false⟩
def aw7S : ByteArray := ⟨#[101, 116, 97, 116, 97]⟩
def aw7T : ByteArray := ⟨#[101, 116, 101, 116, 97]⟩
def aw7U : ByteArray := ⟨#[101, 116, 101, 116, 101]⟩
theorem aw7_sm : SmR aw7R := ⟨by decide, fun x hx => by simp only [aw7R, List.mem_cons, List.not_mem_nil, or_false] at hx; rcases hx with rfl | rfl <;> decide, fun x hx => by cases hx⟩
theorem aw7_apply : applyR aw7A aw7R aw7S = (aw7T, 0) := by kernel_rfl
theorem aw7_casc : cascX (traceR aw7A [aw7R, aw7R] aw7S) = (aw7U, 0) := by kernel_rfl
theorem aw7_trace : traceR aw7A [aw7R] aw7S = ([aw7S, aw7T], 0) := by kernel_rfl
theorem aw7_feeds : feedsR aw7A aw7R aw7R aw7S = (false, 0) := by kernel_rfl
theorem aw7_valid : validR aw7A aw7R = true := by kernel_rfl
theorem aw7_sites : sitesR aw7A aw7R aw7S = [2] := by kernel_rfl
theorem a7Apply (hV : VS E) : GCall Tryd.prog E 19 [DLs aw7A, .agg (encR aw7R), .v (.string aw7S)] [] (fun d H => d = .tup [.v (.string aw7T), .v (.int .i64 0)] ∧ H = []) := GCall.mono (rApply hV aw7A aw7R aw7S aw7_sm (by decide)) (fun d H h => ⟨h.1.trans (by rw [aw7_apply]; rfl), h.2⟩)
theorem a7Casc (hV : VS E) : GCall Tryd.prog E 21 [DLs aw7A, DRs [aw7R, aw7R], .v (.string aw7S)] [] (fun d H => d = .tup [.v (.string aw7U), .v (.int .i64 0)] ∧ H = []) := GCall.mono (rCascade hV aw7A [aw7R, aw7R] aw7S (fun q hq => by simp only [List.mem_cons, List.not_mem_nil, or_false] at hq; rcases hq with rfl | rfl <;> exact aw7_sm) (by decide)) (fun d H h => ⟨h.1.trans (by rw [aw7_casc]; rfl), h.2⟩)
theorem a7Trace (hV : VS E) : GCall Tryd.prog E 23 [DLs aw7A, DRs [aw7R], .v (.string aw7S)] [] (fun d H => d = .tup [DStrs [aw7S, aw7T], .v (.int .i64 0)] ∧ H = []) := GCall.mono (rTrace hV aw7A [aw7R] aw7S (fun q hq => by simp only [List.mem_cons, List.not_mem_nil, or_false] at hq; subst hq; exact aw7_sm) (by decide)) (fun d H h => ⟨h.1.trans (by rw [aw7_trace]; rfl), h.2⟩)
theorem a7Feeds (hV : VS E) : GCall Tryd.prog E 25 [DLs aw7A, .agg (encR aw7R), .agg (encR aw7R), .v (.string aw7S)] [] (fun d H => d = .tup [.v (.bool false), .v (.int .i64 0)] ∧ H = []) := GCall.mono (rFeeds hV aw7A aw7R aw7R aw7S aw7_sm aw7_sm (by decide)) (fun d H h => ⟨h.1.trans (by rw [aw7_feeds]; rfl), h.2⟩)
theorem a7Valid (hV : VS E) : GCall Tryd.prog E 13 [DLs aw7A, .agg (encR aw7R)] [] (fun d H => d = .v (.bool true) ∧ H = []) := GCall.mono (rValid hV aw7A aw7R aw7_sm) (fun d H h => ⟨h.1.trans (by rw [aw7_valid]), h.2⟩)
theorem a7Sites (hV : VS E) : GCall Tryd.prog E 17 [DLs aw7A, .agg (encR aw7R), .v (.string aw7S)] [] (fun d H => d = DNats [2] ∧ H = []) := GCall.mono (rSites hV aw7A aw7R aw7S aw7_sm (by decide)) (fun d H h => ⟨h.1.trans (by rw [aw7_sites]), h.2⟩)
theorem a7Ints : GCall Tryd.prog E 16 [DNats [2], DNats [2]] [] (fun d H => d = .v (.bool true) ∧ H = []) := GCall.mono (qIntsN [2] [2]) (fun d H h => ⟨h.1.trans (by rw [decide_eq_true rfl]), h.2⟩)
theorem a7Texts : GCall Tryd.prog E 24 [DStrs [aw7S, aw7T], DStrs [aw7S, aw7T]] [] (fun d H => d = .v (.bool true) ∧ H = []) := GCall.mono (qTexts _ _) (fun d H h => ⟨h.1.trans (by rw [decide_eq_true rfl]), h.2⟩)
theorem awake7 (hV : VS E)  : GCall Tryd.prog E 12 [] [] (fun d H => d = .v (.bool true) ∧ H = []) := by
  refine GCall.body (C := ⟨Tryd.prog, E, true⟩) Tryd.func12 rfl (fun _ => rfl) (by kernel_rfl) rfl ?_
  refine SCode.seqR ?_
  refine SOps.assign rfl ?_
  refine SOps.nil ?_
  refine SCode.seqR ?_
  refine SOps.buildM placesB_50 zeroIs_50 rfl rfl ?_
  refine SOps.buildM placesB_50 zeroIs_50 rfl rfl ?_
  refine SOps.buildM placesB_50 zeroIs_50 rfl rfl ?_
  refine SOps.litF rfl sliceB_22_50_2 zeroIs_50 rfl ?_
  refine SOps.assign rfl ?_
  refine SOps.nil ?_
  refine SCode.seqR ?_
  refine SOps.buildM placesB_52 zeroIs_52 rfl rfl ?_
  refine SOps.buildM placesB_52 zeroIs_52 rfl rfl ?_
  refine SOps.litF rfl sliceB_23_52_4 zeroIs_52 rfl ?_
  refine SOps.buildM placesB_25 zeroIs_25 rfl rfl ?_
  refine SOps.relab (t := 18) (d' := .agg (encR aw7R)) rfl (fun w F v hv => rep_aggNil (sz := 4) 3 hv rfl) ?_
  refine SOps.alloc (sz := 6) zeroIs_25 (fun b0 hb_0 => ?_)
  refine SOps.storeAM 0 rfl rfl aggB_25_6 rfl ?_
  refine SOps.freezeRef (t := 2) 0 0 rfl rfl rfl rfl rfl ?_
  refine SOps.nil ?_
  refine SCode.seqR ?_
  refine SOps.move rfl ?_
  refine SOps.loadPinA rfl aggB_25_6 (Nat.le_of_ble_eq_true rfl) ?_
  refine SOps.callP (a7Apply hV) rfl ?_
  rintro _ rfl
  refine SOps.move rfl ?_
  refine SOps.extract rfl rfl ?_
  refine SOps.extract rfl rfl ?_
  refine SOps.assign rfl ?_
  refine SOps.assign rfl ?_
  refine SOps.nil ?_
  refine SCode.seqR ?_
  refine SOps.move rfl ?_
  refine SOps.loadPinA rfl aggB_25_6 (Nat.le_of_ble_eq_true rfl) ?_
  refine SOps.loadPinA rfl aggB_25_6 (Nat.le_of_ble_eq_true rfl) ?_
  refine SOps.litF rfl sliceB_36_25_6 zeroIs_25 rfl ?_
  refine SOps.callP (a7Casc hV) rfl ?_
  rintro _ rfl
  refine SOps.move rfl ?_
  refine SOps.extract rfl rfl ?_
  refine SOps.extract rfl rfl ?_
  refine SOps.assign rfl ?_
  refine SOps.assign rfl ?_
  refine SOps.nil ?_
  refine SCode.seqR ?_
  refine SOps.move rfl ?_
  refine SOps.loadPinA rfl aggB_25_6 (Nat.le_of_ble_eq_true rfl) ?_
  refine SOps.litF rfl sliceB_36_25_6 zeroIs_25 rfl ?_
  refine SOps.callP (a7Trace hV) rfl ?_
  rintro _ rfl
  refine SOps.move rfl ?_
  refine SOps.extract rfl rfl ?_
  refine SOps.extract rfl rfl ?_
  refine SOps.assign rfl ?_
  refine SOps.assign rfl ?_
  refine SOps.nil ?_
  refine SCode.seqR ?_
  refine SOps.move rfl ?_
  refine SOps.loadPinA rfl aggB_25_6 (Nat.le_of_ble_eq_true rfl) ?_
  refine SOps.loadPinA rfl aggB_25_6 (Nat.le_of_ble_eq_true rfl) ?_
  refine SOps.callP (a7Feeds hV) rfl ?_
  rintro _ rfl
  refine SOps.move rfl ?_
  refine SOps.extract rfl rfl ?_
  refine SOps.extract rfl rfl ?_
  refine SOps.assign rfl ?_
  refine SOps.assign rfl ?_
  refine SOps.nil ?_
  refine SCode.seqR ?_
  refine SOps.move rfl ?_
  refine SOps.loadPinA rfl aggB_25_6 (Nat.le_of_ble_eq_true rfl) ?_
  refine SOps.callP (a7Valid hV) rfl ?_
  rintro _ rfl
  refine SOps.move rfl ?_
  refine SOps.move rfl ?_
  refine SOps.loadPinA rfl aggB_25_6 (Nat.le_of_ble_eq_true rfl) ?_
  refine SOps.callP (a7Sites hV) rfl ?_
  rintro _ rfl
  refine SOps.litF rfl sliceB_30_3_1 zeroIs_3 rfl ?_
  refine SOps.callP a7Ints rfl ?_
  rintro _ rfl
  refine SOps.pick rfl rfl ?_
  refine SOps.move rfl ?_
  refine SOps.move rfl ?_
  refine SOps.bin rfl rfl rfl ?_
  refine SOps.reSlot (t := 59) rfl (show _ = DV.v (.bool true) from by rfl) ?_
  refine SOps.pick rfl rfl ?_
  refine SOps.move rfl ?_
  refine SOps.move rfl ?_
  refine SOps.bin rfl rfl rfl ?_
  refine SOps.reSlot (t := 63) rfl (show _ = DV.v (.bool true) from by rfl) ?_
  refine SOps.pick rfl rfl ?_
  refine SOps.move rfl ?_
  refine SOps.move rfl ?_
  refine SOps.bin rfl rfl rfl ?_
  refine SOps.reSlot (t := 67) rfl (show _ = DV.v (.bool true) from by rfl) ?_
  refine SOps.pick rfl rfl ?_
  refine SOps.move rfl ?_
  refine SOps.move rfl ?_
  refine SOps.bin rfl rfl rfl ?_
  refine SOps.reSlot (t := 71) rfl (show _ = DV.v (.bool true) from by rfl) ?_
  refine SOps.pick rfl rfl ?_
  refine SOps.move rfl ?_
  refine SOps.move rfl ?_
  refine SOps.litF rfl sliceB_39_9_1 zeroIs_9 rfl ?_
  refine SOps.callP a7Texts rfl ?_
  rintro _ rfl
  refine SOps.pick rfl rfl ?_
  refine SOps.move rfl ?_
  refine SOps.move rfl ?_
  refine SOps.bin rfl rfl rfl ?_
  refine SOps.reSlot (t := 80) rfl (show _ = DV.v (.bool true) from by rfl) ?_
  refine SOps.pick rfl rfl ?_
  refine SOps.move rfl ?_
  refine SOps.move rfl ?_
  refine SOps.un rfl rfl ?_
  refine SOps.pick rfl rfl ?_
  refine SOps.move rfl ?_
  refine SOps.move rfl ?_
  refine SOps.bin rfl rfl rfl ?_
  refine SOps.reSlot (t := 88) rfl (show _ = DV.v (.bool true) from by rfl) ?_
  refine SOps.pick rfl rfl ?_
  refine SOps.assign rfl ?_
  refine SOps.nil ?_
  refine SCode.ret ?_
  exact ⟨_, Res.one (.tmp rfl), rfl, rfl⟩
def AW7 (E : Env) : Prop := GCall Tryd.prog E 12 [] [] (fun d H => d = .v (.bool true) ∧ H = [])
end Go.GH
