/-
  Part 6 of the texts behind the walks of this claim: an own layer over the kit's wp, plain laws, and walks. No conditions.
-/
import Derived.Test.YtjcihlpjlpackaaDoorMc5
import Derived.Test.YtjcihlpjlpackaaDoorRows
import Derived.DeepKeys3
set_option linter.unusedVariables false
set_option linter.unusedSimpArgs false
set_option linter.deprecated false
namespace Go.GH
open Go Go.Proofs
variable {E : Env}
theorem elemB_9_1_16 : elemB Tryd.prog 9 1 16 = true := by kernel_rfl
theorem placesB_25 : placesB Tryd.prog 25 [(0, 1), (1, 1), (2, 1), (3, 1), (4, 1), (5, 1)] = true := by kernel_rfl
theorem placesB_50 : placesB Tryd.prog 50 [(0, 1), (1, 1)] = true := by kernel_rfl
theorem placesB_52 : placesB Tryd.prog 52 [(0, 1), (1, 1), (2, 1), (3, 1)] = true := by kernel_rfl
theorem sliceB_36_25_6 : sliceB Tryd.prog 36 25 6 = true := by kernel_rfl
theorem someB_21 : (Tryd.prog.underlying 21).isSome = true := by kernel_rfl
theorem zeroIs_25 : zeroIs Tryd.prog 25 (.agg #[.int .i32 0, .string .empty, .slice none 0 0, .slice none 0 0, .bool false, .bool false]) := by unfold zeroIs; kernel_rfl
theorem zeroIs_9 : zeroIs Tryd.prog 9 (.string .empty) := by unfold zeroIs; kernel_rfl
theorem rApply (hV : VS E) (a : List Letter) (r : Rule) (s : ByteArray) (hr : SmR r) (hs : s.size ≤ 1048576) : GCall Tryd.prog E 19 [DLs a, .agg (encR r), .v (.string s)] [] (fun d H => d = tupA (applyR a r s) ∧ H = []) := by
  refine GCall.body (C := ⟨Tryd.prog, E, true⟩) Tryd.func19 rfl (fun _ => rfl) (by kernel_rfl) rfl ?_
  refine SCode.seqR ?_
  refine SOps.boxAM rfl rfl ?_
  refine SOps.assign rfl ?_
  refine SOps.assign rfl ?_
  refine SOps.nil ?_
  refine SCode.seq ?_
  refine SCode.seqR ?_
  refine SOps.move rfl ?_
  refine SOps.loadPinA rfl aggB_25_6 (Nat.le_of_ble_eq_true rfl) ?_
  refine SOps.callP (rValid hV _ _ (by assumption)) rfl ?_
  rintro _ rfl
  refine SOps.un rfl rfl ?_
  refine SOps.move rfl ?_
  refine SOps.caseB 13 rfl (fun hb1 => ?_) (fun hb1 => ?_)
  · try simp only [decide_eq_true_eq, decide_eq_false_iff_not, Bool.not_eq_true', Bool.not_eq_false', beq_iff_eq, bne_iff_ne, ne_eq, beq_eq_false_iff_ne, bne_eq_false_iff_eq, Int.not_lt, Int.not_le, Nat.not_lt, Nat.not_le, Int.ofNat_lt, Int.ofNat_le, Bool.not_eq_eq_eq_not, Bool.not_true, Bool.not_false] at hb1
    refine SOps.skip rfl ?_
    refine SOps.skip rfl ?_
    refine SOps.skip rfl ?_
    refine SOps.skip rfl ?_
    refine SOps.pick rfl rfl ?_
    refine SOps.nil ?_
    refine SCode.cond rfl (fun _ => ?_) (fun h => by cases h)
    refine SCode.seqR ?_
    refine SOps.assign rfl ?_
    refine SOps.assign rfl ?_
    refine SOps.nil ?_
    refine SCode.ret ?_
    exact ⟨_, Res.two (.tmp rfl) (.tmp rfl), (by unfold applyR resX; rw [if_neg (by simp_all [okR])]; rfl), rfl⟩
  · try simp only [decide_eq_true_eq, decide_eq_false_iff_not, Bool.not_eq_true', Bool.not_eq_false', beq_iff_eq, bne_iff_ne, ne_eq, beq_eq_false_iff_ne, bne_eq_false_iff_eq, Int.not_lt, Int.not_le, Nat.not_lt, Nat.not_le, Int.ofNat_lt, Int.ofNat_le, Bool.not_eq_eq_eq_not, Bool.not_true, Bool.not_false] at hb1
    refine SOps.move rfl ?_
    refine SOps.move rfl ?_
    refine SOps.callP (lIsWord hV _ _) rfl ?_
    rintro _ rfl
    refine SOps.un rfl rfl ?_
    refine SOps.pick rfl rfl ?_
    refine SOps.nil ?_
    refine SCode.cond rfl (fun hc2 => ?_) (fun hc2 => ?_)
    · try simp only [decide_eq_true_eq, decide_eq_false_iff_not, Bool.not_eq_true', Bool.not_eq_false', beq_iff_eq, bne_iff_ne, ne_eq, beq_eq_false_iff_ne, bne_eq_false_iff_eq, Int.not_lt, Int.not_le, Nat.not_lt, Nat.not_le, Int.ofNat_lt, Int.ofNat_le, Bool.not_eq_eq_eq_not, Bool.not_true, Bool.not_false] at hc2
      refine SCode.seqR ?_
      refine SOps.assign rfl ?_
      refine SOps.assign rfl ?_
      refine SOps.nil ?_
      refine SCode.ret ?_
      exact ⟨_, Res.two (.tmp rfl) (.tmp rfl), (by unfold applyR resX; rw [if_neg (by simp_all [okR])]; rfl), rfl⟩
    · try simp only [decide_eq_true_eq, decide_eq_false_iff_not, Bool.not_eq_true', Bool.not_eq_false', beq_iff_eq, bne_iff_ne, ne_eq, beq_eq_false_iff_ne, bne_eq_false_iff_eq, Int.not_lt, Int.not_le, Nat.not_lt, Nat.not_le, Int.ofNat_lt, Int.ofNat_le, Bool.not_eq_eq_eq_not, Bool.not_true, Bool.not_false] at hc2
      refine SCode.skip ?_
      show SCode _ _ _ _
      refine SCode.seq ?_
      have hok : okR a r s = true := by simp_all [okR]
      obtain ⟨h4, h40, hu8⟩ := okR_to hok
      refine SCode.drawPure mixed_ [(19, .agg (encR r)), (20, DLs a), (21, .agg (encR r)), (22, .v (.string s)), (23, DNats (sitesR a r s)), (24, .v (.string s)), (25, .v (.string (encs (resF r.fr (runes r.«to») (runes s) 0 (sitesR a r s))))), (8, .v (.string (encs (resF r.fr (runes r.«to») (runes s) 0 (sitesR a r s)))))] [19, 20, 21, 22, 23, 24, 25, 8] [[.inr 4], [.inr 0], [.inr 4], [.inr 2], [.inl 1, .inl 2, .inl 3], [.inr 2], [.inl 0, .inl 4, .inl 5], [.inl 6]] [[(4, .ipin (encR r))], [(0, DLs a)], [(4, .ipin (encR r))], [(2, .v (.string s))], [(20, DLs a), (21, .agg (encR r)), (22, .v (.string s))], [(2, .v (.string s))], [(19, .agg (encR r)), (23, DNats (sitesR a r s)), (24, .v (.string s))], [(25, .v (.string (encs (resF r.fr (runes r.«to») (runes s) 0 (sitesR a r s)))))]] rfl (by kernel_rfl) (by kernel_rfl) rfl ?_ ?_
      · refine OpsOk.cons (fun rest => ?_) ?_
        · refine SOps.loadPinA rfl aggB_25_6 (Nat.le_of_ble_eq_true rfl) ?_
          exact SOps.nil (by first | rfl | simp_all)
        refine OpsOk.cons (fun rest => ?_) ?_
        · refine SOps.move rfl ?_
          exact SOps.nil (by first | rfl | simp_all)
        refine OpsOk.cons (fun rest => ?_) ?_
        · refine SOps.loadPinA rfl aggB_25_6 (Nat.le_of_ble_eq_true rfl) ?_
          exact SOps.nil (by first | rfl | simp_all)
        refine OpsOk.cons (fun rest => ?_) ?_
        · refine SOps.move rfl ?_
          exact SOps.nil (by first | rfl | simp_all)
        refine OpsOk.cons (fun rest => ?_) ?_
        · refine SOps.callP (rSites hV _ _ _ hr hs) rfl ?_
          rintro _ rfl
          exact SOps.nil (by first | rfl | simp_all)
        refine OpsOk.cons (fun rest => ?_) ?_
        · refine SOps.move rfl ?_
          exact SOps.nil (by first | rfl | simp_all)
        refine OpsOk.cons (fun rest => ?_) ?_
        · refine SOps.callP (rResult _ _ _ h4 h40) rfl ?_
          rintro _ rfl
          exact SOps.nil (by first | rfl | simp_all)
        refine OpsOk.cons (fun rest => ?_) ?_
        · refine SOps.assign rfl ?_
          exact SOps.nil (by first | rfl | simp_all)
        exact OpsOk.nil
      · show SCode _ _ _ _
        refine SCode.seq ?_
        refine SCode.seqR ?_
        refine SOps.move rfl ?_
        refine SOps.callP (uRuneCount _) rfl ?_
        rintro _ rfl
        refine SOps.bin rfl rfl rfl ?_
        refine SOps.nil ?_
        refine SCode.cond rfl (fun hc3 => ?_) (fun hc3 => ?_)
        · try simp only [decide_eq_true_eq, decide_eq_false_iff_not, Bool.not_eq_true', Bool.not_eq_false', beq_iff_eq, bne_iff_ne, ne_eq, beq_eq_false_iff_ne, bne_eq_false_iff_eq, Int.not_lt, Int.not_le, Nat.not_lt, Nat.not_le, Int.ofNat_lt, Int.ofNat_le, Bool.not_eq_eq_eq_not, Bool.not_true, Bool.not_false] at hc3
          refine SCode.seqR ?_
          refine SOps.assign rfl ?_
          refine SOps.assign rfl ?_
          refine SOps.nil ?_
          refine SCode.ret ?_
          exact ⟨_, Res.two (.tmp rfl) (.tmp rfl), (by unfold applyR resX; rw [if_pos hok, if_pos (by omega)]; rfl), rfl⟩
        · try simp only [decide_eq_true_eq, decide_eq_false_iff_not, Bool.not_eq_true', Bool.not_eq_false', beq_iff_eq, bne_iff_ne, ne_eq, beq_eq_false_iff_ne, bne_eq_false_iff_eq, Int.not_lt, Int.not_le, Nat.not_lt, Nat.not_le, Int.ofNat_lt, Int.ofNat_le, Bool.not_eq_eq_eq_not, Bool.not_true, Bool.not_false] at hc3
          refine SCode.skip ?_
          show SCode _ _ _ _
          refine SCode.seqR ?_
          refine SOps.move rfl ?_
          refine SOps.assign rfl ?_
          refine SOps.assign rfl ?_
          refine SOps.nil ?_
          refine SCode.ret ?_
          exact ⟨_, Res.two (.tmp rfl) (.tmp rfl), (by unfold applyR resX; rw [if_pos hok, if_neg (by omega)]; rfl), rfl⟩
theorem qApply (hV : VS E) (a : List Letter) (r : Rule) (s : ByteArray) (hr : SmR r) (hs : s.size ≤ 1048576) : GCall Tryd.prog E 20 [DLs a, .agg (encR r), .v (.string s)] [] (fun d H => d = tupA (applyQ a r s) ∧ H = []) := by
  refine GCall.body (C := ⟨Tryd.prog, E, true⟩) Tryd.func20 rfl (fun _ => rfl) (by kernel_rfl) rfl ?_
  refine SCode.seqR ?_
  refine SOps.boxAM rfl rfl ?_
  refine SOps.assign rfl ?_
  refine SOps.assign rfl ?_
  refine SOps.nil ?_
  refine SCode.seq ?_
  refine SCode.seqR ?_
  refine SOps.move rfl ?_
  refine SOps.loadPinA rfl aggB_25_6 (Nat.le_of_ble_eq_true rfl) ?_
  refine SOps.callP (qValid hV _ _) rfl ?_
  rintro _ rfl
  refine SOps.un rfl rfl ?_
  refine SOps.move rfl ?_
  refine SOps.caseB 18 rfl (fun hb1 => ?_) (fun hb1 => ?_)
  · try simp only [decide_eq_true_eq, decide_eq_false_iff_not, Bool.not_eq_true', Bool.not_eq_false', beq_iff_eq, bne_iff_ne, ne_eq, beq_eq_false_iff_ne, bne_eq_false_iff_eq, Int.not_lt, Int.not_le, Nat.not_lt, Nat.not_le, Int.ofNat_lt, Int.ofNat_le, Bool.not_eq_eq_eq_not, Bool.not_true, Bool.not_false] at hb1
    refine SOps.skip rfl ?_
    refine SOps.skip rfl ?_
    refine SOps.skip rfl ?_
    refine SOps.skip rfl ?_
    refine SOps.pick rfl rfl ?_
    refine SOps.nil ?_
    refine SCode.cond rfl (fun _ => ?_) (fun h => by cases h)
    refine SCode.seqR ?_
    refine SOps.assign rfl ?_
    refine SOps.assign rfl ?_
    refine SOps.nil ?_
    refine SCode.ret ?_
    exact ⟨_, Res.two (.tmp rfl) (.tmp rfl), (by unfold applyQ resX; first | (rw [if_neg (by simp_all [okR])]; rfl) | (rw [if_pos hok, if_pos (by omega)]; rfl) | (rw [if_pos hok, if_neg (by omega)]; rfl)), rfl⟩
  · try simp only [decide_eq_true_eq, decide_eq_false_iff_not, Bool.not_eq_true', Bool.not_eq_false', beq_iff_eq, bne_iff_ne, ne_eq, beq_eq_false_iff_ne, bne_eq_false_iff_eq, Int.not_lt, Int.not_le, Nat.not_lt, Nat.not_le, Int.ofNat_lt, Int.ofNat_le, Bool.not_eq_eq_eq_not, Bool.not_true, Bool.not_false] at hb1
    refine SOps.move rfl ?_
    refine SOps.move rfl ?_
    refine SOps.callP (qWord hV _ _) rfl ?_
    rintro _ rfl
    refine SOps.un rfl rfl ?_
    refine SOps.pick rfl rfl ?_
    refine SOps.nil ?_
    refine SCode.cond rfl (fun hc2 => ?_) (fun hc2 => ?_)
    · try simp only [decide_eq_true_eq, decide_eq_false_iff_not, Bool.not_eq_true', Bool.not_eq_false', beq_iff_eq, bne_iff_ne, ne_eq, beq_eq_false_iff_ne, bne_eq_false_iff_eq, Int.not_lt, Int.not_le, Nat.not_lt, Nat.not_le, Int.ofNat_lt, Int.ofNat_le, Bool.not_eq_eq_eq_not, Bool.not_true, Bool.not_false] at hc2
      refine SCode.seqR ?_
      refine SOps.assign rfl ?_
      refine SOps.assign rfl ?_
      refine SOps.nil ?_
      refine SCode.ret ?_
      exact ⟨_, Res.two (.tmp rfl) (.tmp rfl), (by unfold applyQ resX; first | (rw [if_neg (by simp_all [okR])]; rfl) | (rw [if_pos hok, if_pos (by omega)]; rfl) | (rw [if_pos hok, if_neg (by omega)]; rfl)), rfl⟩
    · try simp only [decide_eq_true_eq, decide_eq_false_iff_not, Bool.not_eq_true', Bool.not_eq_false', beq_iff_eq, bne_iff_ne, ne_eq, beq_eq_false_iff_ne, bne_eq_false_iff_eq, Int.not_lt, Int.not_le, Nat.not_lt, Nat.not_le, Int.ofNat_lt, Int.ofNat_le, Bool.not_eq_eq_eq_not, Bool.not_true, Bool.not_false] at hc2
      refine SCode.skip ?_
      show SCode _ _ _ _
      refine SCode.seqR ?_
      refine SOps.move rfl ?_
      refine SOps.loadPinA rfl aggB_25_6 (Nat.le_of_ble_eq_true rfl) ?_
      refine SOps.move rfl ?_
      refine SOps.callP (qSites hV _ _ _ hs) rfl ?_
      rintro _ rfl
      refine SOps.assign rfl ?_
      refine SOps.nil ?_
      refine SCode.seqR ?_
      refine SOps.move rfl ?_
      refine SOps.runesF rfl rfl strB_9 sliceB_35_21_1 intB_21_i32 ?_
      refine SOps.assign rfl ?_
      refine SOps.nil ?_
      refine SCode.seqR ?_
      refine SOps.assign rfl ?_
      refine SOps.nil ?_
      refine SCode.seqR ?_
      refine SOps.assign rfl ?_
      refine SOps.nil ?_
      refine SCode.seq ?_
      refine SCode.seqR ?_
      refine SOps.assign rfl ?_
      refine SOps.nil ?_
      refine SCode.block ?_
      have hok : okR a r s = true := by simp_all [okR]
      obtain ⟨h4, h40, hu8⟩ := okR_to hok
      have hto : encs (runes r.«to») = r.«to» := encs_runes hu8
      obtain ⟨hr1, _, _⟩ := hr
      have hll : (sitesQ a r s).length ≤ (runes s).length + 1 := by unfold sitesQ; split <;> first | exact filter_len (siteQ a r (runes s)) ((runes s).length + 1) | exact Nat.zero_le _
      refine SCode.loop3 (fun (i : Nat) (kk : Nat) (acc : ByteArray) => (⟨80, [(4, .ipin (encR r)), (8, DNats (sitesQ a r s)), (9, DRunes (runes s)), (10, .v (.string acc)), (11, .v (.int .i64 (kk : Int))), (12, .v (.int .i64 (i : Int)))], []⟩ : St)) (fun (i : Nat) (kk : Nat) (acc : ByteArray) => acc.size ≤ 1100000 * i ∧ kk ≤ (sitesQ a r s).length ∧ ((i ≤ (runes s).length ∧ acc ++ encs (resF r.fr (runes r.«to») ((runes s).drop i) i ((sitesQ a r s).drop kk)) = encs (resF r.fr (runes r.«to») (runes s) 0 (sitesQ a r s))) ∨ (i = (runes s).length + 1 ∧ acc = encs (resF r.fr (runes r.«to») (runes s) 0 (sitesQ a r s))))) (fun (i : Nat) (kk : Nat) (acc : ByteArray) => (runes s).length + 1 - i) (0) (0) (.empty) (by exact ⟨Nat.le_refl _, Nat.zero_le _, .inl ⟨Nat.zero_le _, by rw [ByteArray.empty_append]; rfl⟩⟩) (St.Le.of ⟨(by first | rfl | (show some _ = some _; simp)), (by first | rfl | (show some _ = some _; simp)), (by first | rfl | (show some _ = some _; simp)), (by first | rfl | (show some _ = some _; simp)), (by first | rfl | (show some _ = some _; simp)), (by first | rfl | (show some _ = some _; simp)), trivial⟩ rfl (by first | rfl | (simp))) ?_
      rintro i kk acc ⟨hol, hkk, hf⟩
      refine SCode.seq ?_
      refine SCode.seqR ?_
      refine SOps.move rfl ?_
      refine SOps.move rfl ?_
      refine SOps.lenM rfl sliceB_35_21_1 ?_
      refine SOps.bin rfl rfl rfl ?_
      refine SOps.nil ?_
      refine SCode.cond rfl (fun hc3 => ?_) (fun hc3 => ?_)
      · try simp only [decide_eq_true_eq, decide_eq_false_iff_not, Bool.not_eq_true', Bool.not_eq_false', beq_iff_eq, bne_iff_ne, ne_eq, beq_eq_false_iff_ne, bne_eq_false_iff_eq, Int.not_lt, Int.not_le, Nat.not_lt, Nat.not_le, Int.ofNat_lt, Int.ofNat_le, Bool.not_eq_eq_eq_not, Bool.not_true, Bool.not_false] at hc3
        refine SCode.skip ?_
        show SCode _ _ _ _
        refine SCode.seq ?_
        refine SCode.block ?_
        refine SCode.seqR ?_
        have hf2 := (hf.resolve_right (by omega)).2
        have hdn : i = (runes s).length → (runes s).drop i = [] := fun h => List.drop_eq_nil_of_le (by omega)
        have hdc : ∀ h : i < (runes s).length, (runes s).drop i = (runes s)[i] :: (runes s).drop (i + 1) := fun h => List.drop_eq_getElem_cons h
        refine SOps.move rfl ?_
        refine SOps.move rfl ?_
        refine SOps.lenM rfl sliceB_30_3_1 ?_
        refine SOps.bin rfl rfl rfl ?_
        refine SOps.move rfl ?_
        refine SOps.caseB 40 rfl (fun hb4 => ?_) (fun hb4 => ?_)
        · try simp only [decide_eq_true_eq, decide_eq_false_iff_not, Bool.not_eq_true', Bool.not_eq_false', beq_iff_eq, bne_iff_ne, ne_eq, beq_eq_false_iff_ne, bne_eq_false_iff_eq, Int.not_lt, Int.not_le, Nat.not_lt, Nat.not_le, Int.ofNat_lt, Int.ofNat_le, Bool.not_eq_eq_eq_not, Bool.not_true, Bool.not_false] at hb4
          have hkd : (sitesQ a r s).drop kk = (sitesQ a r s)[kk] :: (sitesQ a r s).drop (kk + 1) := List.drop_eq_getElem_cons (by omega)
          refine SOps.move rfl ?_
          refine SOps.move rfl ?_
          refine SOps.indexM (kk) rfl rfl sliceB_30_3_1 (by first | omega | (simp only [lenB]; omega)) (by first | omega | (simp only [lenB]; omega)) ?_
          refine SOps.loadPin rfl flatB_3 ?_
          refine SOps.move rfl ?_
          refine SOps.bin rfl rfl rfl ?_
          refine SOps.pick rfl rfl ?_
          refine SOps.assign rfl ?_
          refine SOps.nil ?_
          refine SCode.seq ?_
          refine SCode.seqR ?_
          refine SOps.move rfl ?_
          refine SOps.nil ?_
          refine SCode.cond rfl (fun hc5 => ?_) (fun hc5 => ?_)
          · try simp only [decide_eq_true_eq, decide_eq_false_iff_not, Bool.not_eq_true', Bool.not_eq_false', beq_iff_eq, bne_iff_ne, ne_eq, beq_eq_false_iff_ne, bne_eq_false_iff_eq, Int.not_lt, Int.not_le, Nat.not_lt, Nat.not_le, Int.ofNat_lt, Int.ofNat_le, Bool.not_eq_eq_eq_not, Bool.not_true, Bool.not_false] at hc5
            have hs0 : (sitesQ a r s)[kk] = i := Int.ofNat.inj hc5
            refine SCode.seqR ?_
            refine SOps.move rfl ?_
            refine SOps.fieldPin rfl fieldB_25_1_1 ?_
            refine SOps.loadPin rfl flatB_9 ?_
            refine SOps.concat rfl rfl (by simp only [lenB, ByteArray.size_append]; first | omega | (have := encode_size ((runes s)[i]); omega)) ?_
            refine SOps.assign rfl ?_
            refine SOps.nil ?_
            refine SCode.region ?_
            refine SOps.move rfl ?_
            refine SOps.addI rfl rfl (by first | omega | (simp only [lenB]; omega)) (by first | omega | (simp only [lenB]; omega)) ?_
            refine SOps.assign rfl ?_
            refine SOps.nil ?_
            show SCode _ _ _ _
            refine SCode.seqR ?_
            refine SOps.move rfl ?_
            refine SOps.move rfl ?_
            refine SOps.lenM rfl sliceB_35_21_1 ?_
            refine SOps.bin rfl rfl rfl ?_
            refine SOps.move rfl ?_
            refine SOps.caseB 59 rfl (fun hb6 => ?_) (fun hb6 => ?_)
            · try simp only [decide_eq_true_eq, decide_eq_false_iff_not, Bool.not_eq_true', Bool.not_eq_false', beq_iff_eq, bne_iff_ne, ne_eq, beq_eq_false_iff_ne, bne_eq_false_iff_eq, Int.not_lt, Int.not_le, Nat.not_lt, Nat.not_le, Int.ofNat_lt, Int.ofNat_le, Bool.not_eq_eq_eq_not, Bool.not_true, Bool.not_false] at hb6
              refine SOps.move rfl ?_
              refine SOps.un rfl rfl ?_
              refine SOps.move rfl ?_
              refine SOps.caseB 62 rfl (fun hb7 => ?_) (fun hb7 => ?_)
              · try simp only [decide_eq_true_eq, decide_eq_false_iff_not, Bool.not_eq_true', Bool.not_eq_false', beq_iff_eq, bne_iff_ne, ne_eq, beq_eq_false_iff_ne, bne_eq_false_iff_eq, Int.not_lt, Int.not_le, Nat.not_lt, Nat.not_le, Int.ofNat_lt, Int.ofNat_le, Bool.not_eq_eq_eq_not, Bool.not_true, Bool.not_false] at hb7
                refine SOps.skip rfl ?_
                refine SOps.skip rfl ?_
                refine SOps.skip rfl ?_
                refine SOps.pick rfl rfl ?_
                refine SOps.pick rfl rfl ?_
                refine SOps.nil ?_
                refine SCode.cond rfl (fun _ => ?_) (fun h => by cases h)
                refine SCode.region ?_
                refine SOps.move rfl ?_
                refine SOps.move rfl ?_
                refine SOps.move rfl ?_
                refine SOps.indexM (i) rfl rfl sliceB_35_21_1 (by first | omega | (simp only [lenB]; omega)) (by first | omega | (simp only [lenB]; omega)) ?_
                refine SOps.loadPin rfl flatB_21 ?_
                refine SOps.convIntStr rfl someB_21 strB_9 ?_
                refine SOps.concat rfl rfl (by simp only [lenB, ByteArray.size_append]; first | omega | (have := encode_size ((runes s)[i]); omega)) ?_
                refine SOps.assign rfl ?_
                refine SOps.nil ?_
                show SCode _ _ _ _
                refine SCode.region ?_
                refine SOps.move rfl ?_
                refine SOps.addI rfl rfl (by first | omega | (simp only [lenB]; omega)) (by first | omega | (simp only [lenB]; omega)) ?_
                refine SOps.assign rfl ?_
                refine SOps.nil ?_
                first
                  | (exfalso; omega)
                  | exact ⟨i + 1, kk + 1, acc ++ r.«to» ++ Utf8.encode ((runes s)[i]), ⟨by first | omega | (simp only [ByteArray.size_append]; omega) | (have := encode_size ((runes s)[i]); simp only [ByteArray.size_append]; omega), by omega, by cases Nat.lt_or_ge i (runes s).length with | inl hlt => (first | (exfalso; omega) | (left; refine ⟨by omega, ?_⟩; rw [← hf2, hdc hlt, resF_cons]; clear hf2 hf hdc hdn; simp_all [encs_append, encs_cons, encs_nil, ByteArray.append_assoc]; done)) | inr hge => (first | (exfalso; omega) | (right; refine ⟨by omega, ?_⟩; rw [← hf2, hdn (by omega), resF_nil]; clear hf2 hf hdc hdn; simp_all [encs_append, encs_cons, encs_nil, ByteArray.append_assoc]; done))⟩, by omega, St.Le.of ⟨rfl, rfl, rfl, rfl, rfl, rfl, trivial⟩⟩
                  | exact ⟨i + 1, kk + 1, acc ++ r.«to», ⟨by first | omega | (simp only [ByteArray.size_append]; omega) | (have := encode_size ((runes s)[i]); simp only [ByteArray.size_append]; omega), by omega, by cases Nat.lt_or_ge i (runes s).length with | inl hlt => (first | (exfalso; omega) | (left; refine ⟨by omega, ?_⟩; rw [← hf2, hdc hlt, resF_cons]; clear hf2 hf hdc hdn; simp_all [encs_append, encs_cons, encs_nil, ByteArray.append_assoc]; done)) | inr hge => (first | (exfalso; omega) | (right; refine ⟨by omega, ?_⟩; rw [← hf2, hdn (by omega), resF_nil]; clear hf2 hf hdc hdn; simp_all [encs_append, encs_cons, encs_nil, ByteArray.append_assoc]; done))⟩, by omega, St.Le.of ⟨rfl, rfl, rfl, rfl, rfl, rfl, trivial⟩⟩
                  | exact ⟨i + 1, kk, acc ++ Utf8.encode ((runes s)[i]), ⟨by first | omega | (simp only [ByteArray.size_append]; omega) | (have := encode_size ((runes s)[i]); simp only [ByteArray.size_append]; omega), by omega, by cases Nat.lt_or_ge i (runes s).length with | inl hlt => (first | (exfalso; omega) | (left; refine ⟨by omega, ?_⟩; rw [← hf2, hdc hlt, resF_cons]; clear hf2 hf hdc hdn; simp_all [encs_append, encs_cons, encs_nil, ByteArray.append_assoc]; done)) | inr hge => (first | (exfalso; omega) | (right; refine ⟨by omega, ?_⟩; rw [← hf2, hdn (by omega), resF_nil]; clear hf2 hf hdc hdn; simp_all [encs_append, encs_cons, encs_nil, ByteArray.append_assoc]; done))⟩, by omega, St.Le.of ⟨rfl, rfl, rfl, rfl, rfl, rfl, trivial⟩⟩
                  | exact ⟨i + 1, kk, acc, ⟨by first | omega | (simp only [ByteArray.size_append]; omega) | (have := encode_size ((runes s)[i]); simp only [ByteArray.size_append]; omega), by omega, by cases Nat.lt_or_ge i (runes s).length with | inl hlt => (first | (exfalso; omega) | (left; refine ⟨by omega, ?_⟩; rw [← hf2, hdc hlt, resF_cons]; clear hf2 hf hdc hdn; simp_all [encs_append, encs_cons, encs_nil, ByteArray.append_assoc]; done)) | inr hge => (first | (exfalso; omega) | (right; refine ⟨by omega, ?_⟩; rw [← hf2, hdn (by omega), resF_nil]; clear hf2 hf hdc hdn; simp_all [encs_append, encs_cons, encs_nil, ByteArray.append_assoc]; done))⟩, by omega, St.Le.of ⟨rfl, rfl, rfl, rfl, rfl, rfl, trivial⟩⟩
              · try simp only [decide_eq_true_eq, decide_eq_false_iff_not, Bool.not_eq_true', Bool.not_eq_false', beq_iff_eq, bne_iff_ne, ne_eq, beq_eq_false_iff_ne, bne_eq_false_iff_eq, Int.not_lt, Int.not_le, Nat.not_lt, Nat.not_le, Int.ofNat_lt, Int.ofNat_le, Bool.not_eq_eq_eq_not, Bool.not_true, Bool.not_false] at hb7
                refine SOps.fieldPin rfl fieldB_25_0_0 ?_
                refine SOps.loadPin rfl flatB_21 ?_
                refine SOps.bin rfl rfl rfl ?_
                refine SOps.pick rfl rfl ?_
                refine SOps.pick rfl rfl ?_
                refine SOps.nil ?_
                refine SCode.cond rfl (fun hc8 => ?_) (fun hc8 => ?_)
                · try simp only [decide_eq_true_eq, decide_eq_false_iff_not, Bool.not_eq_true', Bool.not_eq_false', beq_iff_eq, bne_iff_ne, ne_eq, beq_eq_false_iff_ne, bne_eq_false_iff_eq, Int.not_lt, Int.not_le, Nat.not_lt, Nat.not_le, Int.ofNat_lt, Int.ofNat_le, Bool.not_eq_eq_eq_not, Bool.not_true, Bool.not_false] at hc8
                  refine SCode.region ?_
                  refine SOps.move rfl ?_
                  refine SOps.move rfl ?_
                  refine SOps.move rfl ?_
                  refine SOps.indexM (i) rfl rfl sliceB_35_21_1 (by first | omega | (simp only [lenB]; omega)) (by first | omega | (simp only [lenB]; omega)) ?_
                  refine SOps.loadPin rfl flatB_21 ?_
                  refine SOps.convIntStr rfl someB_21 strB_9 ?_
                  refine SOps.concat rfl rfl (by simp only [lenB, ByteArray.size_append]; first | omega | (have := encode_size ((runes s)[i]); omega)) ?_
                  refine SOps.assign rfl ?_
                  refine SOps.nil ?_
                  show SCode _ _ _ _
                  refine SCode.region ?_
                  refine SOps.move rfl ?_
                  refine SOps.addI rfl rfl (by first | omega | (simp only [lenB]; omega)) (by first | omega | (simp only [lenB]; omega)) ?_
                  refine SOps.assign rfl ?_
                  refine SOps.nil ?_
                  first
                    | (exfalso; omega)
                    | exact ⟨i + 1, kk + 1, acc ++ r.«to» ++ Utf8.encode ((runes s)[i]), ⟨by first | omega | (simp only [ByteArray.size_append]; omega) | (have := encode_size ((runes s)[i]); simp only [ByteArray.size_append]; omega), by omega, by cases Nat.lt_or_ge i (runes s).length with | inl hlt => (first | (exfalso; omega) | (left; refine ⟨by omega, ?_⟩; rw [← hf2, hdc hlt, resF_cons]; clear hf2 hf hdc hdn; simp_all [encs_append, encs_cons, encs_nil, ByteArray.append_assoc]; done)) | inr hge => (first | (exfalso; omega) | (right; refine ⟨by omega, ?_⟩; rw [← hf2, hdn (by omega), resF_nil]; clear hf2 hf hdc hdn; simp_all [encs_append, encs_cons, encs_nil, ByteArray.append_assoc]; done))⟩, by omega, St.Le.of ⟨rfl, rfl, rfl, rfl, rfl, rfl, trivial⟩⟩
                    | exact ⟨i + 1, kk + 1, acc ++ r.«to», ⟨by first | omega | (simp only [ByteArray.size_append]; omega) | (have := encode_size ((runes s)[i]); simp only [ByteArray.size_append]; omega), by omega, by cases Nat.lt_or_ge i (runes s).length with | inl hlt => (first | (exfalso; omega) | (left; refine ⟨by omega, ?_⟩; rw [← hf2, hdc hlt, resF_cons]; clear hf2 hf hdc hdn; simp_all [encs_append, encs_cons, encs_nil, ByteArray.append_assoc]; done)) | inr hge => (first | (exfalso; omega) | (right; refine ⟨by omega, ?_⟩; rw [← hf2, hdn (by omega), resF_nil]; clear hf2 hf hdc hdn; simp_all [encs_append, encs_cons, encs_nil, ByteArray.append_assoc]; done))⟩, by omega, St.Le.of ⟨rfl, rfl, rfl, rfl, rfl, rfl, trivial⟩⟩
                    | exact ⟨i + 1, kk, acc ++ Utf8.encode ((runes s)[i]), ⟨by first | omega | (simp only [ByteArray.size_append]; omega) | (have := encode_size ((runes s)[i]); simp only [ByteArray.size_append]; omega), by omega, by cases Nat.lt_or_ge i (runes s).length with | inl hlt => (first | (exfalso; omega) | (left; refine ⟨by omega, ?_⟩; rw [← hf2, hdc hlt, resF_cons]; clear hf2 hf hdc hdn; simp_all [encs_append, encs_cons, encs_nil, ByteArray.append_assoc]; done)) | inr hge => (first | (exfalso; omega) | (right; refine ⟨by omega, ?_⟩; rw [← hf2, hdn (by omega), resF_nil]; clear hf2 hf hdc hdn; simp_all [encs_append, encs_cons, encs_nil, ByteArray.append_assoc]; done))⟩, by omega, St.Le.of ⟨rfl, rfl, rfl, rfl, rfl, rfl, trivial⟩⟩
                    | exact ⟨i + 1, kk, acc, ⟨by first | omega | (simp only [ByteArray.size_append]; omega) | (have := encode_size ((runes s)[i]); simp only [ByteArray.size_append]; omega), by omega, by cases Nat.lt_or_ge i (runes s).length with | inl hlt => (first | (exfalso; omega) | (left; refine ⟨by omega, ?_⟩; rw [← hf2, hdc hlt, resF_cons]; clear hf2 hf hdc hdn; simp_all [encs_append, encs_cons, encs_nil, ByteArray.append_assoc]; done)) | inr hge => (first | (exfalso; omega) | (right; refine ⟨by omega, ?_⟩; rw [← hf2, hdn (by omega), resF_nil]; clear hf2 hf hdc hdn; simp_all [encs_append, encs_cons, encs_nil, ByteArray.append_assoc]; done))⟩, by omega, St.Le.of ⟨rfl, rfl, rfl, rfl, rfl, rfl, trivial⟩⟩
                · try simp only [decide_eq_true_eq, decide_eq_false_iff_not, Bool.not_eq_true', Bool.not_eq_false', beq_iff_eq, bne_iff_ne, ne_eq, beq_eq_false_iff_ne, bne_eq_false_iff_eq, Int.not_lt, Int.not_le, Nat.not_lt, Nat.not_le, Int.ofNat_lt, Int.ofNat_le, Bool.not_eq_eq_eq_not, Bool.not_true, Bool.not_false] at hc8
                  refine SCode.skip ?_
                  show SCode _ _ _ _
                  refine SCode.region ?_
                  refine SOps.move rfl ?_
                  refine SOps.addI rfl rfl (by first | omega | (simp only [lenB]; omega)) (by first | omega | (simp only [lenB]; omega)) ?_
                  refine SOps.assign rfl ?_
                  refine SOps.nil ?_
                  first
                    | (exfalso; omega)
                    | exact ⟨i + 1, kk + 1, acc ++ r.«to» ++ Utf8.encode ((runes s)[i]), ⟨by first | omega | (simp only [ByteArray.size_append]; omega) | (have := encode_size ((runes s)[i]); simp only [ByteArray.size_append]; omega), by omega, by cases Nat.lt_or_ge i (runes s).length with | inl hlt => (first | (exfalso; omega) | (left; refine ⟨by omega, ?_⟩; rw [← hf2, hdc hlt, resF_cons]; clear hf2 hf hdc hdn; simp_all [encs_append, encs_cons, encs_nil, ByteArray.append_assoc]; done)) | inr hge => (first | (exfalso; omega) | (right; refine ⟨by omega, ?_⟩; rw [← hf2, hdn (by omega), resF_nil]; clear hf2 hf hdc hdn; simp_all [encs_append, encs_cons, encs_nil, ByteArray.append_assoc]; done))⟩, by omega, St.Le.of ⟨rfl, rfl, rfl, rfl, rfl, rfl, trivial⟩⟩
                    | exact ⟨i + 1, kk + 1, acc ++ r.«to», ⟨by first | omega | (simp only [ByteArray.size_append]; omega) | (have := encode_size ((runes s)[i]); simp only [ByteArray.size_append]; omega), by omega, by cases Nat.lt_or_ge i (runes s).length with | inl hlt => (first | (exfalso; omega) | (left; refine ⟨by omega, ?_⟩; rw [← hf2, hdc hlt, resF_cons]; clear hf2 hf hdc hdn; simp_all [encs_append, encs_cons, encs_nil, ByteArray.append_assoc]; done)) | inr hge => (first | (exfalso; omega) | (right; refine ⟨by omega, ?_⟩; rw [← hf2, hdn (by omega), resF_nil]; clear hf2 hf hdc hdn; simp_all [encs_append, encs_cons, encs_nil, ByteArray.append_assoc]; done))⟩, by omega, St.Le.of ⟨rfl, rfl, rfl, rfl, rfl, rfl, trivial⟩⟩
                    | exact ⟨i + 1, kk, acc ++ Utf8.encode ((runes s)[i]), ⟨by first | omega | (simp only [ByteArray.size_append]; omega) | (have := encode_size ((runes s)[i]); simp only [ByteArray.size_append]; omega), by omega, by cases Nat.lt_or_ge i (runes s).length with | inl hlt => (first | (exfalso; omega) | (left; refine ⟨by omega, ?_⟩; rw [← hf2, hdc hlt, resF_cons]; clear hf2 hf hdc hdn; simp_all [encs_append, encs_cons, encs_nil, ByteArray.append_assoc]; done)) | inr hge => (first | (exfalso; omega) | (right; refine ⟨by omega, ?_⟩; rw [← hf2, hdn (by omega), resF_nil]; clear hf2 hf hdc hdn; simp_all [encs_append, encs_cons, encs_nil, ByteArray.append_assoc]; done))⟩, by omega, St.Le.of ⟨rfl, rfl, rfl, rfl, rfl, rfl, trivial⟩⟩
                    | exact ⟨i + 1, kk, acc, ⟨by first | omega | (simp only [ByteArray.size_append]; omega) | (have := encode_size ((runes s)[i]); simp only [ByteArray.size_append]; omega), by omega, by cases Nat.lt_or_ge i (runes s).length with | inl hlt => (first | (exfalso; omega) | (left; refine ⟨by omega, ?_⟩; rw [← hf2, hdc hlt, resF_cons]; clear hf2 hf hdc hdn; simp_all [encs_append, encs_cons, encs_nil, ByteArray.append_assoc]; done)) | inr hge => (first | (exfalso; omega) | (right; refine ⟨by omega, ?_⟩; rw [← hf2, hdn (by omega), resF_nil]; clear hf2 hf hdc hdn; simp_all [encs_append, encs_cons, encs_nil, ByteArray.append_assoc]; done))⟩, by omega, St.Le.of ⟨rfl, rfl, rfl, rfl, rfl, rfl, trivial⟩⟩
            · try simp only [decide_eq_true_eq, decide_eq_false_iff_not, Bool.not_eq_true', Bool.not_eq_false', beq_iff_eq, bne_iff_ne, ne_eq, beq_eq_false_iff_ne, bne_eq_false_iff_eq, Int.not_lt, Int.not_le, Nat.not_lt, Nat.not_le, Int.ofNat_lt, Int.ofNat_le, Bool.not_eq_eq_eq_not, Bool.not_true, Bool.not_false] at hb6
              refine SOps.skip rfl ?_
              refine SOps.skip rfl ?_
              refine SOps.skip rfl ?_
              refine SOps.skip rfl ?_
              refine SOps.skip rfl ?_
              refine SOps.skip rfl ?_
              refine SOps.skip rfl ?_
              refine SOps.pick rfl rfl ?_
              refine SOps.nil ?_
              refine SCode.cond rfl (fun h => by cases h) (fun _ => ?_)
              refine SCode.skip ?_
              show SCode _ _ _ _
              refine SCode.region ?_
              refine SOps.move rfl ?_
              refine SOps.addI rfl rfl (by first | omega | (simp only [lenB]; omega)) (by first | omega | (simp only [lenB]; omega)) ?_
              refine SOps.assign rfl ?_
              refine SOps.nil ?_
              first
                | (exfalso; omega)
                | exact ⟨i + 1, kk + 1, acc ++ r.«to» ++ Utf8.encode ((runes s)[i]), ⟨by first | omega | (simp only [ByteArray.size_append]; omega) | (have := encode_size ((runes s)[i]); simp only [ByteArray.size_append]; omega), by omega, by cases Nat.lt_or_ge i (runes s).length with | inl hlt => (first | (exfalso; omega) | (left; refine ⟨by omega, ?_⟩; rw [← hf2, hdc hlt, resF_cons]; clear hf2 hf hdc hdn; simp_all [encs_append, encs_cons, encs_nil, ByteArray.append_assoc]; done)) | inr hge => (first | (exfalso; omega) | (right; refine ⟨by omega, ?_⟩; rw [← hf2, hdn (by omega), resF_nil]; clear hf2 hf hdc hdn; simp_all [encs_append, encs_cons, encs_nil, ByteArray.append_assoc]; done))⟩, by omega, St.Le.of ⟨rfl, rfl, rfl, rfl, rfl, rfl, trivial⟩⟩
                | exact ⟨i + 1, kk + 1, acc ++ r.«to», ⟨by first | omega | (simp only [ByteArray.size_append]; omega) | (have := encode_size ((runes s)[i]); simp only [ByteArray.size_append]; omega), by omega, by cases Nat.lt_or_ge i (runes s).length with | inl hlt => (first | (exfalso; omega) | (left; refine ⟨by omega, ?_⟩; rw [← hf2, hdc hlt, resF_cons]; clear hf2 hf hdc hdn; simp_all [encs_append, encs_cons, encs_nil, ByteArray.append_assoc]; done)) | inr hge => (first | (exfalso; omega) | (right; refine ⟨by omega, ?_⟩; rw [← hf2, hdn (by omega), resF_nil]; clear hf2 hf hdc hdn; simp_all [encs_append, encs_cons, encs_nil, ByteArray.append_assoc]; done))⟩, by omega, St.Le.of ⟨rfl, rfl, rfl, rfl, rfl, rfl, trivial⟩⟩
                | exact ⟨i + 1, kk, acc ++ Utf8.encode ((runes s)[i]), ⟨by first | omega | (simp only [ByteArray.size_append]; omega) | (have := encode_size ((runes s)[i]); simp only [ByteArray.size_append]; omega), by omega, by cases Nat.lt_or_ge i (runes s).length with | inl hlt => (first | (exfalso; omega) | (left; refine ⟨by omega, ?_⟩; rw [← hf2, hdc hlt, resF_cons]; clear hf2 hf hdc hdn; simp_all [encs_append, encs_cons, encs_nil, ByteArray.append_assoc]; done)) | inr hge => (first | (exfalso; omega) | (right; refine ⟨by omega, ?_⟩; rw [← hf2, hdn (by omega), resF_nil]; clear hf2 hf hdc hdn; simp_all [encs_append, encs_cons, encs_nil, ByteArray.append_assoc]; done))⟩, by omega, St.Le.of ⟨rfl, rfl, rfl, rfl, rfl, rfl, trivial⟩⟩
                | exact ⟨i + 1, kk, acc, ⟨by first | omega | (simp only [ByteArray.size_append]; omega) | (have := encode_size ((runes s)[i]); simp only [ByteArray.size_append]; omega), by omega, by cases Nat.lt_or_ge i (runes s).length with | inl hlt => (first | (exfalso; omega) | (left; refine ⟨by omega, ?_⟩; rw [← hf2, hdc hlt, resF_cons]; clear hf2 hf hdc hdn; simp_all [encs_append, encs_cons, encs_nil, ByteArray.append_assoc]; done)) | inr hge => (first | (exfalso; omega) | (right; refine ⟨by omega, ?_⟩; rw [← hf2, hdn (by omega), resF_nil]; clear hf2 hf hdc hdn; simp_all [encs_append, encs_cons, encs_nil, ByteArray.append_assoc]; done))⟩, by omega, St.Le.of ⟨rfl, rfl, rfl, rfl, rfl, rfl, trivial⟩⟩
          · try simp only [decide_eq_true_eq, decide_eq_false_iff_not, Bool.not_eq_true', Bool.not_eq_false', beq_iff_eq, bne_iff_ne, ne_eq, beq_eq_false_iff_ne, bne_eq_false_iff_eq, Int.not_lt, Int.not_le, Nat.not_lt, Nat.not_le, Int.ofNat_lt, Int.ofNat_le, Bool.not_eq_eq_eq_not, Bool.not_true, Bool.not_false] at hc5
            have hs0 : ¬ (sitesQ a r s)[kk] = i := fun h => hc5 (by rw [← h])
            refine SCode.skip ?_
            show SCode _ _ _ _
            refine SCode.seqR ?_
            refine SOps.move rfl ?_
            refine SOps.move rfl ?_
            refine SOps.lenM rfl sliceB_35_21_1 ?_
            refine SOps.bin rfl rfl rfl ?_
            refine SOps.move rfl ?_
            refine SOps.caseB 59 rfl (fun hb9 => ?_) (fun hb9 => ?_)
            · try simp only [decide_eq_true_eq, decide_eq_false_iff_not, Bool.not_eq_true', Bool.not_eq_false', beq_iff_eq, bne_iff_ne, ne_eq, beq_eq_false_iff_ne, bne_eq_false_iff_eq, Int.not_lt, Int.not_le, Nat.not_lt, Nat.not_le, Int.ofNat_lt, Int.ofNat_le, Bool.not_eq_eq_eq_not, Bool.not_true, Bool.not_false] at hb9
              refine SOps.move rfl ?_
              refine SOps.un rfl rfl ?_
              refine SOps.move rfl ?_
              refine SOps.caseB 62 rfl (fun hb10 => ?_) (fun hb10 => ?_)
              · try simp only [decide_eq_true_eq, decide_eq_false_iff_not, Bool.not_eq_true', Bool.not_eq_false', beq_iff_eq, bne_iff_ne, ne_eq, beq_eq_false_iff_ne, bne_eq_false_iff_eq, Int.not_lt, Int.not_le, Nat.not_lt, Nat.not_le, Int.ofNat_lt, Int.ofNat_le, Bool.not_eq_eq_eq_not, Bool.not_true, Bool.not_false] at hb10
                refine SOps.skip rfl ?_
                refine SOps.skip rfl ?_
                refine SOps.skip rfl ?_
                refine SOps.pick rfl rfl ?_
                refine SOps.pick rfl rfl ?_
                refine SOps.nil ?_
                refine SCode.cond rfl (fun _ => ?_) (fun h => by cases h)
                refine SCode.region ?_
                refine SOps.move rfl ?_
                refine SOps.move rfl ?_
                refine SOps.move rfl ?_
                refine SOps.indexM (i) rfl rfl sliceB_35_21_1 (by first | omega | (simp only [lenB]; omega)) (by first | omega | (simp only [lenB]; omega)) ?_
                refine SOps.loadPin rfl flatB_21 ?_
                refine SOps.convIntStr rfl someB_21 strB_9 ?_
                refine SOps.concat rfl rfl (by simp only [lenB, ByteArray.size_append]; first | omega | (have := encode_size ((runes s)[i]); omega)) ?_
                refine SOps.assign rfl ?_
                refine SOps.nil ?_
                show SCode _ _ _ _
                refine SCode.region ?_
                refine SOps.move rfl ?_
                refine SOps.addI rfl rfl (by first | omega | (simp only [lenB]; omega)) (by first | omega | (simp only [lenB]; omega)) ?_
                refine SOps.assign rfl ?_
                refine SOps.nil ?_
                first
                  | (exfalso; omega)
                  | exact ⟨i + 1, kk + 1, acc ++ r.«to» ++ Utf8.encode ((runes s)[i]), ⟨by first | omega | (simp only [ByteArray.size_append]; omega) | (have := encode_size ((runes s)[i]); simp only [ByteArray.size_append]; omega), by omega, by cases Nat.lt_or_ge i (runes s).length with | inl hlt => (first | (exfalso; omega) | (left; refine ⟨by omega, ?_⟩; rw [← hf2, hdc hlt, resF_cons]; clear hf2 hf hdc hdn; simp_all [encs_append, encs_cons, encs_nil, ByteArray.append_assoc]; done)) | inr hge => (first | (exfalso; omega) | (right; refine ⟨by omega, ?_⟩; rw [← hf2, hdn (by omega), resF_nil]; clear hf2 hf hdc hdn; simp_all [encs_append, encs_cons, encs_nil, ByteArray.append_assoc]; done))⟩, by omega, St.Le.of ⟨rfl, rfl, rfl, rfl, rfl, rfl, trivial⟩⟩
                  | exact ⟨i + 1, kk + 1, acc ++ r.«to», ⟨by first | omega | (simp only [ByteArray.size_append]; omega) | (have := encode_size ((runes s)[i]); simp only [ByteArray.size_append]; omega), by omega, by cases Nat.lt_or_ge i (runes s).length with | inl hlt => (first | (exfalso; omega) | (left; refine ⟨by omega, ?_⟩; rw [← hf2, hdc hlt, resF_cons]; clear hf2 hf hdc hdn; simp_all [encs_append, encs_cons, encs_nil, ByteArray.append_assoc]; done)) | inr hge => (first | (exfalso; omega) | (right; refine ⟨by omega, ?_⟩; rw [← hf2, hdn (by omega), resF_nil]; clear hf2 hf hdc hdn; simp_all [encs_append, encs_cons, encs_nil, ByteArray.append_assoc]; done))⟩, by omega, St.Le.of ⟨rfl, rfl, rfl, rfl, rfl, rfl, trivial⟩⟩
                  | exact ⟨i + 1, kk, acc ++ Utf8.encode ((runes s)[i]), ⟨by first | omega | (simp only [ByteArray.size_append]; omega) | (have := encode_size ((runes s)[i]); simp only [ByteArray.size_append]; omega), by omega, by cases Nat.lt_or_ge i (runes s).length with | inl hlt => (first | (exfalso; omega) | (left; refine ⟨by omega, ?_⟩; rw [← hf2, hdc hlt, resF_cons]; clear hf2 hf hdc hdn; simp_all [encs_append, encs_cons, encs_nil, ByteArray.append_assoc]; done)) | inr hge => (first | (exfalso; omega) | (right; refine ⟨by omega, ?_⟩; rw [← hf2, hdn (by omega), resF_nil]; clear hf2 hf hdc hdn; simp_all [encs_append, encs_cons, encs_nil, ByteArray.append_assoc]; done))⟩, by omega, St.Le.of ⟨rfl, rfl, rfl, rfl, rfl, rfl, trivial⟩⟩
                  | exact ⟨i + 1, kk, acc, ⟨by first | omega | (simp only [ByteArray.size_append]; omega) | (have := encode_size ((runes s)[i]); simp only [ByteArray.size_append]; omega), by omega, by cases Nat.lt_or_ge i (runes s).length with | inl hlt => (first | (exfalso; omega) | (left; refine ⟨by omega, ?_⟩; rw [← hf2, hdc hlt, resF_cons]; clear hf2 hf hdc hdn; simp_all [encs_append, encs_cons, encs_nil, ByteArray.append_assoc]; done)) | inr hge => (first | (exfalso; omega) | (right; refine ⟨by omega, ?_⟩; rw [← hf2, hdn (by omega), resF_nil]; clear hf2 hf hdc hdn; simp_all [encs_append, encs_cons, encs_nil, ByteArray.append_assoc]; done))⟩, by omega, St.Le.of ⟨rfl, rfl, rfl, rfl, rfl, rfl, trivial⟩⟩
              · try simp only [decide_eq_true_eq, decide_eq_false_iff_not, Bool.not_eq_true', Bool.not_eq_false', beq_iff_eq, bne_iff_ne, ne_eq, beq_eq_false_iff_ne, bne_eq_false_iff_eq, Int.not_lt, Int.not_le, Nat.not_lt, Nat.not_le, Int.ofNat_lt, Int.ofNat_le, Bool.not_eq_eq_eq_not, Bool.not_true, Bool.not_false] at hb10
                refine SOps.fieldPin rfl fieldB_25_0_0 ?_
                refine SOps.loadPin rfl flatB_21 ?_
                refine SOps.bin rfl rfl rfl ?_
                refine SOps.pick rfl rfl ?_
                refine SOps.pick rfl rfl ?_
                refine SOps.nil ?_
                refine SCode.cond rfl (fun hc11 => ?_) (fun hc11 => ?_)
                · try simp only [decide_eq_true_eq, decide_eq_false_iff_not, Bool.not_eq_true', Bool.not_eq_false', beq_iff_eq, bne_iff_ne, ne_eq, beq_eq_false_iff_ne, bne_eq_false_iff_eq, Int.not_lt, Int.not_le, Nat.not_lt, Nat.not_le, Int.ofNat_lt, Int.ofNat_le, Bool.not_eq_eq_eq_not, Bool.not_true, Bool.not_false] at hc11
                  refine SCode.region ?_
                  refine SOps.move rfl ?_
                  refine SOps.move rfl ?_
                  refine SOps.move rfl ?_
                  refine SOps.indexM (i) rfl rfl sliceB_35_21_1 (by first | omega | (simp only [lenB]; omega)) (by first | omega | (simp only [lenB]; omega)) ?_
                  refine SOps.loadPin rfl flatB_21 ?_
                  refine SOps.convIntStr rfl someB_21 strB_9 ?_
                  refine SOps.concat rfl rfl (by simp only [lenB, ByteArray.size_append]; first | omega | (have := encode_size ((runes s)[i]); omega)) ?_
                  refine SOps.assign rfl ?_
                  refine SOps.nil ?_
                  show SCode _ _ _ _
                  refine SCode.region ?_
                  refine SOps.move rfl ?_
                  refine SOps.addI rfl rfl (by first | omega | (simp only [lenB]; omega)) (by first | omega | (simp only [lenB]; omega)) ?_
                  refine SOps.assign rfl ?_
                  refine SOps.nil ?_
                  first
                    | (exfalso; omega)
                    | exact ⟨i + 1, kk + 1, acc ++ r.«to» ++ Utf8.encode ((runes s)[i]), ⟨by first | omega | (simp only [ByteArray.size_append]; omega) | (have := encode_size ((runes s)[i]); simp only [ByteArray.size_append]; omega), by omega, by cases Nat.lt_or_ge i (runes s).length with | inl hlt => (first | (exfalso; omega) | (left; refine ⟨by omega, ?_⟩; rw [← hf2, hdc hlt, resF_cons]; clear hf2 hf hdc hdn; simp_all [encs_append, encs_cons, encs_nil, ByteArray.append_assoc]; done)) | inr hge => (first | (exfalso; omega) | (right; refine ⟨by omega, ?_⟩; rw [← hf2, hdn (by omega), resF_nil]; clear hf2 hf hdc hdn; simp_all [encs_append, encs_cons, encs_nil, ByteArray.append_assoc]; done))⟩, by omega, St.Le.of ⟨rfl, rfl, rfl, rfl, rfl, rfl, trivial⟩⟩
                    | exact ⟨i + 1, kk + 1, acc ++ r.«to», ⟨by first | omega | (simp only [ByteArray.size_append]; omega) | (have := encode_size ((runes s)[i]); simp only [ByteArray.size_append]; omega), by omega, by cases Nat.lt_or_ge i (runes s).length with | inl hlt => (first | (exfalso; omega) | (left; refine ⟨by omega, ?_⟩; rw [← hf2, hdc hlt, resF_cons]; clear hf2 hf hdc hdn; simp_all [encs_append, encs_cons, encs_nil, ByteArray.append_assoc]; done)) | inr hge => (first | (exfalso; omega) | (right; refine ⟨by omega, ?_⟩; rw [← hf2, hdn (by omega), resF_nil]; clear hf2 hf hdc hdn; simp_all [encs_append, encs_cons, encs_nil, ByteArray.append_assoc]; done))⟩, by omega, St.Le.of ⟨rfl, rfl, rfl, rfl, rfl, rfl, trivial⟩⟩
                    | exact ⟨i + 1, kk, acc ++ Utf8.encode ((runes s)[i]), ⟨by first | omega | (simp only [ByteArray.size_append]; omega) | (have := encode_size ((runes s)[i]); simp only [ByteArray.size_append]; omega), by omega, by cases Nat.lt_or_ge i (runes s).length with | inl hlt => (first | (exfalso; omega) | (left; refine ⟨by omega, ?_⟩; rw [← hf2, hdc hlt, resF_cons]; clear hf2 hf hdc hdn; simp_all [encs_append, encs_cons, encs_nil, ByteArray.append_assoc]; done)) | inr hge => (first | (exfalso; omega) | (right; refine ⟨by omega, ?_⟩; rw [← hf2, hdn (by omega), resF_nil]; clear hf2 hf hdc hdn; simp_all [encs_append, encs_cons, encs_nil, ByteArray.append_assoc]; done))⟩, by omega, St.Le.of ⟨rfl, rfl, rfl, rfl, rfl, rfl, trivial⟩⟩
                    | exact ⟨i + 1, kk, acc, ⟨by first | omega | (simp only [ByteArray.size_append]; omega) | (have := encode_size ((runes s)[i]); simp only [ByteArray.size_append]; omega), by omega, by cases Nat.lt_or_ge i (runes s).length with | inl hlt => (first | (exfalso; omega) | (left; refine ⟨by omega, ?_⟩; rw [← hf2, hdc hlt, resF_cons]; clear hf2 hf hdc hdn; simp_all [encs_append, encs_cons, encs_nil, ByteArray.append_assoc]; done)) | inr hge => (first | (exfalso; omega) | (right; refine ⟨by omega, ?_⟩; rw [← hf2, hdn (by omega), resF_nil]; clear hf2 hf hdc hdn; simp_all [encs_append, encs_cons, encs_nil, ByteArray.append_assoc]; done))⟩, by omega, St.Le.of ⟨rfl, rfl, rfl, rfl, rfl, rfl, trivial⟩⟩
                · try simp only [decide_eq_true_eq, decide_eq_false_iff_not, Bool.not_eq_true', Bool.not_eq_false', beq_iff_eq, bne_iff_ne, ne_eq, beq_eq_false_iff_ne, bne_eq_false_iff_eq, Int.not_lt, Int.not_le, Nat.not_lt, Nat.not_le, Int.ofNat_lt, Int.ofNat_le, Bool.not_eq_eq_eq_not, Bool.not_true, Bool.not_false] at hc11
                  refine SCode.skip ?_
                  show SCode _ _ _ _
                  refine SCode.region ?_
                  refine SOps.move rfl ?_
                  refine SOps.addI rfl rfl (by first | omega | (simp only [lenB]; omega)) (by first | omega | (simp only [lenB]; omega)) ?_
                  refine SOps.assign rfl ?_
                  refine SOps.nil ?_
                  first
                    | (exfalso; omega)
                    | exact ⟨i + 1, kk + 1, acc ++ r.«to» ++ Utf8.encode ((runes s)[i]), ⟨by first | omega | (simp only [ByteArray.size_append]; omega) | (have := encode_size ((runes s)[i]); simp only [ByteArray.size_append]; omega), by omega, by cases Nat.lt_or_ge i (runes s).length with | inl hlt => (first | (exfalso; omega) | (left; refine ⟨by omega, ?_⟩; rw [← hf2, hdc hlt, resF_cons]; clear hf2 hf hdc hdn; simp_all [encs_append, encs_cons, encs_nil, ByteArray.append_assoc]; done)) | inr hge => (first | (exfalso; omega) | (right; refine ⟨by omega, ?_⟩; rw [← hf2, hdn (by omega), resF_nil]; clear hf2 hf hdc hdn; simp_all [encs_append, encs_cons, encs_nil, ByteArray.append_assoc]; done))⟩, by omega, St.Le.of ⟨rfl, rfl, rfl, rfl, rfl, rfl, trivial⟩⟩
                    | exact ⟨i + 1, kk + 1, acc ++ r.«to», ⟨by first | omega | (simp only [ByteArray.size_append]; omega) | (have := encode_size ((runes s)[i]); simp only [ByteArray.size_append]; omega), by omega, by cases Nat.lt_or_ge i (runes s).length with | inl hlt => (first | (exfalso; omega) | (left; refine ⟨by omega, ?_⟩; rw [← hf2, hdc hlt, resF_cons]; clear hf2 hf hdc hdn; simp_all [encs_append, encs_cons, encs_nil, ByteArray.append_assoc]; done)) | inr hge => (first | (exfalso; omega) | (right; refine ⟨by omega, ?_⟩; rw [← hf2, hdn (by omega), resF_nil]; clear hf2 hf hdc hdn; simp_all [encs_append, encs_cons, encs_nil, ByteArray.append_assoc]; done))⟩, by omega, St.Le.of ⟨rfl, rfl, rfl, rfl, rfl, rfl, trivial⟩⟩
                    | exact ⟨i + 1, kk, acc ++ Utf8.encode ((runes s)[i]), ⟨by first | omega | (simp only [ByteArray.size_append]; omega) | (have := encode_size ((runes s)[i]); simp only [ByteArray.size_append]; omega), by omega, by cases Nat.lt_or_ge i (runes s).length with | inl hlt => (first | (exfalso; omega) | (left; refine ⟨by omega, ?_⟩; rw [← hf2, hdc hlt, resF_cons]; clear hf2 hf hdc hdn; simp_all [encs_append, encs_cons, encs_nil, ByteArray.append_assoc]; done)) | inr hge => (first | (exfalso; omega) | (right; refine ⟨by omega, ?_⟩; rw [← hf2, hdn (by omega), resF_nil]; clear hf2 hf hdc hdn; simp_all [encs_append, encs_cons, encs_nil, ByteArray.append_assoc]; done))⟩, by omega, St.Le.of ⟨rfl, rfl, rfl, rfl, rfl, rfl, trivial⟩⟩
                    | exact ⟨i + 1, kk, acc, ⟨by first | omega | (simp only [ByteArray.size_append]; omega) | (have := encode_size ((runes s)[i]); simp only [ByteArray.size_append]; omega), by omega, by cases Nat.lt_or_ge i (runes s).length with | inl hlt => (first | (exfalso; omega) | (left; refine ⟨by omega, ?_⟩; rw [← hf2, hdc hlt, resF_cons]; clear hf2 hf hdc hdn; simp_all [encs_append, encs_cons, encs_nil, ByteArray.append_assoc]; done)) | inr hge => (first | (exfalso; omega) | (right; refine ⟨by omega, ?_⟩; rw [← hf2, hdn (by omega), resF_nil]; clear hf2 hf hdc hdn; simp_all [encs_append, encs_cons, encs_nil, ByteArray.append_assoc]; done))⟩, by omega, St.Le.of ⟨rfl, rfl, rfl, rfl, rfl, rfl, trivial⟩⟩
            · try simp only [decide_eq_true_eq, decide_eq_false_iff_not, Bool.not_eq_true', Bool.not_eq_false', beq_iff_eq, bne_iff_ne, ne_eq, beq_eq_false_iff_ne, bne_eq_false_iff_eq, Int.not_lt, Int.not_le, Nat.not_lt, Nat.not_le, Int.ofNat_lt, Int.ofNat_le, Bool.not_eq_eq_eq_not, Bool.not_true, Bool.not_false] at hb9
              refine SOps.skip rfl ?_
              refine SOps.skip rfl ?_
              refine SOps.skip rfl ?_
              refine SOps.skip rfl ?_
              refine SOps.skip rfl ?_
              refine SOps.skip rfl ?_
              refine SOps.skip rfl ?_
              refine SOps.pick rfl rfl ?_
              refine SOps.nil ?_
              refine SCode.cond rfl (fun h => by cases h) (fun _ => ?_)
              refine SCode.skip ?_
              show SCode _ _ _ _
              refine SCode.region ?_
              refine SOps.move rfl ?_
              refine SOps.addI rfl rfl (by first | omega | (simp only [lenB]; omega)) (by first | omega | (simp only [lenB]; omega)) ?_
              refine SOps.assign rfl ?_
              refine SOps.nil ?_
              first
                | (exfalso; omega)
                | exact ⟨i + 1, kk + 1, acc ++ r.«to» ++ Utf8.encode ((runes s)[i]), ⟨by first | omega | (simp only [ByteArray.size_append]; omega) | (have := encode_size ((runes s)[i]); simp only [ByteArray.size_append]; omega), by omega, by cases Nat.lt_or_ge i (runes s).length with | inl hlt => (first | (exfalso; omega) | (left; refine ⟨by omega, ?_⟩; rw [← hf2, hdc hlt, resF_cons]; clear hf2 hf hdc hdn; simp_all [encs_append, encs_cons, encs_nil, ByteArray.append_assoc]; done)) | inr hge => (first | (exfalso; omega) | (right; refine ⟨by omega, ?_⟩; rw [← hf2, hdn (by omega), resF_nil]; clear hf2 hf hdc hdn; simp_all [encs_append, encs_cons, encs_nil, ByteArray.append_assoc]; done))⟩, by omega, St.Le.of ⟨rfl, rfl, rfl, rfl, rfl, rfl, trivial⟩⟩
                | exact ⟨i + 1, kk + 1, acc ++ r.«to», ⟨by first | omega | (simp only [ByteArray.size_append]; omega) | (have := encode_size ((runes s)[i]); simp only [ByteArray.size_append]; omega), by omega, by cases Nat.lt_or_ge i (runes s).length with | inl hlt => (first | (exfalso; omega) | (left; refine ⟨by omega, ?_⟩; rw [← hf2, hdc hlt, resF_cons]; clear hf2 hf hdc hdn; simp_all [encs_append, encs_cons, encs_nil, ByteArray.append_assoc]; done)) | inr hge => (first | (exfalso; omega) | (right; refine ⟨by omega, ?_⟩; rw [← hf2, hdn (by omega), resF_nil]; clear hf2 hf hdc hdn; simp_all [encs_append, encs_cons, encs_nil, ByteArray.append_assoc]; done))⟩, by omega, St.Le.of ⟨rfl, rfl, rfl, rfl, rfl, rfl, trivial⟩⟩
                | exact ⟨i + 1, kk, acc ++ Utf8.encode ((runes s)[i]), ⟨by first | omega | (simp only [ByteArray.size_append]; omega) | (have := encode_size ((runes s)[i]); simp only [ByteArray.size_append]; omega), by omega, by cases Nat.lt_or_ge i (runes s).length with | inl hlt => (first | (exfalso; omega) | (left; refine ⟨by omega, ?_⟩; rw [← hf2, hdc hlt, resF_cons]; clear hf2 hf hdc hdn; simp_all [encs_append, encs_cons, encs_nil, ByteArray.append_assoc]; done)) | inr hge => (first | (exfalso; omega) | (right; refine ⟨by omega, ?_⟩; rw [← hf2, hdn (by omega), resF_nil]; clear hf2 hf hdc hdn; simp_all [encs_append, encs_cons, encs_nil, ByteArray.append_assoc]; done))⟩, by omega, St.Le.of ⟨rfl, rfl, rfl, rfl, rfl, rfl, trivial⟩⟩
                | exact ⟨i + 1, kk, acc, ⟨by first | omega | (simp only [ByteArray.size_append]; omega) | (have := encode_size ((runes s)[i]); simp only [ByteArray.size_append]; omega), by omega, by cases Nat.lt_or_ge i (runes s).length with | inl hlt => (first | (exfalso; omega) | (left; refine ⟨by omega, ?_⟩; rw [← hf2, hdc hlt, resF_cons]; clear hf2 hf hdc hdn; simp_all [encs_append, encs_cons, encs_nil, ByteArray.append_assoc]; done)) | inr hge => (first | (exfalso; omega) | (right; refine ⟨by omega, ?_⟩; rw [← hf2, hdn (by omega), resF_nil]; clear hf2 hf hdc hdn; simp_all [encs_append, encs_cons, encs_nil, ByteArray.append_assoc]; done))⟩, by omega, St.Le.of ⟨rfl, rfl, rfl, rfl, rfl, rfl, trivial⟩⟩
        · try simp only [decide_eq_true_eq, decide_eq_false_iff_not, Bool.not_eq_true', Bool.not_eq_false', beq_iff_eq, bne_iff_ne, ne_eq, beq_eq_false_iff_ne, bne_eq_false_iff_eq, Int.not_lt, Int.not_le, Nat.not_lt, Nat.not_le, Int.ofNat_lt, Int.ofNat_le, Bool.not_eq_eq_eq_not, Bool.not_true, Bool.not_false] at hb4
          have hkd : (sitesQ a r s).drop kk = [] := List.drop_eq_nil_of_le (by omega)
          refine SOps.skip rfl ?_
          refine SOps.skip rfl ?_
          refine SOps.skip rfl ?_
          refine SOps.skip rfl ?_
          refine SOps.skip rfl ?_
          refine SOps.skip rfl ?_
          refine SOps.pick rfl rfl ?_
          refine SOps.assign rfl ?_
          refine SOps.nil ?_
          refine SCode.seq ?_
          refine SCode.seqR ?_
          refine SOps.move rfl ?_
          refine SOps.nil ?_
          refine SCode.cond rfl (fun h => by cases h) (fun _ => ?_)
          refine SCode.skip ?_
          show SCode _ _ _ _
          refine SCode.seqR ?_
          refine SOps.move rfl ?_
          refine SOps.move rfl ?_
          refine SOps.lenM rfl sliceB_35_21_1 ?_
          refine SOps.bin rfl rfl rfl ?_
          refine SOps.move rfl ?_
          refine SOps.caseB 59 rfl (fun hb12 => ?_) (fun hb12 => ?_)
          · try simp only [decide_eq_true_eq, decide_eq_false_iff_not, Bool.not_eq_true', Bool.not_eq_false', beq_iff_eq, bne_iff_ne, ne_eq, beq_eq_false_iff_ne, bne_eq_false_iff_eq, Int.not_lt, Int.not_le, Nat.not_lt, Nat.not_le, Int.ofNat_lt, Int.ofNat_le, Bool.not_eq_eq_eq_not, Bool.not_true, Bool.not_false] at hb12
            refine SOps.move rfl ?_
            refine SOps.un rfl rfl ?_
            refine SOps.move rfl ?_
            refine SOps.skip rfl ?_
            refine SOps.skip rfl ?_
            refine SOps.skip rfl ?_
            refine SOps.pick rfl rfl ?_
            refine SOps.pick rfl rfl ?_
            refine SOps.nil ?_
            refine SCode.cond rfl (fun _ => ?_) (fun h => by cases h)
            refine SCode.region ?_
            refine SOps.move rfl ?_
            refine SOps.move rfl ?_
            refine SOps.move rfl ?_
            refine SOps.indexM (i) rfl rfl sliceB_35_21_1 (by first | omega | (simp only [lenB]; omega)) (by first | omega | (simp only [lenB]; omega)) ?_
            refine SOps.loadPin rfl flatB_21 ?_
            refine SOps.convIntStr rfl someB_21 strB_9 ?_
            refine SOps.concat rfl rfl (by simp only [lenB, ByteArray.size_append]; first | omega | (have := encode_size ((runes s)[i]); omega)) ?_
            refine SOps.assign rfl ?_
            refine SOps.nil ?_
            show SCode _ _ _ _
            refine SCode.region ?_
            refine SOps.move rfl ?_
            refine SOps.addI rfl rfl (by first | omega | (simp only [lenB]; omega)) (by first | omega | (simp only [lenB]; omega)) ?_
            refine SOps.assign rfl ?_
            refine SOps.nil ?_
            first
              | (exfalso; omega)
              | exact ⟨i + 1, kk + 1, acc ++ r.«to» ++ Utf8.encode ((runes s)[i]), ⟨by first | omega | (simp only [ByteArray.size_append]; omega) | (have := encode_size ((runes s)[i]); simp only [ByteArray.size_append]; omega), by omega, by cases Nat.lt_or_ge i (runes s).length with | inl hlt => (first | (exfalso; omega) | (left; refine ⟨by omega, ?_⟩; rw [← hf2, hdc hlt, resF_cons]; clear hf2 hf hdc hdn; simp_all [encs_append, encs_cons, encs_nil, ByteArray.append_assoc]; done)) | inr hge => (first | (exfalso; omega) | (right; refine ⟨by omega, ?_⟩; rw [← hf2, hdn (by omega), resF_nil]; clear hf2 hf hdc hdn; simp_all [encs_append, encs_cons, encs_nil, ByteArray.append_assoc]; done))⟩, by omega, St.Le.of ⟨rfl, rfl, rfl, rfl, rfl, rfl, trivial⟩⟩
              | exact ⟨i + 1, kk + 1, acc ++ r.«to», ⟨by first | omega | (simp only [ByteArray.size_append]; omega) | (have := encode_size ((runes s)[i]); simp only [ByteArray.size_append]; omega), by omega, by cases Nat.lt_or_ge i (runes s).length with | inl hlt => (first | (exfalso; omega) | (left; refine ⟨by omega, ?_⟩; rw [← hf2, hdc hlt, resF_cons]; clear hf2 hf hdc hdn; simp_all [encs_append, encs_cons, encs_nil, ByteArray.append_assoc]; done)) | inr hge => (first | (exfalso; omega) | (right; refine ⟨by omega, ?_⟩; rw [← hf2, hdn (by omega), resF_nil]; clear hf2 hf hdc hdn; simp_all [encs_append, encs_cons, encs_nil, ByteArray.append_assoc]; done))⟩, by omega, St.Le.of ⟨rfl, rfl, rfl, rfl, rfl, rfl, trivial⟩⟩
              | exact ⟨i + 1, kk, acc ++ Utf8.encode ((runes s)[i]), ⟨by first | omega | (simp only [ByteArray.size_append]; omega) | (have := encode_size ((runes s)[i]); simp only [ByteArray.size_append]; omega), by omega, by cases Nat.lt_or_ge i (runes s).length with | inl hlt => (first | (exfalso; omega) | (left; refine ⟨by omega, ?_⟩; rw [← hf2, hdc hlt, resF_cons]; clear hf2 hf hdc hdn; simp_all [encs_append, encs_cons, encs_nil, ByteArray.append_assoc]; done)) | inr hge => (first | (exfalso; omega) | (right; refine ⟨by omega, ?_⟩; rw [← hf2, hdn (by omega), resF_nil]; clear hf2 hf hdc hdn; simp_all [encs_append, encs_cons, encs_nil, ByteArray.append_assoc]; done))⟩, by omega, St.Le.of ⟨rfl, rfl, rfl, rfl, rfl, rfl, trivial⟩⟩
              | exact ⟨i + 1, kk, acc, ⟨by first | omega | (simp only [ByteArray.size_append]; omega) | (have := encode_size ((runes s)[i]); simp only [ByteArray.size_append]; omega), by omega, by cases Nat.lt_or_ge i (runes s).length with | inl hlt => (first | (exfalso; omega) | (left; refine ⟨by omega, ?_⟩; rw [← hf2, hdc hlt, resF_cons]; clear hf2 hf hdc hdn; simp_all [encs_append, encs_cons, encs_nil, ByteArray.append_assoc]; done)) | inr hge => (first | (exfalso; omega) | (right; refine ⟨by omega, ?_⟩; rw [← hf2, hdn (by omega), resF_nil]; clear hf2 hf hdc hdn; simp_all [encs_append, encs_cons, encs_nil, ByteArray.append_assoc]; done))⟩, by omega, St.Le.of ⟨rfl, rfl, rfl, rfl, rfl, rfl, trivial⟩⟩
          · try simp only [decide_eq_true_eq, decide_eq_false_iff_not, Bool.not_eq_true', Bool.not_eq_false', beq_iff_eq, bne_iff_ne, ne_eq, beq_eq_false_iff_ne, bne_eq_false_iff_eq, Int.not_lt, Int.not_le, Nat.not_lt, Nat.not_le, Int.ofNat_lt, Int.ofNat_le, Bool.not_eq_eq_eq_not, Bool.not_true, Bool.not_false] at hb12
            refine SOps.skip rfl ?_
            refine SOps.skip rfl ?_
            refine SOps.skip rfl ?_
            refine SOps.skip rfl ?_
            refine SOps.skip rfl ?_
            refine SOps.skip rfl ?_
            refine SOps.skip rfl ?_
            refine SOps.pick rfl rfl ?_
            refine SOps.nil ?_
            refine SCode.cond rfl (fun h => by cases h) (fun _ => ?_)
            refine SCode.skip ?_
            show SCode _ _ _ _
            refine SCode.region ?_
            refine SOps.move rfl ?_
            refine SOps.addI rfl rfl (by first | omega | (simp only [lenB]; omega)) (by first | omega | (simp only [lenB]; omega)) ?_
            refine SOps.assign rfl ?_
            refine SOps.nil ?_
            first
              | (exfalso; omega)
              | exact ⟨i + 1, kk + 1, acc ++ r.«to» ++ Utf8.encode ((runes s)[i]), ⟨by first | omega | (simp only [ByteArray.size_append]; omega) | (have := encode_size ((runes s)[i]); simp only [ByteArray.size_append]; omega), by omega, by cases Nat.lt_or_ge i (runes s).length with | inl hlt => (first | (exfalso; omega) | (left; refine ⟨by omega, ?_⟩; rw [← hf2, hdc hlt, resF_cons]; clear hf2 hf hdc hdn; simp_all [encs_append, encs_cons, encs_nil, ByteArray.append_assoc]; done)) | inr hge => (first | (exfalso; omega) | (right; refine ⟨by omega, ?_⟩; rw [← hf2, hdn (by omega), resF_nil]; clear hf2 hf hdc hdn; simp_all [encs_append, encs_cons, encs_nil, ByteArray.append_assoc]; done))⟩, by omega, St.Le.of ⟨rfl, rfl, rfl, rfl, rfl, rfl, trivial⟩⟩
              | exact ⟨i + 1, kk + 1, acc ++ r.«to», ⟨by first | omega | (simp only [ByteArray.size_append]; omega) | (have := encode_size ((runes s)[i]); simp only [ByteArray.size_append]; omega), by omega, by cases Nat.lt_or_ge i (runes s).length with | inl hlt => (first | (exfalso; omega) | (left; refine ⟨by omega, ?_⟩; rw [← hf2, hdc hlt, resF_cons]; clear hf2 hf hdc hdn; simp_all [encs_append, encs_cons, encs_nil, ByteArray.append_assoc]; done)) | inr hge => (first | (exfalso; omega) | (right; refine ⟨by omega, ?_⟩; rw [← hf2, hdn (by omega), resF_nil]; clear hf2 hf hdc hdn; simp_all [encs_append, encs_cons, encs_nil, ByteArray.append_assoc]; done))⟩, by omega, St.Le.of ⟨rfl, rfl, rfl, rfl, rfl, rfl, trivial⟩⟩
              | exact ⟨i + 1, kk, acc ++ Utf8.encode ((runes s)[i]), ⟨by first | omega | (simp only [ByteArray.size_append]; omega) | (have := encode_size ((runes s)[i]); simp only [ByteArray.size_append]; omega), by omega, by cases Nat.lt_or_ge i (runes s).length with | inl hlt => (first | (exfalso; omega) | (left; refine ⟨by omega, ?_⟩; rw [← hf2, hdc hlt, resF_cons]; clear hf2 hf hdc hdn; simp_all [encs_append, encs_cons, encs_nil, ByteArray.append_assoc]; done)) | inr hge => (first | (exfalso; omega) | (right; refine ⟨by omega, ?_⟩; rw [← hf2, hdn (by omega), resF_nil]; clear hf2 hf hdc hdn; simp_all [encs_append, encs_cons, encs_nil, ByteArray.append_assoc]; done))⟩, by omega, St.Le.of ⟨rfl, rfl, rfl, rfl, rfl, rfl, trivial⟩⟩
              | exact ⟨i + 1, kk, acc, ⟨by first | omega | (simp only [ByteArray.size_append]; omega) | (have := encode_size ((runes s)[i]); simp only [ByteArray.size_append]; omega), by omega, by cases Nat.lt_or_ge i (runes s).length with | inl hlt => (first | (exfalso; omega) | (left; refine ⟨by omega, ?_⟩; rw [← hf2, hdc hlt, resF_cons]; clear hf2 hf hdc hdn; simp_all [encs_append, encs_cons, encs_nil, ByteArray.append_assoc]; done)) | inr hge => (first | (exfalso; omega) | (right; refine ⟨by omega, ?_⟩; rw [← hf2, hdn (by omega), resF_nil]; clear hf2 hf hdc hdn; simp_all [encs_append, encs_cons, encs_nil, ByteArray.append_assoc]; done))⟩, by omega, St.Le.of ⟨rfl, rfl, rfl, rfl, rfl, rfl, trivial⟩⟩
      · try simp only [decide_eq_true_eq, decide_eq_false_iff_not, Bool.not_eq_true', Bool.not_eq_false', beq_iff_eq, bne_iff_ne, ne_eq, beq_eq_false_iff_ne, bne_eq_false_iff_eq, Int.not_lt, Int.not_le, Nat.not_lt, Nat.not_le, Int.ofNat_lt, Int.ofNat_le, Bool.not_eq_eq_eq_not, Bool.not_true, Bool.not_false] at hc3
        refine SCode.exit ?_
        show SCode _ _ _ _
        refine SCode.seq ?_
        refine SCode.seqR ?_
        obtain ⟨_, rfl⟩ := hf.resolve_left (by omega)
        refine SOps.move rfl ?_
        refine SOps.runesF rfl rfl strB_9 sliceB_35_21_1 intB_21_i32 ?_
        refine SOps.lenM rfl sliceB_35_21_1 ?_
        refine SOps.bin rfl rfl rfl ?_
        refine SOps.nil ?_
        refine SCode.cond rfl (fun hc13 => ?_) (fun hc13 => ?_)
        · try simp only [decide_eq_true_eq, decide_eq_false_iff_not, Bool.not_eq_true', Bool.not_eq_false', beq_iff_eq, bne_iff_ne, ne_eq, beq_eq_false_iff_ne, bne_eq_false_iff_eq, Int.not_lt, Int.not_le, Nat.not_lt, Nat.not_le, Int.ofNat_lt, Int.ofNat_le, Bool.not_eq_eq_eq_not, Bool.not_true, Bool.not_false] at hc13
          refine SCode.seqR ?_
          refine SOps.assign rfl ?_
          refine SOps.assign rfl ?_
          refine SOps.nil ?_
          refine SCode.ret ?_
          exact ⟨_, Res.two (.tmp rfl) (.tmp rfl), (by unfold applyQ resX; first | (rw [if_neg (by simp_all [okR])]; rfl) | (rw [if_pos hok, if_pos (by omega)]; rfl) | (rw [if_pos hok, if_neg (by omega)]; rfl)), rfl⟩
        · try simp only [decide_eq_true_eq, decide_eq_false_iff_not, Bool.not_eq_true', Bool.not_eq_false', beq_iff_eq, bne_iff_ne, ne_eq, beq_eq_false_iff_ne, bne_eq_false_iff_eq, Int.not_lt, Int.not_le, Nat.not_lt, Nat.not_le, Int.ofNat_lt, Int.ofNat_le, Bool.not_eq_eq_eq_not, Bool.not_true, Bool.not_false] at hc13
          refine SCode.skip ?_
          show SCode _ _ _ _
          refine SCode.seqR ?_
          refine SOps.move rfl ?_
          refine SOps.assign rfl ?_
          refine SOps.assign rfl ?_
          refine SOps.nil ?_
          refine SCode.ret ?_
          exact ⟨_, Res.two (.tmp rfl) (.tmp rfl), (by unfold applyQ resX; first | (rw [if_neg (by simp_all [okR])]; rfl) | (rw [if_pos hok, if_pos (by omega)]; rfl) | (rw [if_pos hok, if_neg (by omega)]; rfl)), rfl⟩
def trF (ap : Rule → ByteArray → ByteArray × Int) : List Rule → List ByteArray → ByteArray → List ByteArray × Int
  | [], out, _ => (out, 0)
  | r :: rs, out, last => if (ap r last).2 = 0 then trF ap rs (out ++ [(ap r last).1]) (ap r last).1 else ([], (ap r last).2)
theorem trF_nil (ap : Rule → ByteArray → ByteArray × Int) (out : List ByteArray) (last : ByteArray) : trF ap [] out last = (out, 0) := rfl
theorem trF_cons (ap : Rule → ByteArray → ByteArray × Int) (r : Rule) (rs : List Rule) (out : List ByteArray) (last : ByteArray) : trF ap (r :: rs) out last = if (ap r last).2 = 0 then trF ap rs (out ++ [(ap r last).1]) (ap r last).1 else ([], (ap r last).2) := rfl
def okT (a : List Letter) (l : List Rule) (s : ByteArray) : Bool := decide (l.length ≤ 64) && admA a && consS a 40 s && l.all (validR a)
def traceX (a : List Letter) (l : List Rule) (s : ByteArray) (ap : Rule → ByteArray → ByteArray × Int) : List ByteArray × Int := if okT a l s then trF ap l [s] s else ([], 1)
def traceR (a : List Letter) (l : List Rule) (s : ByteArray) : List ByteArray × Int := traceX a l s (applyR a)
def traceQ (a : List Letter) (l : List Rule) (s : ByteArray) : List ByteArray × Int := traceX a l s (applyQ a)
def tupT (x : List ByteArray × Int) : DV := .tup [DStrs x.1, .v (.int .i64 x.2)]
theorem qCheck (hV : VS E) (a : List Letter) (l : List Rule) (s : ByteArray)  : GCall Tryd.prog E 53 [DLs a, DRs l, .v (.string s)] [] (fun d H => d = .v (.bool (okT a l s)) ∧ H = []) := by
  refine GCall.body (C := ⟨Tryd.prog, E, true⟩) Tryd.func53 rfl (fun _ => rfl) (by kernel_rfl) rfl ?_
  refine SCode.seqR ?_
  refine SOps.assign rfl ?_
  refine SOps.nil ?_
  refine SCode.seq ?_
  refine SCode.seqR ?_
  refine SOps.assign rfl ?_
  refine SOps.nil ?_
  refine SCode.block ?_
  refine SCode.loop1 (fun (i : Nat) => (⟨33, [(0, DLs a), (1, DRs l), (2, .v (.string s)), (7, .v (.int .i64 (i : Int)))], []⟩ : St)) (fun (i : Nat) => i ≤ l.length ∧ ∀ r ∈ l.take i, validR a r = true) (fun (i : Nat) => l.length - i) (0) (by simp) (St.Le.of ⟨(by first | rfl | (show some _ = some _; simp)), (by first | rfl | (show some _ = some _; simp)), (by first | rfl | (show some _ = some _; simp)), (by first | rfl | (show some _ = some _; simp)), trivial⟩ rfl (by first | rfl | (simp))) ?_
  rintro i ⟨hi, hf⟩
  refine SCode.fact (isl_len (t := 1) rfl) (fun hB => ?_)
  simp only [List.length_map, lenB] at hB
  refine SCode.seq ?_
  refine SCode.seqR ?_
  refine SOps.move rfl ?_
  refine SOps.move rfl ?_
  refine SOps.lenM rfl sliceB_36_25_6 ?_
  refine SOps.bin rfl rfl rfl ?_
  refine SOps.nil ?_
  refine SCode.cond rfl (fun hc1 => ?_) (fun hc1 => ?_)
  · try simp only [decide_eq_true_eq, decide_eq_false_iff_not, Bool.not_eq_true', Bool.not_eq_false', beq_iff_eq, bne_iff_ne, ne_eq, beq_eq_false_iff_ne, bne_eq_false_iff_eq, Int.not_lt, Int.not_le, Nat.not_lt, Nat.not_le, Int.ofNat_lt, Int.ofNat_le, Bool.not_eq_eq_eq_not, Bool.not_true, Bool.not_false] at hc1
    refine SCode.skip ?_
    show SCode _ _ _ _
    refine SCode.seq ?_
    refine SCode.block ?_
    refine SCode.seqR ?_
    refine SOps.move rfl ?_
    refine SOps.move rfl ?_
    refine SOps.move rfl ?_
    refine SOps.indexM (i) rfl rfl sliceB_36_25_6 (by omega) (by omega) ?_
    refine SOps.loadPinA rfl aggB_25_6 (Nat.le_of_ble_eq_true rfl) ?_
    refine SOps.callP (qValid hV _ _) rfl ?_
    rintro _ rfl
    refine SOps.un rfl rfl ?_
    refine SOps.nil ?_
    refine SCode.cond rfl (fun hc2 => ?_) (fun hc2 => ?_)
    · try simp only [decide_eq_true_eq, decide_eq_false_iff_not, Bool.not_eq_true', Bool.not_eq_false', beq_iff_eq, bne_iff_ne, ne_eq, beq_eq_false_iff_ne, bne_eq_false_iff_eq, Int.not_lt, Int.not_le, Nat.not_lt, Nat.not_le, Int.ofNat_lt, Int.ofNat_le, Bool.not_eq_eq_eq_not, Bool.not_true, Bool.not_false] at hc2
      refine SCode.seqR ?_
      refine SOps.assign rfl ?_
      refine SOps.nil ?_
      refine SCode.ret ?_
      exact ⟨_, Res.one (.tmp rfl), congrArg (fun b => DV.v (.bool b)) (Eq.symm (Bool.eq_false_iff.2 (fun h => by simp only [okT, Bool.and_eq_true, List.all_eq_true] at h; rw [h.2 _ (List.getElem_mem (show i < l.length by omega))] at hc2; cases hc2))), rfl⟩
    · try simp only [decide_eq_true_eq, decide_eq_false_iff_not, Bool.not_eq_true', Bool.not_eq_false', beq_iff_eq, bne_iff_ne, ne_eq, beq_eq_false_iff_ne, bne_eq_false_iff_eq, Int.not_lt, Int.not_le, Nat.not_lt, Nat.not_le, Int.ofNat_lt, Int.ofNat_le, Bool.not_eq_eq_eq_not, Bool.not_true, Bool.not_false] at hc2
      refine SCode.skip ?_
      show SCode _ _ _ _
      refine SCode.region ?_
      refine SOps.move rfl ?_
      refine SOps.addI rfl rfl (by omega) (by omega) ?_
      refine SOps.assign rfl ?_
      refine SOps.nil ?_
      exact ⟨i + 1, by exact ⟨by omega, take_more hf (by omega) hc2⟩, by omega, (St.Le.of ⟨(by first | rfl | (show some _ = some _; simp)), (by first | rfl | (show some _ = some _; simp)), (by first | rfl | (show some _ = some _; simp)), (by first | rfl | (show some _ = some _; simp)), trivial⟩ rfl (by first | rfl | (simp)))⟩
  · try simp only [decide_eq_true_eq, decide_eq_false_iff_not, Bool.not_eq_true', Bool.not_eq_false', beq_iff_eq, bne_iff_ne, ne_eq, beq_eq_false_iff_ne, bne_eq_false_iff_eq, Int.not_lt, Int.not_le, Nat.not_lt, Nat.not_le, Int.ofNat_lt, Int.ofNat_le, Bool.not_eq_eq_eq_not, Bool.not_true, Bool.not_false] at hc1
    refine SCode.exit ?_
    show SCode _ _ _ _
    refine SCode.seqR ?_
    have hall : l.all (validR a) = true := List.all_eq_true.2 (all_of (by omega) hf)
    refine SOps.move rfl ?_
    refine SOps.lenM rfl sliceB_36_25_6 ?_
    refine SOps.bin rfl rfl rfl ?_
    refine SOps.move rfl ?_
    refine SOps.caseB 24 rfl (fun hb3 => ?_) (fun hb3 => ?_)
    · try simp only [decide_eq_true_eq, decide_eq_false_iff_not, Bool.not_eq_true', Bool.not_eq_false', beq_iff_eq, bne_iff_ne, ne_eq, beq_eq_false_iff_ne, bne_eq_false_iff_eq, Int.not_lt, Int.not_le, Nat.not_lt, Nat.not_le, Int.ofNat_lt, Int.ofNat_le, Bool.not_eq_eq_eq_not, Bool.not_true, Bool.not_false] at hb3
      refine SOps.move rfl ?_
      refine SOps.callP (qAdm _) rfl ?_
      rintro _ rfl
      refine SOps.pick rfl rfl ?_
      refine SOps.move rfl ?_
      refine SOps.caseB 28 rfl (fun hb4 => ?_) (fun hb4 => ?_)
      · try simp only [decide_eq_true_eq, decide_eq_false_iff_not, Bool.not_eq_true', Bool.not_eq_false', beq_iff_eq, bne_iff_ne, ne_eq, beq_eq_false_iff_ne, bne_eq_false_iff_eq, Int.not_lt, Int.not_le, Nat.not_lt, Nat.not_le, Int.ofNat_lt, Int.ofNat_le, Bool.not_eq_eq_eq_not, Bool.not_true, Bool.not_false] at hb4
        refine SOps.move rfl ?_
        refine SOps.move rfl ?_
        refine SOps.callP (qWord hV _ _) rfl ?_
        rintro _ rfl
        refine SOps.pick rfl rfl ?_
        refine SOps.assign rfl ?_
        refine SOps.nil ?_
        refine SCode.ret ?_
        exact ⟨_, Res.one (.tmp rfl), congrArg (fun b => DV.v (.bool b)) (by rcases Classical.em (l.length ≤ 64) with h64 | h64 <;> first | (exfalso; omega) | (simp_all [okT]; done) | (simp_all [okT]; intros; omega)), rfl⟩
      · try simp only [decide_eq_true_eq, decide_eq_false_iff_not, Bool.not_eq_true', Bool.not_eq_false', beq_iff_eq, bne_iff_ne, ne_eq, beq_eq_false_iff_ne, bne_eq_false_iff_eq, Int.not_lt, Int.not_le, Nat.not_lt, Nat.not_le, Int.ofNat_lt, Int.ofNat_le, Bool.not_eq_eq_eq_not, Bool.not_true, Bool.not_false] at hb4
        refine SOps.skip rfl ?_
        refine SOps.skip rfl ?_
        refine SOps.skip rfl ?_
        refine SOps.pick rfl rfl ?_
        refine SOps.assign rfl ?_
        refine SOps.nil ?_
        refine SCode.ret ?_
        exact ⟨_, Res.one (.tmp rfl), congrArg (fun b => DV.v (.bool b)) (by rcases Classical.em (l.length ≤ 64) with h64 | h64 <;> first | (exfalso; omega) | (simp_all [okT]; done) | (simp_all [okT]; intros; omega)), rfl⟩
    · try simp only [decide_eq_true_eq, decide_eq_false_iff_not, Bool.not_eq_true', Bool.not_eq_false', beq_iff_eq, bne_iff_ne, ne_eq, beq_eq_false_iff_ne, bne_eq_false_iff_eq, Int.not_lt, Int.not_le, Nat.not_lt, Nat.not_le, Int.ofNat_lt, Int.ofNat_le, Bool.not_eq_eq_eq_not, Bool.not_true, Bool.not_false] at hb3
      refine SOps.skip rfl ?_
      refine SOps.skip rfl ?_
      refine SOps.pick rfl rfl ?_
      refine SOps.move rfl ?_
      refine SOps.skip rfl ?_
      refine SOps.skip rfl ?_
      refine SOps.skip rfl ?_
      refine SOps.pick rfl rfl ?_
      refine SOps.assign rfl ?_
      refine SOps.nil ?_
      refine SCode.ret ?_
      exact ⟨_, Res.one (.tmp rfl), congrArg (fun b => DV.v (.bool b)) (by rcases Classical.em (l.length ≤ 64) with h64 | h64 <;> first | (exfalso; omega) | (simp_all [okT]; done) | (simp_all [okT]; intros; omega)), rfl⟩
theorem rTrace (hV : VS E) (a : List Letter) (l : List Rule) (s : ByteArray) (hr : ∀ r ∈ l, SmR r) (hs : s.size ≤ 1048576) : GCall Tryd.prog E 23 [DLs a, DRs l, .v (.string s)] [] (fun d H => d = tupT (traceR a l s) ∧ H = []) := by
  refine GCall.body (C := ⟨Tryd.prog, E, true⟩) Tryd.func23 rfl (fun _ => rfl) (by kernel_rfl) rfl ?_
  refine SCode.seqR ?_
  refine SOps.assign rfl ?_
  refine SOps.assign rfl ?_
  refine SOps.nil ?_
  refine SCode.seq ?_
  refine SCode.seqR ?_
  refine SOps.move rfl ?_
  refine SOps.lenM rfl sliceB_36_25_6 ?_
  refine SOps.bin rfl rfl rfl ?_
  refine SOps.move rfl ?_
  refine SOps.caseB 18 rfl (fun hb1 => ?_) (fun hb1 => ?_)
  · try simp only [decide_eq_true_eq, decide_eq_false_iff_not, Bool.not_eq_true', Bool.not_eq_false', beq_iff_eq, bne_iff_ne, ne_eq, beq_eq_false_iff_ne, bne_eq_false_iff_eq, Int.not_lt, Int.not_le, Nat.not_lt, Nat.not_le, Int.ofNat_lt, Int.ofNat_le, Bool.not_eq_eq_eq_not, Bool.not_true, Bool.not_false] at hb1
    refine SOps.skip rfl ?_
    refine SOps.skip rfl ?_
    refine SOps.skip rfl ?_
    refine SOps.pick rfl rfl ?_
    refine SOps.move rfl ?_
    refine SOps.skip rfl ?_
    refine SOps.skip rfl ?_
    refine SOps.skip rfl ?_
    refine SOps.skip rfl ?_
    refine SOps.pick rfl rfl ?_
    refine SOps.nil ?_
    refine SCode.cond rfl (fun _ => ?_) (fun h => by cases h)
    refine SCode.seqR ?_
    refine SOps.assign rfl ?_
    refine SOps.assign rfl ?_
    refine SOps.nil ?_
    refine SCode.nilIsl (t := 6) (sz := 1) rfl ?_
    refine SCode.drop ?_
    refine SCode.ret ?_
    exact ⟨_, Res.two (.tmp rfl) (.tmp rfl), (by unfold traceR traceX; rw [if_neg (fun h => by have hok := h; simp only [okT, Bool.and_eq_true, decide_eq_true_eq, List.all_eq_true] at hok; omega)]; rfl), rfl⟩
  · try simp only [decide_eq_true_eq, decide_eq_false_iff_not, Bool.not_eq_true', Bool.not_eq_false', beq_iff_eq, bne_iff_ne, ne_eq, beq_eq_false_iff_ne, bne_eq_false_iff_eq, Int.not_lt, Int.not_le, Nat.not_lt, Nat.not_le, Int.ofNat_lt, Int.ofNat_le, Bool.not_eq_eq_eq_not, Bool.not_true, Bool.not_false] at hb1
    refine SOps.move rfl ?_
    refine SOps.callP (lAdm _) rfl ?_
    rintro _ rfl
    refine SOps.un rfl rfl ?_
    refine SOps.pick rfl rfl ?_
    refine SOps.move rfl ?_
    refine SOps.caseB 23 rfl (fun hb2 => ?_) (fun hb2 => ?_)
    · try simp only [decide_eq_true_eq, decide_eq_false_iff_not, Bool.not_eq_true', Bool.not_eq_false', beq_iff_eq, bne_iff_ne, ne_eq, beq_eq_false_iff_ne, bne_eq_false_iff_eq, Int.not_lt, Int.not_le, Nat.not_lt, Nat.not_le, Int.ofNat_lt, Int.ofNat_le, Bool.not_eq_eq_eq_not, Bool.not_true, Bool.not_false] at hb2
      refine SOps.skip rfl ?_
      refine SOps.skip rfl ?_
      refine SOps.skip rfl ?_
      refine SOps.skip rfl ?_
      refine SOps.pick rfl rfl ?_
      refine SOps.nil ?_
      refine SCode.cond rfl (fun _ => ?_) (fun h => by cases h)
      refine SCode.seqR ?_
      refine SOps.assign rfl ?_
      refine SOps.assign rfl ?_
      refine SOps.nil ?_
      refine SCode.nilIsl (t := 6) (sz := 1) rfl ?_
      refine SCode.drop ?_
      refine SCode.ret ?_
      exact ⟨_, Res.two (.tmp rfl) (.tmp rfl), (by unfold traceR traceX; rw [if_neg (fun h => by have hok := h; simp only [okT, Bool.and_eq_true, decide_eq_true_eq, List.all_eq_true] at hok; simp_all)]; rfl), rfl⟩
    · try simp only [decide_eq_true_eq, decide_eq_false_iff_not, Bool.not_eq_true', Bool.not_eq_false', beq_iff_eq, bne_iff_ne, ne_eq, beq_eq_false_iff_ne, bne_eq_false_iff_eq, Int.not_lt, Int.not_le, Nat.not_lt, Nat.not_le, Int.ofNat_lt, Int.ofNat_le, Bool.not_eq_eq_eq_not, Bool.not_true, Bool.not_false] at hb2
      refine SOps.move rfl ?_
      refine SOps.move rfl ?_
      refine SOps.callP (lIsWord hV _ _) rfl ?_
      rintro _ rfl
      refine SOps.un rfl rfl ?_
      refine SOps.pick rfl rfl ?_
      refine SOps.nil ?_
      refine SCode.cond rfl (fun hc3 => ?_) (fun hc3 => ?_)
      · try simp only [decide_eq_true_eq, decide_eq_false_iff_not, Bool.not_eq_true', Bool.not_eq_false', beq_iff_eq, bne_iff_ne, ne_eq, beq_eq_false_iff_ne, bne_eq_false_iff_eq, Int.not_lt, Int.not_le, Nat.not_lt, Nat.not_le, Int.ofNat_lt, Int.ofNat_le, Bool.not_eq_eq_eq_not, Bool.not_true, Bool.not_false] at hc3
        refine SCode.seqR ?_
        refine SOps.assign rfl ?_
        refine SOps.assign rfl ?_
        refine SOps.nil ?_
        refine SCode.nilIsl (t := 6) (sz := 1) rfl ?_
        refine SCode.drop ?_
        refine SCode.ret ?_
        exact ⟨_, Res.two (.tmp rfl) (.tmp rfl), (by unfold traceR traceX; rw [if_neg (fun h => by have hok := h; simp only [okT, Bool.and_eq_true, decide_eq_true_eq, List.all_eq_true] at hok; simp_all)]; rfl), rfl⟩
      · try simp only [decide_eq_true_eq, decide_eq_false_iff_not, Bool.not_eq_true', Bool.not_eq_false', beq_iff_eq, bne_iff_ne, ne_eq, beq_eq_false_iff_ne, bne_eq_false_iff_eq, Int.not_lt, Int.not_le, Nat.not_lt, Nat.not_le, Int.ofNat_lt, Int.ofNat_le, Bool.not_eq_eq_eq_not, Bool.not_true, Bool.not_false] at hc3
        refine SCode.skip ?_
        show SCode _ _ _ _
        refine SCode.seq ?_
        refine SCode.seqR ?_
        refine SOps.move rfl ?_
        refine SOps.lenM rfl sliceB_36_25_6 ?_
        refine SOps.move rfl ?_
        refine SOps.nil ?_
        refine SCode.block ?_
        refine SCode.loop1 (fun (i : Nat) => (⟨69, [(0, DLs a), (1, DRs l), (2, .v (.string s)), (29, DRs l), (30, .v (.int .i64 ((l.length : Nat) : Int))), (31, .v (.int .i64 (i : Int)))], []⟩ : St)) (fun (i : Nat) => i ≤ l.length ∧ ∀ r ∈ l.take i, validR a r = true) (fun (i : Nat) => l.length - i) (0) (by simp) (St.Le.of ⟨(by first | rfl | (show some _ = some _; simp)), (by first | rfl | (show some _ = some _; simp)), (by first | rfl | (show some _ = some _; simp)), (by first | rfl | (show some _ = some _; simp)), (by first | rfl | (show some _ = some _; simp)), (by first | rfl | (show some _ = some _; simp)), trivial⟩ rfl (by first | rfl | (simp))) ?_
        rintro i ⟨hi, hf⟩
        refine SCode.seqR ?_
        refine SOps.bin rfl rfl rfl ?_
        refine SOps.nil ?_
        refine SCode.seq ?_
        refine SCode.cond rfl (fun hc4 => ?_) (fun hc4 => ?_)
        · try simp only [decide_eq_true_eq, decide_eq_false_iff_not, Bool.not_eq_true', Bool.not_eq_false', beq_iff_eq, bne_iff_ne, ne_eq, beq_eq_false_iff_ne, bne_eq_false_iff_eq, Int.not_lt, Int.not_le, Nat.not_lt, Nat.not_le, Int.ofNat_lt, Int.ofNat_le, Bool.not_eq_eq_eq_not, Bool.not_true, Bool.not_false] at hc4
          refine SCode.skip ?_
          show SCode _ _ _ _
          refine SCode.seq ?_
          refine SCode.block ?_
          refine SCode.seqR ?_
          refine SOps.indexM (i) rfl rfl sliceB_36_25_6 (by first | omega | (simp only [lenB]; omega)) (by first | omega | (simp only [lenB]; omega)) ?_
          refine SOps.loadPinA rfl aggB_25_6 (Nat.le_of_ble_eq_true rfl) ?_
          refine SOps.alloc (sz := 6) zeroIs_25 (fun b0 hb_0 => ?_)
          refine SOps.storeAM 0 rfl rfl aggB_25_6 rfl ?_
          refine SOps.freezeRef (t := 9) 0 0 rfl rfl rfl rfl rfl ?_
          refine SOps.nil ?_
          refine SCode.seqR ?_
          have hr6 := hr _ (List.getElem_mem (show i < l.length by omega))
          refine SOps.move rfl ?_
          refine SOps.loadPinA rfl aggB_25_6 (Nat.le_of_ble_eq_true rfl) ?_
          refine SOps.callP (rValid hV _ _ hr6) rfl ?_
          rintro _ rfl
          refine SOps.un rfl rfl ?_
          refine SOps.nil ?_
          refine SCode.cond rfl (fun hc5 => ?_) (fun hc5 => ?_)
          · try simp only [decide_eq_true_eq, decide_eq_false_iff_not, Bool.not_eq_true', Bool.not_eq_false', beq_iff_eq, bne_iff_ne, ne_eq, beq_eq_false_iff_ne, bne_eq_false_iff_eq, Int.not_lt, Int.not_le, Nat.not_lt, Nat.not_le, Int.ofNat_lt, Int.ofNat_le, Bool.not_eq_eq_eq_not, Bool.not_true, Bool.not_false] at hc5
            refine SCode.seqR ?_
            refine SOps.assign rfl ?_
            refine SOps.assign rfl ?_
            refine SOps.nil ?_
            refine SCode.nilIsl (t := 6) (sz := 1) rfl ?_
            refine SCode.drop ?_
            refine SCode.ret ?_
            exact ⟨_, Res.two (.tmp rfl) (.tmp rfl), (by unfold traceR traceX; rw [if_neg (fun h => by have hok := h; simp only [okT, Bool.and_eq_true, decide_eq_true_eq, List.all_eq_true] at hok; have := hok.2 _ (List.getElem_mem (show i < l.length by omega)); simp_all)]; rfl), rfl⟩
          · try simp only [decide_eq_true_eq, decide_eq_false_iff_not, Bool.not_eq_true', Bool.not_eq_false', beq_iff_eq, bne_iff_ne, ne_eq, beq_eq_false_iff_ne, bne_eq_false_iff_eq, Int.not_lt, Int.not_le, Nat.not_lt, Nat.not_le, Int.ofNat_lt, Int.ofNat_le, Bool.not_eq_eq_eq_not, Bool.not_true, Bool.not_false] at hc5
            refine SCode.skip ?_
            show SCode _ _ _ _
            refine SCode.region ?_
            refine SOps.addI rfl rfl (by first | omega | (simp only [lenB]; omega)) (by first | omega | (simp only [lenB]; omega)) ?_
            refine SOps.move rfl ?_
            refine SOps.nil ?_
            exact ⟨i + 1, by exact ⟨by omega, take_more hf (by omega) hc5⟩, by omega, (St.Le.of ⟨(by first | rfl | (show some _ = some _; simp)), (by first | rfl | (show some _ = some _; simp)), (by first | rfl | (show some _ = some _; simp)), (by first | rfl | (show some _ = some _; simp)), (by first | rfl | (show some _ = some _; simp)), (by first | rfl | (show some _ = some _; simp)), trivial⟩ rfl (by first | rfl | (simp)))⟩
        · try simp only [decide_eq_true_eq, decide_eq_false_iff_not, Bool.not_eq_true', Bool.not_eq_false', beq_iff_eq, bne_iff_ne, ne_eq, beq_eq_false_iff_ne, bne_eq_false_iff_eq, Int.not_lt, Int.not_le, Nat.not_lt, Nat.not_le, Int.ofNat_lt, Int.ofNat_le, Bool.not_eq_eq_eq_not, Bool.not_true, Bool.not_false] at hc4
          refine SCode.exit ?_
          show SCode _ _ _ _
          refine SCode.seqR ?_
          refine SOps.move rfl ?_
          refine SOps.litO sliceB_39_9_1 zeroIs_9 rfl (fun b1 hb_1 => ?_)
          refine SOps.assign rfl ?_
          refine SOps.nil ?_
          refine SCode.seq ?_
          refine SCode.seqR ?_
          refine SOps.move rfl ?_
          refine SOps.lenM rfl sliceB_36_25_6 ?_
          refine SOps.move rfl ?_
          refine SOps.nil ?_
          refine SCode.block ?_
          have hall : l.all (validR a) = true := List.all_eq_true.2 (all_of (by omega) hf)
          have hok : okT a l s = true := by rcases Classical.em (l.length ≤ 64) with h64 | h64 <;> first | (exfalso; omega) | (simp_all [okT]; done)
          have h64 : l.length ≤ 64 := by omega
          refine SCode.loop3 (fun (j : Nat) (out : List ByteArray) (k : Nat) => (⟨69, [(0, DLs a), (10, .sl k 1 0 out.length), (42, DRs l), (43, .v (.int .i64 ((l.length : Nat) : Int))), (44, .v (.int .i64 (j : Int)))], [(k, .row 9 1 (out.map encS))]⟩ : St)) (fun (j : Nat) (out : List ByteArray) (k : Nat) => j ≤ l.length ∧ ∃ (ho : out.length = j + 1), (out[out.length - 1]'(by omega)).size ≤ 1048576 ∧ trF (applyR a) (l.drop j) out (out[out.length - 1]'(by omega)) = trF (applyR a) l [s] s) (fun (j : Nat) (out : List ByteArray) (k : Nat) => l.length - j) (0) ([s]) (b1) (by exact ⟨Nat.zero_le _, rfl, hs, rfl⟩) (St.Le.of ⟨(by first | rfl | (show some _ = some _; simp)), (by first | rfl | (show some _ = some _; simp)), (by first | rfl | (show some _ = some _; simp)), (by first | rfl | (show some _ = some _; simp)), (by first | rfl | (show some _ = some _; simp)), trivial⟩ rfl (by first | rfl | (simp))) ?_
          rintro j out k ⟨hj, ho, hz, ht⟩
          refine SCode.seqR ?_
          refine SOps.bin rfl rfl rfl ?_
          refine SOps.nil ?_
          refine SCode.seq ?_
          refine SCode.cond rfl (fun hc6 => ?_) (fun hc6 => ?_)
          · try simp only [decide_eq_true_eq, decide_eq_false_iff_not, Bool.not_eq_true', Bool.not_eq_false', beq_iff_eq, bne_iff_ne, ne_eq, beq_eq_false_iff_ne, bne_eq_false_iff_eq, Int.not_lt, Int.not_le, Nat.not_lt, Nat.not_le, Int.ofNat_lt, Int.ofNat_le, Bool.not_eq_eq_eq_not, Bool.not_true, Bool.not_false] at hc6
            refine SCode.skip ?_
            show SCode _ _ _ _
            refine SCode.seq ?_
            refine SCode.block ?_
            refine SCode.seqR ?_
            refine SOps.indexM (j) rfl rfl sliceB_36_25_6 (by first | omega | (simp only [lenB]; omega)) (by first | omega | (simp only [lenB]; omega)) ?_
            refine SOps.loadPinA rfl aggB_25_6 (Nat.le_of_ble_eq_true rfl) ?_
            refine SOps.alloc (sz := 6) zeroIs_25 (fun b2 hb_2 => ?_)
            refine SOps.storeAM 0 rfl rfl aggB_25_6 rfl ?_
            refine SOps.freezeRef (t := 12) 0 0 rfl rfl rfl rfl rfl ?_
            refine SOps.nil ?_
            refine SCode.seq ?_
            have hjl : j < l.length := by omega
            have hr13 := hr _ (List.getElem_mem hjl)
            refine SCode.drawPure mixed_ [(49, DLs a), (50, .agg (encR (l[j]))), (51, .sl k 1 0 out.length), (52, .sl k 1 0 out.length), (53, .v (.int .i64 ((out.length : Nat) : Int))), (54, .v (.int .i64 ((out.length : Int) - 1))), (55, .ref k ((0 + (out.length - 1)) * 1)), (56, .v (.string (out[out.length - 1]))), (57, tupA (applyR a (l[j]) (out[out.length - 1]))), (48, tupA (applyR a (l[j]) (out[out.length - 1]))), (58, .v (.string (applyR a (l[j]) (out[out.length - 1])).1)), (59, .v (.int .i64 (applyR a (l[j]) (out[out.length - 1])).2)), (13, .v (.string (applyR a (l[j]) (out[out.length - 1])).1)), (14, .v (.int .i64 (applyR a (l[j]) (out[out.length - 1])).2))] [49, 50, 51, 52, 53, 54, 55, 56, 57, 48, 58, 59, 13, 14] [[.inr 0], [.inr 12], [.inr 10], [.inr 10], [.inl 3], [.inl 4], [.inl 2, .inl 5], [.inl 6], [.inl 0, .inl 1, .inl 7], [.inl 8], [.inl 9], [.inl 9], [.inl 10], [.inl 11]] [[(0, DLs a)], [(12, .ipin (encR (l[j])))], [(10, .sl k 1 0 out.length)], [(10, .sl k 1 0 out.length)], [(52, .sl k 1 0 out.length)], [(53, .v (.int .i64 ((out.length : Nat) : Int)))], [(51, .sl k 1 0 out.length), (54, .v (.int .i64 ((out.length : Int) - 1)))], [(55, .ref k ((0 + (out.length - 1)) * 1))], [(49, DLs a), (50, .agg (encR (l[j]))), (56, .v (.string (out[out.length - 1])))], [(57, tupA (applyR a (l[j]) (out[out.length - 1])))], [(48, tupA (applyR a (l[j]) (out[out.length - 1])))], [(48, tupA (applyR a (l[j]) (out[out.length - 1])))], [(58, .v (.string (applyR a (l[j]) (out[out.length - 1])).1))], [(59, .v (.int .i64 (applyR a (l[j]) (out[out.length - 1])).2))]] rfl (by kernel_rfl) (by kernel_rfl) rfl ?_ ?_
            · refine OpsOk.cons (fun rest => ?_) ?_
              · refine SOps.move rfl ?_
                exact SOps.nil (by first | rfl | simp_all)
              refine OpsOk.cons (fun rest => ?_) ?_
              · refine SOps.loadPinA rfl aggB_25_6 (Nat.le_of_ble_eq_true rfl) ?_
                exact SOps.nil (by first | rfl | simp_all)
              refine OpsOk.cons (fun rest => ?_) ?_
              · refine SOps.move rfl ?_
                exact SOps.nil (by first | rfl | simp_all)
              refine OpsOk.cons (fun rest => ?_) ?_
              · refine SOps.move rfl ?_
                exact SOps.nil (by first | rfl | simp_all)
              refine OpsOk.cons (fun rest => ?_) ?_
              · refine SOps.lenSl rfl sliceB_39_9_1 ?_
                exact SOps.nil (by first | rfl | simp_all)
              refine OpsOk.cons (fun rest => ?_) ?_
              · refine SOps.subI rfl rfl (by first | omega | (simp only [lenB]; omega)) (by first | omega | (simp only [lenB]; omega)) ?_
                exact SOps.nil (by first | rfl | simp_all)
              refine OpsOk.cons (fun rest => ?_) ?_
              · refine SOps.indexS ((out.length - 1)) rfl rfl sliceB_39_9_1 (by first | omega | (simp only [lenB]; omega)) (by first | omega | (simp only [lenB]; omega)) ?_
                exact SOps.nil (by first | rfl | simp_all)
              refine OpsOk.cons (fun rest => ?_) ?_
              · refine SOps.loadK 0 ((out.length - 1)) rfl flatB_9 rfl (by first | omega | (simp only [lenB]; omega)) (by first | omega | (simp; omega)) rfl ?_
                exact SOps.nil (by first | rfl | simp_all)
              refine OpsOk.cons (fun rest => ?_) ?_
              · refine SOps.callP (rApply hV _ _ _ hr13 hz) rfl ?_
                rintro _ rfl
                exact SOps.nil (by first | rfl | simp_all)
              refine OpsOk.cons (fun rest => ?_) ?_
              · refine SOps.move rfl ?_
                exact SOps.nil (by first | rfl | simp_all)
              refine OpsOk.cons (fun rest => ?_) ?_
              · refine SOps.extract rfl rfl ?_
                exact SOps.nil (by first | rfl | simp_all)
              refine OpsOk.cons (fun rest => ?_) ?_
              · refine SOps.extract rfl rfl ?_
                exact SOps.nil (by first | rfl | simp_all)
              refine OpsOk.cons (fun rest => ?_) ?_
              · refine SOps.assign rfl ?_
                exact SOps.nil (by first | rfl | simp_all)
              refine OpsOk.cons (fun rest => ?_) ?_
              · refine SOps.assign rfl ?_
                exact SOps.nil (by first | rfl | simp_all)
              exact OpsOk.nil
            · show SCode _ _ _ _
              refine SCode.seq ?_
              refine SCode.seqR ?_
              refine SOps.move rfl ?_
              refine SOps.bin rfl rfl rfl ?_
              refine SOps.nil ?_
              refine SCode.cond rfl (fun hc7 => ?_) (fun hc7 => ?_)
              · try simp only [decide_eq_true_eq, decide_eq_false_iff_not, Bool.not_eq_true', Bool.not_eq_false', beq_iff_eq, bne_iff_ne, ne_eq, beq_eq_false_iff_ne, bne_eq_false_iff_eq, Int.not_lt, Int.not_le, Nat.not_lt, Nat.not_le, Int.ofNat_lt, Int.ofNat_le, Bool.not_eq_eq_eq_not, Bool.not_true, Bool.not_false] at hc7
                refine SCode.seqR ?_
                refine SOps.move rfl ?_
                refine SOps.assign rfl ?_
                refine SOps.assign rfl ?_
                refine SOps.nil ?_
                refine SCode.nilIsl (t := 6) (sz := 1) rfl ?_
                refine SCode.drop ?_
                refine SCode.ret ?_
                exact ⟨_, Res.two (.tmp rfl) (.tmp rfl), (by unfold traceR traceX; rw [if_pos hok, ← ht, List.drop_eq_getElem_cons hjl, trF_cons, if_neg hc7]; rfl), rfl⟩
              · try simp only [decide_eq_true_eq, decide_eq_false_iff_not, Bool.not_eq_true', Bool.not_eq_false', beq_iff_eq, bne_iff_ne, ne_eq, beq_eq_false_iff_ne, bne_eq_false_iff_eq, Int.not_lt, Int.not_le, Nat.not_lt, Nat.not_le, Int.ofNat_lt, Int.ofNat_le, Bool.not_eq_eq_eq_not, Bool.not_true, Bool.not_false] at hc7
                refine SCode.skip ?_
                show SCode _ _ _ _
                refine SCode.region ?_
                refine SOps.move rfl ?_
                refine SOps.move rfl ?_
                refine SOps.litF rfl sliceB_39_9_1 zeroIs_9 rfl ?_
                refine SOps.appendOwn 0 sliceB_39_9_1 elemB_9_1_16 rfl rfl rfl (by simp) SrcD.isl (by simp) (by simp [lenB] <;> (first | omega | (simp only [lenB]; omega))) (by simp <;> (first | omega | (simp only [lenB]; omega))) (fun b3 hb_3 => ?_)
                refine SOps.assign rfl ?_
                refine SOps.nil ?_
                show SCode _ _ _ _
                refine SCode.region ?_
                refine SOps.addI rfl rfl (by first | omega | (simp only [lenB]; omega)) (by first | omega | (simp only [lenB]; omega)) ?_
                refine SOps.move rfl ?_
                refine SOps.nil ?_
                exact ⟨j + 1, out ++ [(applyR a (l[j]) (out[out.length - 1])).1], b3, ⟨by omega, by simp; omega, by simp; exact resX_size _ _ _ _, by rw [← ht, List.drop_eq_getElem_cons hjl, trF_cons, if_pos hc7]; simp⟩, by omega, St.Le.of ⟨rfl, (by show some _ = some _; simp), rfl, rfl, rfl, trivial⟩ rfl (by rw [List.map_append]; rfl)⟩
          · try simp only [decide_eq_true_eq, decide_eq_false_iff_not, Bool.not_eq_true', Bool.not_eq_false', beq_iff_eq, bne_iff_ne, ne_eq, beq_eq_false_iff_ne, bne_eq_false_iff_eq, Int.not_lt, Int.not_le, Nat.not_lt, Nat.not_le, Int.ofNat_lt, Int.ofNat_le, Bool.not_eq_eq_eq_not, Bool.not_true, Bool.not_false] at hc6
            refine SCode.exit ?_
            show SCode _ _ _ _
            refine SCode.seqR ?_
            refine SOps.freezeS (t := 10) 0 rfl rfl rfl (by simp) ?_
            refine SOps.move rfl ?_
            refine SOps.assign rfl ?_
            refine SOps.assign rfl ?_
            refine SOps.nil ?_
            refine SCode.drop ?_
            refine SCode.ret ?_
            exact ⟨_, Res.two (.tmp rfl) (.tmp rfl), (by unfold traceR traceX; rw [if_pos hok, ← ht, List.drop_eq_nil_of_le (by omega), trF_nil]; rfl), rfl⟩
theorem qTrace (hV : VS E) (a : List Letter) (l : List Rule) (s : ByteArray) (hr : ∀ r ∈ l, SmR r) (hs : s.size ≤ 1048576) : GCall Tryd.prog E 44 [DLs a, DRs l, .v (.string s)] [] (fun d H => d = tupT (traceQ a l s) ∧ H = []) := by
  refine GCall.body (C := ⟨Tryd.prog, E, true⟩) Tryd.func44 rfl (fun _ => rfl) (by kernel_rfl) rfl ?_
  refine SCode.seqR ?_
  refine SOps.assign rfl ?_
  refine SOps.assign rfl ?_
  refine SOps.nil ?_
  refine SCode.seq ?_
  refine SCode.seqR ?_
  refine SOps.move rfl ?_
  refine SOps.move rfl ?_
  refine SOps.move rfl ?_
  refine SOps.callP (qCheck hV _ _ _) rfl ?_
  rintro _ rfl
  refine SOps.un rfl rfl ?_
  refine SOps.nil ?_
  refine SCode.cond rfl (fun hc1 => ?_) (fun hc1 => ?_)
  · try simp only [decide_eq_true_eq, decide_eq_false_iff_not, Bool.not_eq_true', Bool.not_eq_false', beq_iff_eq, bne_iff_ne, ne_eq, beq_eq_false_iff_ne, bne_eq_false_iff_eq, Int.not_lt, Int.not_le, Nat.not_lt, Nat.not_le, Int.ofNat_lt, Int.ofNat_le, Bool.not_eq_eq_eq_not, Bool.not_true, Bool.not_false] at hc1
    refine SCode.seqR ?_
    refine SOps.assign rfl ?_
    refine SOps.assign rfl ?_
    refine SOps.nil ?_
    refine SCode.nilIsl (t := 6) (sz := 1) rfl ?_
    refine SCode.drop ?_
    refine SCode.ret ?_
    exact ⟨_, Res.two (.tmp rfl) (.tmp rfl), (by unfold traceQ traceX; rw [if_neg (by simp_all)]; rfl), rfl⟩
  · try simp only [decide_eq_true_eq, decide_eq_false_iff_not, Bool.not_eq_true', Bool.not_eq_false', beq_iff_eq, bne_iff_ne, ne_eq, beq_eq_false_iff_ne, bne_eq_false_iff_eq, Int.not_lt, Int.not_le, Nat.not_lt, Nat.not_le, Int.ofNat_lt, Int.ofNat_le, Bool.not_eq_eq_eq_not, Bool.not_true, Bool.not_false] at hc1
    refine SCode.skip ?_
    show SCode _ _ _ _
    refine SCode.seqR ?_
    refine SOps.move rfl ?_
    refine SOps.litO sliceB_39_9_1 zeroIs_9 rfl (fun b0 hb_0 => ?_)
    refine SOps.assign rfl ?_
    refine SOps.nil ?_
    refine SCode.seq ?_
    refine SCode.seqR ?_
    refine SOps.assign rfl ?_
    refine SOps.nil ?_
    refine SCode.block ?_
    have h64 : l.length ≤ 64 := by have hok := hc1; simp only [okT, Bool.and_eq_true, decide_eq_true_eq] at hok; exact hok.1.1.1
    refine SCode.loop3 (fun (j : Nat) (out : List ByteArray) (k : Nat) => (⟨46, [(0, DLs a), (1, DRs l), (8, .sl k 1 0 out.length), (9, .v (.int .i64 (j : Int)))], [(k, .row 9 1 (out.map encS))]⟩ : St)) (fun (j : Nat) (out : List ByteArray) (k : Nat) => j ≤ l.length ∧ ∃ (ho : out.length = j + 1), (out[j]'(by omega)).size ≤ 1048576 ∧ trF (applyQ a) (l.drop j) out (out[j]'(by omega)) = trF (applyQ a) l [s] s) (fun (j : Nat) (out : List ByteArray) (k : Nat) => l.length - j) (0) ([s]) (b0) (by exact ⟨Nat.zero_le _, rfl, hs, rfl⟩) (St.Le.of ⟨(by first | rfl | (show some _ = some _; simp)), (by first | rfl | (show some _ = some _; simp)), (by first | rfl | (show some _ = some _; simp)), (by first | rfl | (show some _ = some _; simp)), trivial⟩ rfl (by first | rfl | (simp))) ?_
    rintro j out k ⟨hj, ho, hz, ht⟩
    refine SCode.seq ?_
    refine SCode.seqR ?_
    refine SOps.move rfl ?_
    refine SOps.move rfl ?_
    refine SOps.lenM rfl sliceB_36_25_6 ?_
    refine SOps.bin rfl rfl rfl ?_
    refine SOps.nil ?_
    refine SCode.cond rfl (fun hc2 => ?_) (fun hc2 => ?_)
    · try simp only [decide_eq_true_eq, decide_eq_false_iff_not, Bool.not_eq_true', Bool.not_eq_false', beq_iff_eq, bne_iff_ne, ne_eq, beq_eq_false_iff_ne, bne_eq_false_iff_eq, Int.not_lt, Int.not_le, Nat.not_lt, Nat.not_le, Int.ofNat_lt, Int.ofNat_le, Bool.not_eq_eq_eq_not, Bool.not_true, Bool.not_false] at hc2
      refine SCode.skip ?_
      show SCode _ _ _ _
      refine SCode.seq ?_
      refine SCode.block ?_
      refine SCode.seq ?_
      have hjl : j < l.length := by omega
      have hjo : j < out.length := by omega
      have hr13 := hr _ (List.getElem_mem hjl)
      refine SCode.drawPure mixed_ [(26, DLs a), (27, DRs l), (28, .v (.int .i64 (j : Int))), (29, .ipin (encR (l[j]))), (30, .agg (encR (l[j]))), (31, .sl k 1 0 out.length), (32, .v (.int .i64 (j : Int))), (33, .ref k ((0 + j) * 1)), (34, .v (.string (out[j]))), (35, tupA (applyQ a (l[j]) (out[j]))), (25, tupA (applyQ a (l[j]) (out[j]))), (36, .v (.string (applyQ a (l[j]) (out[j])).1)), (37, .v (.int .i64 (applyQ a (l[j]) (out[j])).2)), (10, .v (.string (applyQ a (l[j]) (out[j])).1)), (11, .v (.int .i64 (applyQ a (l[j]) (out[j])).2))] [26, 27, 28, 29, 30, 31, 32, 33, 34, 35, 25, 36, 37, 10, 11] [[.inr 0], [.inr 1], [.inr 9], [.inl 1, .inl 2], [.inl 3], [.inr 8], [.inr 9], [.inl 5, .inl 6], [.inl 7], [.inl 0, .inl 4, .inl 8], [.inl 9], [.inl 10], [.inl 10], [.inl 11], [.inl 12]] [[(0, DLs a)], [(1, DRs l)], [(9, .v (.int .i64 (j : Int)))], [(27, DRs l), (28, .v (.int .i64 (j : Int)))], [(29, .ipin (encR (l[j])))], [(8, .sl k 1 0 out.length)], [(9, .v (.int .i64 (j : Int)))], [(31, .sl k 1 0 out.length), (32, .v (.int .i64 (j : Int)))], [(33, .ref k ((0 + j) * 1))], [(26, DLs a), (30, .agg (encR (l[j]))), (34, .v (.string (out[j])))], [(35, tupA (applyQ a (l[j]) (out[j])))], [(25, tupA (applyQ a (l[j]) (out[j])))], [(25, tupA (applyQ a (l[j]) (out[j])))], [(36, .v (.string (applyQ a (l[j]) (out[j])).1))], [(37, .v (.int .i64 (applyQ a (l[j]) (out[j])).2))]] rfl (by kernel_rfl) (by kernel_rfl) rfl ?_ ?_
      · refine OpsOk.cons (fun rest => ?_) ?_
        · refine SOps.move rfl ?_
          exact SOps.nil (by first | rfl | simp_all)
        refine OpsOk.cons (fun rest => ?_) ?_
        · refine SOps.move rfl ?_
          exact SOps.nil (by first | rfl | simp_all)
        refine OpsOk.cons (fun rest => ?_) ?_
        · refine SOps.move rfl ?_
          exact SOps.nil (by first | rfl | simp_all)
        refine OpsOk.cons (fun rest => ?_) ?_
        · refine SOps.indexM (j) rfl rfl sliceB_36_25_6 (by first | omega | (simp only [lenB]; omega)) (by first | omega | (simp only [lenB]; omega)) ?_
          exact SOps.nil (by first | rfl | simp_all)
        refine OpsOk.cons (fun rest => ?_) ?_
        · refine SOps.loadPinA rfl aggB_25_6 (Nat.le_of_ble_eq_true rfl) ?_
          exact SOps.nil (by first | rfl | simp_all)
        refine OpsOk.cons (fun rest => ?_) ?_
        · refine SOps.move rfl ?_
          exact SOps.nil (by first | rfl | simp_all)
        refine OpsOk.cons (fun rest => ?_) ?_
        · refine SOps.move rfl ?_
          exact SOps.nil (by first | rfl | simp_all)
        refine OpsOk.cons (fun rest => ?_) ?_
        · refine SOps.indexS (j) rfl rfl sliceB_39_9_1 (by first | omega | (simp only [lenB]; omega)) (by first | omega | (simp only [lenB]; omega)) ?_
          exact SOps.nil (by first | rfl | simp_all)
        refine OpsOk.cons (fun rest => ?_) ?_
        · refine SOps.loadK 0 (j) rfl flatB_9 rfl (by first | omega | (simp only [lenB]; omega)) (by first | omega | (simp; omega)) rfl ?_
          exact SOps.nil (by first | rfl | simp_all)
        refine OpsOk.cons (fun rest => ?_) ?_
        · refine SOps.callP (qApply hV _ _ _ hr13 hz) rfl ?_
          rintro _ rfl
          exact SOps.nil (by first | rfl | simp_all)
        refine OpsOk.cons (fun rest => ?_) ?_
        · refine SOps.move rfl ?_
          exact SOps.nil (by first | rfl | simp_all)
        refine OpsOk.cons (fun rest => ?_) ?_
        · refine SOps.extract rfl rfl ?_
          exact SOps.nil (by first | rfl | simp_all)
        refine OpsOk.cons (fun rest => ?_) ?_
        · refine SOps.extract rfl rfl ?_
          exact SOps.nil (by first | rfl | simp_all)
        refine OpsOk.cons (fun rest => ?_) ?_
        · refine SOps.assign rfl ?_
          exact SOps.nil (by first | rfl | simp_all)
        refine OpsOk.cons (fun rest => ?_) ?_
        · refine SOps.assign rfl ?_
          exact SOps.nil (by first | rfl | simp_all)
        exact OpsOk.nil
      · show SCode _ _ _ _
        refine SCode.seq ?_
        refine SCode.seqR ?_
        refine SOps.move rfl ?_
        refine SOps.bin rfl rfl rfl ?_
        refine SOps.nil ?_
        refine SCode.cond rfl (fun hc3 => ?_) (fun hc3 => ?_)
        · try simp only [decide_eq_true_eq, decide_eq_false_iff_not, Bool.not_eq_true', Bool.not_eq_false', beq_iff_eq, bne_iff_ne, ne_eq, beq_eq_false_iff_ne, bne_eq_false_iff_eq, Int.not_lt, Int.not_le, Nat.not_lt, Nat.not_le, Int.ofNat_lt, Int.ofNat_le, Bool.not_eq_eq_eq_not, Bool.not_true, Bool.not_false] at hc3
          refine SCode.seqR ?_
          refine SOps.move rfl ?_
          refine SOps.assign rfl ?_
          refine SOps.assign rfl ?_
          refine SOps.nil ?_
          refine SCode.nilIsl (t := 6) (sz := 1) rfl ?_
          refine SCode.drop ?_
          refine SCode.ret ?_
          exact ⟨_, Res.two (.tmp rfl) (.tmp rfl), (by unfold traceQ traceX; rw [if_pos hc1, ← ht, List.drop_eq_getElem_cons hjl, trF_cons, if_neg hc3]; rfl), rfl⟩
        · try simp only [decide_eq_true_eq, decide_eq_false_iff_not, Bool.not_eq_true', Bool.not_eq_false', beq_iff_eq, bne_iff_ne, ne_eq, beq_eq_false_iff_ne, bne_eq_false_iff_eq, Int.not_lt, Int.not_le, Nat.not_lt, Nat.not_le, Int.ofNat_lt, Int.ofNat_le, Bool.not_eq_eq_eq_not, Bool.not_true, Bool.not_false] at hc3
          refine SCode.skip ?_
          show SCode _ _ _ _
          refine SCode.region ?_
          refine SOps.move rfl ?_
          refine SOps.move rfl ?_
          refine SOps.litF rfl sliceB_39_9_1 zeroIs_9 rfl ?_
          refine SOps.appendOwn 0 sliceB_39_9_1 elemB_9_1_16 rfl rfl rfl (by simp) SrcD.isl (by simp) (by simp [lenB] <;> (first | omega | (simp only [lenB]; omega))) (by simp <;> (first | omega | (simp only [lenB]; omega))) (fun b1 hb_1 => ?_)
          refine SOps.assign rfl ?_
          refine SOps.nil ?_
          show SCode _ _ _ _
          refine SCode.region ?_
          refine SOps.move rfl ?_
          refine SOps.addI rfl rfl (by first | omega | (simp only [lenB]; omega)) (by first | omega | (simp only [lenB]; omega)) ?_
          refine SOps.assign rfl ?_
          refine SOps.nil ?_
          exact ⟨j + 1, out ++ [(applyQ a (l[j]) (out[j])).1], b1, ⟨by omega, by simp; omega, by rw [List.getElem_append_right (by omega)]; simp [ho]; exact resX_size _ _ _ _, by rw [← ht, List.drop_eq_getElem_cons hjl, trF_cons, if_pos hc3, List.getElem_append_right (by omega)]; simp [ho]⟩, by omega, St.Le.of ⟨rfl, rfl, (by show some _ = some _; simp), rfl, trivial⟩ rfl (by rw [List.map_append]; rfl)⟩
    · try simp only [decide_eq_true_eq, decide_eq_false_iff_not, Bool.not_eq_true', Bool.not_eq_false', beq_iff_eq, bne_iff_ne, ne_eq, beq_eq_false_iff_ne, bne_eq_false_iff_eq, Int.not_lt, Int.not_le, Nat.not_lt, Nat.not_le, Int.ofNat_lt, Int.ofNat_le, Bool.not_eq_eq_eq_not, Bool.not_true, Bool.not_false] at hc2
      refine SCode.exit ?_
      show SCode _ _ _ _
      refine SCode.seqR ?_
      refine SOps.freezeS (t := 8) 0 rfl rfl rfl (by simp) ?_
      refine SOps.move rfl ?_
      refine SOps.assign rfl ?_
      refine SOps.assign rfl ?_
      refine SOps.nil ?_
      refine SCode.drop ?_
      refine SCode.ret ?_
      exact ⟨_, Res.two (.tmp rfl) (.tmp rfl), (by unfold traceQ traceX; rw [if_pos hc1, ← ht, List.drop_eq_nil_of_le (by omega), trF_nil]; rfl), rfl⟩
theorem trF_len (ap : Rule → ByteArray → ByteArray × Int) : ∀ (l : List Rule) (out : List ByteArray) (last : ByteArray), out ≠ [] → (trF ap l out last).2 = 0 → (trF ap l out last).1 ≠ []
  | [], out, last, h, _ => h
  | r :: rs, out, last, h, h2 => by
    rw [trF_cons] at h2 ⊢
    by_cases h3 : (ap r last).2 = 0
    · rw [if_pos h3] at h2 ⊢
      exact trF_len ap rs _ _ (by simp) h2
    · rw [if_neg h3] at h2
      exact absurd h2 h3
theorem traceX_ne {a : List Letter} {l : List Rule} {s : ByteArray} {ap : Rule → ByteArray → ByteArray × Int} (h : (traceX a l s ap).2 = 0) : (traceX a l s ap).1 ≠ [] := by
  unfold traceX at h ⊢
  split at h
  · rename_i h1
    rw [if_pos h1]
    exact trF_len ap _ _ _ (by simp) h
  · cases h
def cascX (x : List ByteArray × Int) : ByteArray × Int := if x.2 = 0 then (x.1.getLastD ⟨#[]⟩, 0) else (⟨#[]⟩, x.2)
def cascR (a : List Letter) (l : List Rule) (s : ByteArray) : ByteArray × Int := cascX (traceR a l s)
def cascQ (a : List Letter) (l : List Rule) (s : ByteArray) : ByteArray × Int := cascX (traceQ a l s)
theorem last_at {x : List ByteArray} (h : x ≠ []) (h2 : x.length - 1 < x.length) : x[x.length - 1] = x.getLastD ⟨#[]⟩ := by
  rw [List.getLastD_eq_getLast?, List.getLast?_eq_getElem?, List.getElem?_eq_getElem h2]; rfl
theorem rCascade (hV : VS E) (a : List Letter) (l : List Rule) (s : ByteArray) (hr : ∀ r ∈ l, SmR r) (hs : s.size ≤ 1048576) : GCall Tryd.prog E 21 [DLs a, DRs l, .v (.string s)] [] (fun d H => d = tupA (cascX (traceR a l s)) ∧ H = []) := by
  refine GCall.body (C := ⟨Tryd.prog, E, true⟩) Tryd.func21 rfl (fun _ => rfl) (by kernel_rfl) rfl ?_
  refine SCode.seqR ?_
  refine SOps.assign rfl ?_
  refine SOps.assign rfl ?_
  refine SOps.nil ?_
  refine SCode.seqR ?_
  refine SOps.move rfl ?_
  refine SOps.move rfl ?_
  refine SOps.move rfl ?_
  refine SOps.callP (rTrace hV _ _ _ hr hs) rfl ?_
  rintro _ rfl
  refine SOps.move rfl ?_
  refine SOps.extract rfl rfl ?_
  refine SOps.extract rfl rfl ?_
  refine SOps.assign rfl ?_
  refine SOps.assign rfl ?_
  refine SOps.nil ?_
  refine SCode.seq ?_
  refine SCode.seqR ?_
  refine SOps.move rfl ?_
  refine SOps.bin rfl rfl rfl ?_
  refine SOps.nil ?_
  refine SCode.cond rfl (fun hc1 => ?_) (fun hc1 => ?_)
  · try simp only [decide_eq_true_eq, decide_eq_false_iff_not, Bool.not_eq_true', Bool.not_eq_false', beq_iff_eq, bne_iff_ne, ne_eq, beq_eq_false_iff_ne, bne_eq_false_iff_eq, Int.not_lt, Int.not_le, Nat.not_lt, Nat.not_le, Int.ofNat_lt, Int.ofNat_le, Bool.not_eq_eq_eq_not, Bool.not_true, Bool.not_false] at hc1
    refine SCode.seqR ?_
    refine SOps.move rfl ?_
    refine SOps.assign rfl ?_
    refine SOps.assign rfl ?_
    refine SOps.nil ?_
    refine SCode.ret ?_
    exact ⟨_, Res.two (.tmp rfl) (.tmp rfl), (by unfold cascX; rw [if_neg hc1]; rfl), rfl⟩
  · try simp only [decide_eq_true_eq, decide_eq_false_iff_not, Bool.not_eq_true', Bool.not_eq_false', beq_iff_eq, bne_iff_ne, ne_eq, beq_eq_false_iff_ne, bne_eq_false_iff_eq, Int.not_lt, Int.not_le, Nat.not_lt, Nat.not_le, Int.ofNat_lt, Int.ofNat_le, Bool.not_eq_eq_eq_not, Bool.not_true, Bool.not_false] at hc1
    refine SCode.skip ?_
    show SCode _ _ _ _
    refine SCode.seqR ?_
    have hne : (traceR a l s).1 ≠ [] := traceX_ne (show (traceR a l s).2 = 0 from hc1)
    have hnl : 0 < (traceR a l s).1.length := List.length_pos_iff.2 hne
    refine SOps.fact (isl_len (t := 8) rfl) (fun hB => ?_)
    simp only [List.length_map, lenB] at hB
    refine SOps.move rfl ?_
    refine SOps.move rfl ?_
    refine SOps.lenM rfl sliceB_39_9_1 ?_
    refine SOps.subI rfl rfl (by first | omega | (simp only [lenB]; omega)) (by first | omega | (simp only [lenB]; omega)) ?_
    refine SOps.indexM ((traceR a l s).1.length - 1) rfl rfl sliceB_39_9_1 (by first | omega | (simp only [lenB]; omega)) (by first | omega | (simp only [lenB]; omega)) ?_
    refine SOps.loadPin rfl flatB_9 ?_
    refine SOps.assign rfl ?_
    refine SOps.assign rfl ?_
    refine SOps.nil ?_
    refine SCode.ret ?_
    exact ⟨_, Res.two (.tmp rfl) (.tmp rfl), (by unfold cascX; rw [if_pos hc1, last_at hne]; rfl), rfl⟩
theorem qCascade (hV : VS E) (a : List Letter) (l : List Rule) (s : ByteArray) (hr : ∀ r ∈ l, SmR r) (hs : s.size ≤ 1048576) : GCall Tryd.prog E 22 [DLs a, DRs l, .v (.string s)] [] (fun d H => d = tupA (cascX (traceQ a l s)) ∧ H = []) := by
  refine GCall.body (C := ⟨Tryd.prog, E, true⟩) Tryd.func22 rfl (fun _ => rfl) (by kernel_rfl) rfl ?_
  refine SCode.seqR ?_
  refine SOps.assign rfl ?_
  refine SOps.assign rfl ?_
  refine SOps.nil ?_
  refine SCode.seqR ?_
  refine SOps.move rfl ?_
  refine SOps.move rfl ?_
  refine SOps.move rfl ?_
  refine SOps.callP (qTrace hV _ _ _ hr hs) rfl ?_
  rintro _ rfl
  refine SOps.move rfl ?_
  refine SOps.extract rfl rfl ?_
  refine SOps.extract rfl rfl ?_
  refine SOps.assign rfl ?_
  refine SOps.assign rfl ?_
  refine SOps.nil ?_
  refine SCode.seq ?_
  refine SCode.seqR ?_
  refine SOps.move rfl ?_
  refine SOps.bin rfl rfl rfl ?_
  refine SOps.nil ?_
  refine SCode.cond rfl (fun hc1 => ?_) (fun hc1 => ?_)
  · try simp only [decide_eq_true_eq, decide_eq_false_iff_not, Bool.not_eq_true', Bool.not_eq_false', beq_iff_eq, bne_iff_ne, ne_eq, beq_eq_false_iff_ne, bne_eq_false_iff_eq, Int.not_lt, Int.not_le, Nat.not_lt, Nat.not_le, Int.ofNat_lt, Int.ofNat_le, Bool.not_eq_eq_eq_not, Bool.not_true, Bool.not_false] at hc1
    refine SCode.seqR ?_
    refine SOps.move rfl ?_
    refine SOps.assign rfl ?_
    refine SOps.assign rfl ?_
    refine SOps.nil ?_
    refine SCode.ret ?_
    exact ⟨_, Res.two (.tmp rfl) (.tmp rfl), (by unfold cascX; rw [if_neg hc1]; rfl), rfl⟩
  · try simp only [decide_eq_true_eq, decide_eq_false_iff_not, Bool.not_eq_true', Bool.not_eq_false', beq_iff_eq, bne_iff_ne, ne_eq, beq_eq_false_iff_ne, bne_eq_false_iff_eq, Int.not_lt, Int.not_le, Nat.not_lt, Nat.not_le, Int.ofNat_lt, Int.ofNat_le, Bool.not_eq_eq_eq_not, Bool.not_true, Bool.not_false] at hc1
    refine SCode.skip ?_
    show SCode _ _ _ _
    refine SCode.seqR ?_
    have hne : (traceQ a l s).1 ≠ [] := traceX_ne (show (traceQ a l s).2 = 0 from hc1)
    have hnl : 0 < (traceQ a l s).1.length := List.length_pos_iff.2 hne
    refine SOps.fact (isl_len (t := 8) rfl) (fun hB => ?_)
    simp only [List.length_map, lenB] at hB
    refine SOps.move rfl ?_
    refine SOps.move rfl ?_
    refine SOps.lenM rfl sliceB_39_9_1 ?_
    refine SOps.subI rfl rfl (by first | omega | (simp only [lenB]; omega)) (by first | omega | (simp only [lenB]; omega)) ?_
    refine SOps.indexM ((traceQ a l s).1.length - 1) rfl rfl sliceB_39_9_1 (by first | omega | (simp only [lenB]; omega)) (by first | omega | (simp only [lenB]; omega)) ?_
    refine SOps.loadPin rfl flatB_9 ?_
    refine SOps.assign rfl ?_
    refine SOps.assign rfl ?_
    refine SOps.nil ?_
    refine SCode.ret ?_
    exact ⟨_, Res.two (.tmp rfl) (.tmp rfl), (by unfold cascX; rw [if_pos hc1, last_at hne]; rfl), rfl⟩
def smallR (a : List Letter) (r : Rule) (s : ByteArray) : Bool := decide (a.length ≤ 70) && decide (s.size ≤ 100) && decide (r.«to».size ≤ 40) && decide (r.left.length ≤ 6) && decide (r.right.length ≤ 6)
theorem smallR_iff {a : List Letter} {r : Rule} {s : ByteArray} : smallR a r s = true ↔ a.length ≤ 70 ∧ s.size ≤ 100 ∧ r.«to».size ≤ 40 ∧ r.left.length ≤ 6 ∧ r.right.length ≤ 6 := by
  simp only [smallR, Bool.and_eq_true, decide_eq_true_eq, and_assoc]
def feedsR (a : List Letter) (r t : Rule) (s : ByteArray) : Bool × Int := if validR a t then (if (applyR a r s).2 = 0 then (decide ((sitesR a t s).length < (sitesR a t (applyR a r s).1).length), 0) else (false, (applyR a r s).2)) else (false, 1)
def commX (x y : ByteArray × Int) : Bool × Int := if x.2 = 1 then (false, 1) else if x.2 = 0 ∧ y.2 = 0 then (decide (x.1 = y.1), 0) else (false, 2)
def tupB (x : Bool × Int) : DV := .tup [.v (.bool x.1), .v (.int .i64 x.2)]
theorem map_encN (l : List Nat) : l.map encN = (l.map (fun n : Nat => (n : Int))).map encI := by simp [encN, encI, Function.comp_def]
theorem qIntsN (x y : List Nat) : GCall Tryd.prog E 16 [DNats x, DNats y] [] (fun d H => d = .v (.bool (decide (x = y))) ∧ H = []) := by
  unfold DNats
  rw [map_encN, map_encN]
  refine (qInts _ _).mono (fun d H h => ⟨h.1.trans ?_, h.2⟩)
  congr 2
  rw [Bool.eq_iff_iff, decide_eq_true_eq, decide_eq_true_eq]
  exact List.map_inj_right (fun a b h => by omega)
theorem lSmall (a : List Letter) (r : Rule) (s : ByteArray)  : GCall Tryd.prog E 15 [DLs a, .agg (encR r), .v (.string s)] [] (fun d H => d = .v (.bool (smallR a r s)) ∧ H = []) := by
  refine GCall.body (C := ⟨Tryd.prog, E, true⟩) Tryd.func15 rfl (fun _ => rfl) (by kernel_rfl) rfl ?_
  refine SCode.seqR ?_
  refine SOps.boxAM rfl rfl ?_
  refine SOps.assign rfl ?_
  refine SOps.nil ?_
  refine SCode.seqR ?_
  refine SOps.move rfl ?_
  refine SOps.lenM rfl sliceB_22_50_2 ?_
  refine SOps.bin rfl rfl rfl ?_
  refine SOps.move rfl ?_
  refine SOps.caseB 10 rfl (fun hb1 => ?_) (fun hb1 => ?_)
  · try simp only [decide_eq_true_eq, decide_eq_false_iff_not, Bool.not_eq_true', Bool.not_eq_false', beq_iff_eq, bne_iff_ne, ne_eq, beq_eq_false_iff_ne, bne_eq_false_iff_eq, Int.not_lt, Int.not_le, Nat.not_lt, Nat.not_le, Int.ofNat_lt, Int.ofNat_le, Bool.not_eq_eq_eq_not, Bool.not_true, Bool.not_false] at hb1
    refine SOps.move rfl ?_
    refine SOps.lenStr rfl strB_9 ?_
    refine SOps.bin rfl rfl rfl ?_
    refine SOps.pick rfl rfl ?_
    refine SOps.move rfl ?_
    refine SOps.caseB 15 rfl (fun hb2 => ?_) (fun hb2 => ?_)
    · try simp only [decide_eq_true_eq, decide_eq_false_iff_not, Bool.not_eq_true', Bool.not_eq_false', beq_iff_eq, bne_iff_ne, ne_eq, beq_eq_false_iff_ne, bne_eq_false_iff_eq, Int.not_lt, Int.not_le, Nat.not_lt, Nat.not_le, Int.ofNat_lt, Int.ofNat_le, Bool.not_eq_eq_eq_not, Bool.not_true, Bool.not_false] at hb2
      refine SOps.fieldPin rfl fieldB_25_1_1 ?_
      refine SOps.loadPin rfl flatB_9 ?_
      refine SOps.lenStr rfl strB_9 ?_
      refine SOps.bin rfl rfl rfl ?_
      refine SOps.pick rfl rfl ?_
      refine SOps.move rfl ?_
      refine SOps.caseB 21 rfl (fun hb3 => ?_) (fun hb3 => ?_)
      · try simp only [decide_eq_true_eq, decide_eq_false_iff_not, Bool.not_eq_true', Bool.not_eq_false', beq_iff_eq, bne_iff_ne, ne_eq, beq_eq_false_iff_ne, bne_eq_false_iff_eq, Int.not_lt, Int.not_le, Nat.not_lt, Nat.not_le, Int.ofNat_lt, Int.ofNat_le, Bool.not_eq_eq_eq_not, Bool.not_true, Bool.not_false] at hb3
        refine SOps.fieldPin rfl fieldB_25_2_2 ?_
        refine SOps.loadPin rfl flatB_23 ?_
        refine SOps.lenM rfl sliceB_23_52_4 ?_
        refine SOps.bin rfl rfl rfl ?_
        refine SOps.pick rfl rfl ?_
        refine SOps.move rfl ?_
        refine SOps.caseB 27 rfl (fun hb4 => ?_) (fun hb4 => ?_)
        · try simp only [decide_eq_true_eq, decide_eq_false_iff_not, Bool.not_eq_true', Bool.not_eq_false', beq_iff_eq, bne_iff_ne, ne_eq, beq_eq_false_iff_ne, bne_eq_false_iff_eq, Int.not_lt, Int.not_le, Nat.not_lt, Nat.not_le, Int.ofNat_lt, Int.ofNat_le, Bool.not_eq_eq_eq_not, Bool.not_true, Bool.not_false] at hb4
          refine SOps.fieldPin rfl fieldB_25_3_3 ?_
          refine SOps.loadPin rfl flatB_23 ?_
          refine SOps.lenM rfl sliceB_23_52_4 ?_
          refine SOps.bin rfl rfl rfl ?_
          refine SOps.pick rfl rfl ?_
          refine SOps.assign rfl ?_
          refine SOps.nil ?_
          refine SCode.ret ?_
          exact ⟨_, Res.one (.tmp rfl), congrArg (fun b => DV.v (.bool b)) (by rw [Bool.eq_iff_iff, smallR_iff]; simp only [decide_eq_true_eq, Bool.false_eq_true]; first | omega | (simp only [false_iff]; omega)), rfl⟩
        · try simp only [decide_eq_true_eq, decide_eq_false_iff_not, Bool.not_eq_true', Bool.not_eq_false', beq_iff_eq, bne_iff_ne, ne_eq, beq_eq_false_iff_ne, bne_eq_false_iff_eq, Int.not_lt, Int.not_le, Nat.not_lt, Nat.not_le, Int.ofNat_lt, Int.ofNat_le, Bool.not_eq_eq_eq_not, Bool.not_true, Bool.not_false] at hb4
          refine SOps.skip rfl ?_
          refine SOps.skip rfl ?_
          refine SOps.skip rfl ?_
          refine SOps.skip rfl ?_
          refine SOps.pick rfl rfl ?_
          refine SOps.assign rfl ?_
          refine SOps.nil ?_
          refine SCode.ret ?_
          exact ⟨_, Res.one (.tmp rfl), congrArg (fun b => DV.v (.bool b)) (by rw [Bool.eq_iff_iff, smallR_iff]; simp only [decide_eq_true_eq, Bool.false_eq_true]; first | omega | (simp only [false_iff]; omega)), rfl⟩
      · try simp only [decide_eq_true_eq, decide_eq_false_iff_not, Bool.not_eq_true', Bool.not_eq_false', beq_iff_eq, bne_iff_ne, ne_eq, beq_eq_false_iff_ne, bne_eq_false_iff_eq, Int.not_lt, Int.not_le, Nat.not_lt, Nat.not_le, Int.ofNat_lt, Int.ofNat_le, Bool.not_eq_eq_eq_not, Bool.not_true, Bool.not_false] at hb3
        refine SOps.skip rfl ?_
        refine SOps.skip rfl ?_
        refine SOps.skip rfl ?_
        refine SOps.skip rfl ?_
        refine SOps.pick rfl rfl ?_
        refine SOps.move rfl ?_
        refine SOps.skip rfl ?_
        refine SOps.skip rfl ?_
        refine SOps.skip rfl ?_
        refine SOps.skip rfl ?_
        refine SOps.pick rfl rfl ?_
        refine SOps.assign rfl ?_
        refine SOps.nil ?_
        refine SCode.ret ?_
        exact ⟨_, Res.one (.tmp rfl), congrArg (fun b => DV.v (.bool b)) (by rw [Bool.eq_iff_iff, smallR_iff]; simp only [decide_eq_true_eq, Bool.false_eq_true]; first | omega | (simp only [false_iff]; omega)), rfl⟩
    · try simp only [decide_eq_true_eq, decide_eq_false_iff_not, Bool.not_eq_true', Bool.not_eq_false', beq_iff_eq, bne_iff_ne, ne_eq, beq_eq_false_iff_ne, bne_eq_false_iff_eq, Int.not_lt, Int.not_le, Nat.not_lt, Nat.not_le, Int.ofNat_lt, Int.ofNat_le, Bool.not_eq_eq_eq_not, Bool.not_true, Bool.not_false] at hb2
      refine SOps.skip rfl ?_
      refine SOps.skip rfl ?_
      refine SOps.skip rfl ?_
      refine SOps.skip rfl ?_
      refine SOps.pick rfl rfl ?_
      refine SOps.move rfl ?_
      refine SOps.skip rfl ?_
      refine SOps.skip rfl ?_
      refine SOps.skip rfl ?_
      refine SOps.skip rfl ?_
      refine SOps.pick rfl rfl ?_
      refine SOps.move rfl ?_
      refine SOps.skip rfl ?_
      refine SOps.skip rfl ?_
      refine SOps.skip rfl ?_
      refine SOps.skip rfl ?_
      refine SOps.pick rfl rfl ?_
      refine SOps.assign rfl ?_
      refine SOps.nil ?_
      refine SCode.ret ?_
      exact ⟨_, Res.one (.tmp rfl), congrArg (fun b => DV.v (.bool b)) (by rw [Bool.eq_iff_iff, smallR_iff]; simp only [decide_eq_true_eq, Bool.false_eq_true]; first | omega | (simp only [false_iff]; omega)), rfl⟩
  · try simp only [decide_eq_true_eq, decide_eq_false_iff_not, Bool.not_eq_true', Bool.not_eq_false', beq_iff_eq, bne_iff_ne, ne_eq, beq_eq_false_iff_ne, bne_eq_false_iff_eq, Int.not_lt, Int.not_le, Nat.not_lt, Nat.not_le, Int.ofNat_lt, Int.ofNat_le, Bool.not_eq_eq_eq_not, Bool.not_true, Bool.not_false] at hb1
    refine SOps.skip rfl ?_
    refine SOps.skip rfl ?_
    refine SOps.skip rfl ?_
    refine SOps.pick rfl rfl ?_
    refine SOps.move rfl ?_
    refine SOps.skip rfl ?_
    refine SOps.skip rfl ?_
    refine SOps.skip rfl ?_
    refine SOps.skip rfl ?_
    refine SOps.pick rfl rfl ?_
    refine SOps.move rfl ?_
    refine SOps.skip rfl ?_
    refine SOps.skip rfl ?_
    refine SOps.skip rfl ?_
    refine SOps.skip rfl ?_
    refine SOps.pick rfl rfl ?_
    refine SOps.move rfl ?_
    refine SOps.skip rfl ?_
    refine SOps.skip rfl ?_
    refine SOps.skip rfl ?_
    refine SOps.skip rfl ?_
    refine SOps.pick rfl rfl ?_
    refine SOps.assign rfl ?_
    refine SOps.nil ?_
    refine SCode.ret ?_
    exact ⟨_, Res.one (.tmp rfl), congrArg (fun b => DV.v (.bool b)) (by rw [Bool.eq_iff_iff, smallR_iff]; simp only [decide_eq_true_eq, Bool.false_eq_true]; first | omega | (simp only [false_iff]; omega)), rfl⟩
theorem rFeeds (hV : VS E) (a : List Letter) (r t : Rule) (s : ByteArray) (hr : SmR r) (ht : SmR t) (hs : s.size ≤ 1048576) : GCall Tryd.prog E 25 [DLs a, .agg (encR r), .agg (encR t), .v (.string s)] [] (fun d H => d = tupB (feedsR a r t s) ∧ H = []) := by
  refine GCall.body (C := ⟨Tryd.prog, E, true⟩) Tryd.func25 rfl (fun _ => rfl) (by kernel_rfl) rfl ?_
  refine SCode.seqR ?_
  refine SOps.boxAM rfl rfl ?_
  refine SOps.boxAM rfl rfl ?_
  refine SOps.assign rfl ?_
  refine SOps.assign rfl ?_
  refine SOps.nil ?_
  refine SCode.seq ?_
  refine SCode.seqR ?_
  refine SOps.move rfl ?_
  refine SOps.loadPinA rfl aggB_25_6 (Nat.le_of_ble_eq_true rfl) ?_
  refine SOps.callP (rValid hV _ _ ht) rfl ?_
  rintro _ rfl
  refine SOps.un rfl rfl ?_
  refine SOps.nil ?_
  refine SCode.cond rfl (fun hc1 => ?_) (fun hc1 => ?_)
  · try simp only [decide_eq_true_eq, decide_eq_false_iff_not, Bool.not_eq_true', Bool.not_eq_false', beq_iff_eq, bne_iff_ne, ne_eq, beq_eq_false_iff_ne, bne_eq_false_iff_eq, Int.not_lt, Int.not_le, Nat.not_lt, Nat.not_le, Int.ofNat_lt, Int.ofNat_le, Bool.not_eq_eq_eq_not, Bool.not_true, Bool.not_false] at hc1
    refine SCode.seqR ?_
    refine SOps.assign rfl ?_
    refine SOps.assign rfl ?_
    refine SOps.nil ?_
    refine SCode.ret ?_
    exact ⟨_, Res.two (.tmp rfl) (.tmp rfl), (by unfold feedsR; rw [if_neg (by rw [hc1]; simp)]; rfl), rfl⟩
  · try simp only [decide_eq_true_eq, decide_eq_false_iff_not, Bool.not_eq_true', Bool.not_eq_false', beq_iff_eq, bne_iff_ne, ne_eq, beq_eq_false_iff_ne, bne_eq_false_iff_eq, Int.not_lt, Int.not_le, Nat.not_lt, Nat.not_le, Int.ofNat_lt, Int.ofNat_le, Bool.not_eq_eq_eq_not, Bool.not_true, Bool.not_false] at hc1
    refine SCode.skip ?_
    show SCode _ _ _ _
    refine SCode.seqR ?_
    refine SOps.move rfl ?_
    refine SOps.loadPinA rfl aggB_25_6 (Nat.le_of_ble_eq_true rfl) ?_
    refine SOps.move rfl ?_
    refine SOps.callP (rApply hV _ _ _ hr hs) rfl ?_
    rintro _ rfl
    refine SOps.move rfl ?_
    refine SOps.extract rfl rfl ?_
    refine SOps.extract rfl rfl ?_
    refine SOps.assign rfl ?_
    refine SOps.assign rfl ?_
    refine SOps.nil ?_
    refine SCode.seq ?_
    refine SCode.seqR ?_
    refine SOps.move rfl ?_
    refine SOps.bin rfl rfl rfl ?_
    refine SOps.nil ?_
    refine SCode.cond rfl (fun hc2 => ?_) (fun hc2 => ?_)
    · try simp only [decide_eq_true_eq, decide_eq_false_iff_not, Bool.not_eq_true', Bool.not_eq_false', beq_iff_eq, bne_iff_ne, ne_eq, beq_eq_false_iff_ne, bne_eq_false_iff_eq, Int.not_lt, Int.not_le, Nat.not_lt, Nat.not_le, Int.ofNat_lt, Int.ofNat_le, Bool.not_eq_eq_eq_not, Bool.not_true, Bool.not_false] at hc2
      refine SCode.seqR ?_
      refine SOps.move rfl ?_
      refine SOps.assign rfl ?_
      refine SOps.assign rfl ?_
      refine SOps.nil ?_
      refine SCode.ret ?_
      exact ⟨_, Res.two (.tmp rfl) (.tmp rfl), (by unfold feedsR; rw [if_pos hc1, if_neg hc2]; rfl), rfl⟩
    · try simp only [decide_eq_true_eq, decide_eq_false_iff_not, Bool.not_eq_true', Bool.not_eq_false', beq_iff_eq, bne_iff_ne, ne_eq, beq_eq_false_iff_ne, bne_eq_false_iff_eq, Int.not_lt, Int.not_le, Nat.not_lt, Nat.not_le, Int.ofNat_lt, Int.ofNat_le, Bool.not_eq_eq_eq_not, Bool.not_true, Bool.not_false] at hc2
      refine SCode.skip ?_
      show SCode _ _ _ _
      refine SCode.seq ?_
      have hz := resX_size a r s (sitesR a r s)
      refine SCode.drawPure mixed_ [(26, DLs a), (27, .agg (encR t)), (28, .v (.string (applyR a r s).1)), (29, DNats (sitesR a t (applyR a r s).1)), (30, .v (.int .i64 (((sitesR a t (applyR a r s).1).length : Nat) : Int))), (31, DLs a), (32, .agg (encR t)), (33, .v (.string s)), (34, DNats (sitesR a t s)), (35, .v (.int .i64 (((sitesR a t s).length : Nat) : Int))), (36, .v (.bool (decide ((((sitesR a t s).length : Nat) : Int) < (((sitesR a t (applyR a r s).1).length : Nat) : Int))))), (8, .v (.bool (decide ((((sitesR a t s).length : Nat) : Int) < (((sitesR a t (applyR a r s).1).length : Nat) : Int))))), (9, .v (.int .i64 0))] [26, 27, 28, 29, 30, 31, 32, 33, 34, 35, 36, 8, 9] [[.inr 0], [.inr 6], [.inr 10], [.inl 0, .inl 1, .inl 2], [.inl 3], [.inr 0], [.inr 6], [.inr 3], [.inl 5, .inl 6, .inl 7], [.inl 8], [.inl 4, .inl 9], [.inl 10], []] [[(0, DLs a)], [(6, .ipin (encR t))], [(10, .v (.string (applyR a r s).1))], [(26, DLs a), (27, .agg (encR t)), (28, .v (.string (applyR a r s).1))], [(29, DNats (sitesR a t (applyR a r s).1))], [(0, DLs a)], [(6, .ipin (encR t))], [(3, .v (.string s))], [(31, DLs a), (32, .agg (encR t)), (33, .v (.string s))], [(34, DNats (sitesR a t s))], [(30, .v (.int .i64 (((sitesR a t (applyR a r s).1).length : Nat) : Int))), (35, .v (.int .i64 (((sitesR a t s).length : Nat) : Int)))], [(36, .v (.bool (decide ((((sitesR a t s).length : Nat) : Int) < (((sitesR a t (applyR a r s).1).length : Nat) : Int)))))], []] rfl (by kernel_rfl) (by kernel_rfl) rfl ?_ ?_
      · refine OpsOk.cons (fun rest => ?_) ?_
        · refine SOps.move rfl ?_
          exact SOps.nil (by first | rfl | simp_all)
        refine OpsOk.cons (fun rest => ?_) ?_
        · refine SOps.loadPinA rfl aggB_25_6 (Nat.le_of_ble_eq_true rfl) ?_
          exact SOps.nil (by first | rfl | simp_all)
        refine OpsOk.cons (fun rest => ?_) ?_
        · refine SOps.move rfl ?_
          exact SOps.nil (by first | rfl | simp_all)
        refine OpsOk.cons (fun rest => ?_) ?_
        · refine SOps.callP (rSites hV _ _ _ ht hz) rfl ?_
          rintro _ rfl
          exact SOps.nil (by first | rfl | simp_all)
        refine OpsOk.cons (fun rest => ?_) ?_
        · refine SOps.lenM rfl sliceB_30_3_1 ?_
          exact SOps.nil (by first | rfl | simp_all)
        refine OpsOk.cons (fun rest => ?_) ?_
        · refine SOps.move rfl ?_
          exact SOps.nil (by first | rfl | simp_all)
        refine OpsOk.cons (fun rest => ?_) ?_
        · refine SOps.loadPinA rfl aggB_25_6 (Nat.le_of_ble_eq_true rfl) ?_
          exact SOps.nil (by first | rfl | simp_all)
        refine OpsOk.cons (fun rest => ?_) ?_
        · refine SOps.move rfl ?_
          exact SOps.nil (by first | rfl | simp_all)
        refine OpsOk.cons (fun rest => ?_) ?_
        · refine SOps.callP (rSites hV _ _ _ ht hs) rfl ?_
          rintro _ rfl
          exact SOps.nil (by first | rfl | simp_all)
        refine OpsOk.cons (fun rest => ?_) ?_
        · refine SOps.lenM rfl sliceB_30_3_1 ?_
          exact SOps.nil (by first | rfl | simp_all)
        refine OpsOk.cons (fun rest => ?_) ?_
        · refine SOps.bin rfl rfl rfl ?_
          exact SOps.nil (by first | rfl | simp_all)
        refine OpsOk.cons (fun rest => ?_) ?_
        · refine SOps.assign rfl ?_
          exact SOps.nil (by first | rfl | simp_all)
        refine OpsOk.cons (fun rest => ?_) ?_
        · refine SOps.assign rfl ?_
          exact SOps.nil (by first | rfl | simp_all)
        exact OpsOk.nil
      · show SCode _ _ _ _
        refine SCode.ret ?_
        exact ⟨_, Res.two (.tmp rfl) (.tmp rfl), (by unfold feedsR; rw [if_pos hc1, if_pos hc2]; unfold tupB; simp only [Int.ofNat_lt]), rfl⟩
theorem rCommute (hV : VS E) (a : List Letter) (r t : Rule) (s : ByteArray) (hr : SmR r) (ht : SmR t) (hs : s.size ≤ 1048576) : GCall Tryd.prog E 28 [DLs a, .agg (encR r), .agg (encR t), .v (.string s)] [] (fun d H => d = tupB (commX (cascX (traceR a [r, t] s)) (cascX (traceR a [t, r] s))) ∧ H = []) := by
  refine GCall.body (C := ⟨Tryd.prog, E, true⟩) Tryd.func28 rfl (fun _ => rfl) (by kernel_rfl) rfl ?_
  refine SCode.seqR ?_
  refine SOps.boxAM rfl rfl ?_
  refine SOps.boxAM rfl rfl ?_
  refine SOps.assign rfl ?_
  refine SOps.assign rfl ?_
  refine SOps.nil ?_
  refine SCode.seqR ?_
  refine SOps.move rfl ?_
  refine SOps.loadPinA rfl aggB_25_6 (Nat.le_of_ble_eq_true rfl) ?_
  refine SOps.loadPinA rfl aggB_25_6 (Nat.le_of_ble_eq_true rfl) ?_
  refine SOps.litF rfl sliceB_36_25_6 zeroIs_25 rfl ?_
  refine SOps.move rfl ?_
  refine SOps.callP (rCascade hV a [r, t] s (fun q hq => by simp only [List.mem_cons, List.not_mem_nil, or_false] at hq; rcases hq with rfl | rfl <;> assumption) hs) rfl ?_
  rintro _ rfl
  refine SOps.move rfl ?_
  refine SOps.extract rfl rfl ?_
  refine SOps.extract rfl rfl ?_
  refine SOps.assign rfl ?_
  refine SOps.assign rfl ?_
  refine SOps.nil ?_
  refine SCode.seq ?_
  refine SCode.seqR ?_
  refine SOps.move rfl ?_
  refine SOps.bin rfl rfl rfl ?_
  refine SOps.nil ?_
  refine SCode.cond rfl (fun hc1 => ?_) (fun hc1 => ?_)
  · try simp only [decide_eq_true_eq, decide_eq_false_iff_not, Bool.not_eq_true', Bool.not_eq_false', beq_iff_eq, bne_iff_ne, ne_eq, beq_eq_false_iff_ne, bne_eq_false_iff_eq, Int.not_lt, Int.not_le, Nat.not_lt, Nat.not_le, Int.ofNat_lt, Int.ofNat_le, Bool.not_eq_eq_eq_not, Bool.not_true, Bool.not_false] at hc1
    refine SCode.seqR ?_
    refine SOps.move rfl ?_
    refine SOps.assign rfl ?_
    refine SOps.assign rfl ?_
    refine SOps.nil ?_
    refine SCode.ret ?_
    exact ⟨_, Res.two (.tmp rfl) (.tmp rfl), (by unfold commX tupB; first | (rw [if_pos hc1]; done) | (rw [if_pos hc1]; first | rfl | (simp only [hc1]; done)) | (rw [if_neg hc1, if_pos (by simp_all)]; done) | (rw [if_neg hc1, if_pos (by simp_all)]; rfl) | (rw [if_neg hc1, if_neg (by simp_all)]; done) | (rw [if_neg hc1, if_neg (by simp_all)]; rfl)), rfl⟩
  · try simp only [decide_eq_true_eq, decide_eq_false_iff_not, Bool.not_eq_true', Bool.not_eq_false', beq_iff_eq, bne_iff_ne, ne_eq, beq_eq_false_iff_ne, bne_eq_false_iff_eq, Int.not_lt, Int.not_le, Nat.not_lt, Nat.not_le, Int.ofNat_lt, Int.ofNat_le, Bool.not_eq_eq_eq_not, Bool.not_true, Bool.not_false] at hc1
    refine SCode.skip ?_
    show SCode _ _ _ _
    refine SCode.seqR ?_
    refine SOps.move rfl ?_
    refine SOps.loadPinA rfl aggB_25_6 (Nat.le_of_ble_eq_true rfl) ?_
    refine SOps.loadPinA rfl aggB_25_6 (Nat.le_of_ble_eq_true rfl) ?_
    refine SOps.litF rfl sliceB_36_25_6 zeroIs_25 rfl ?_
    refine SOps.move rfl ?_
    refine SOps.callP (rCascade hV a [t, r] s (fun q hq => by simp only [List.mem_cons, List.not_mem_nil, or_false] at hq; rcases hq with rfl | rfl <;> assumption) hs) rfl ?_
    rintro _ rfl
    refine SOps.move rfl ?_
    refine SOps.extract rfl rfl ?_
    refine SOps.extract rfl rfl ?_
    refine SOps.assign rfl ?_
    refine SOps.assign rfl ?_
    refine SOps.nil ?_
    refine SCode.seq ?_
    refine SCode.seqR ?_
    refine SOps.move rfl ?_
    refine SOps.bin rfl rfl rfl ?_
    refine SOps.move rfl ?_
    refine SOps.caseB 37 rfl (fun hb2 => ?_) (fun hb2 => ?_)
    · try simp only [decide_eq_true_eq, decide_eq_false_iff_not, Bool.not_eq_true', Bool.not_eq_false', beq_iff_eq, bne_iff_ne, ne_eq, beq_eq_false_iff_ne, bne_eq_false_iff_eq, Int.not_lt, Int.not_le, Nat.not_lt, Nat.not_le, Int.ofNat_lt, Int.ofNat_le, Bool.not_eq_eq_eq_not, Bool.not_true, Bool.not_false] at hb2
      refine SOps.skip rfl ?_
      refine SOps.skip rfl ?_
      refine SOps.pick rfl rfl ?_
      refine SOps.nil ?_
      refine SCode.cond rfl (fun _ => ?_) (fun h => by cases h)
      refine SCode.seqR ?_
      refine SOps.assign rfl ?_
      refine SOps.assign rfl ?_
      refine SOps.nil ?_
      refine SCode.ret ?_
      exact ⟨_, Res.two (.tmp rfl) (.tmp rfl), (by unfold commX tupB; first | (rw [if_pos hc1]; done) | (rw [if_pos hc1]; first | rfl | (simp only [hc1]; done)) | (rw [if_neg hc1, if_pos (by simp_all)]; done) | (rw [if_neg hc1, if_pos (by simp_all)]; rfl) | (rw [if_neg hc1, if_neg (by simp_all)]; done) | (rw [if_neg hc1, if_neg (by simp_all)]; rfl)), rfl⟩
    · try simp only [decide_eq_true_eq, decide_eq_false_iff_not, Bool.not_eq_true', Bool.not_eq_false', beq_iff_eq, bne_iff_ne, ne_eq, beq_eq_false_iff_ne, bne_eq_false_iff_eq, Int.not_lt, Int.not_le, Nat.not_lt, Nat.not_le, Int.ofNat_lt, Int.ofNat_le, Bool.not_eq_eq_eq_not, Bool.not_true, Bool.not_false] at hb2
      refine SOps.move rfl ?_
      refine SOps.bin rfl rfl rfl ?_
      refine SOps.pick rfl rfl ?_
      refine SOps.nil ?_
      refine SCode.cond rfl (fun hc3 => ?_) (fun hc3 => ?_)
      · try simp only [decide_eq_true_eq, decide_eq_false_iff_not, Bool.not_eq_true', Bool.not_eq_false', beq_iff_eq, bne_iff_ne, ne_eq, beq_eq_false_iff_ne, bne_eq_false_iff_eq, Int.not_lt, Int.not_le, Nat.not_lt, Nat.not_le, Int.ofNat_lt, Int.ofNat_le, Bool.not_eq_eq_eq_not, Bool.not_true, Bool.not_false] at hc3
        refine SCode.seqR ?_
        refine SOps.assign rfl ?_
        refine SOps.assign rfl ?_
        refine SOps.nil ?_
        refine SCode.ret ?_
        exact ⟨_, Res.two (.tmp rfl) (.tmp rfl), (by unfold commX tupB; first | (rw [if_pos hc1]; done) | (rw [if_pos hc1]; first | rfl | (simp only [hc1]; done)) | (rw [if_neg hc1, if_pos (by simp_all)]; done) | (rw [if_neg hc1, if_pos (by simp_all)]; rfl) | (rw [if_neg hc1, if_neg (by simp_all)]; done) | (rw [if_neg hc1, if_neg (by simp_all)]; rfl)), rfl⟩
      · try simp only [decide_eq_true_eq, decide_eq_false_iff_not, Bool.not_eq_true', Bool.not_eq_false', beq_iff_eq, bne_iff_ne, ne_eq, beq_eq_false_iff_ne, bne_eq_false_iff_eq, Int.not_lt, Int.not_le, Nat.not_lt, Nat.not_le, Int.ofNat_lt, Int.ofNat_le, Bool.not_eq_eq_eq_not, Bool.not_true, Bool.not_false] at hc3
        refine SCode.skip ?_
        show SCode _ _ _ _
        refine SCode.seqR ?_
        refine SOps.move rfl ?_
        refine SOps.move rfl ?_
        refine SOps.bin rfl rfl rfl ?_
        refine SOps.assign rfl ?_
        refine SOps.assign rfl ?_
        refine SOps.nil ?_
        refine SCode.ret ?_
        exact ⟨_, Res.two (.tmp rfl) (.tmp rfl), (by unfold commX tupB; first | (rw [if_pos hc1]; done) | (rw [if_pos hc1]; first | rfl | (simp only [hc1]; done)) | (rw [if_neg hc1, if_pos (by simp_all)]; done) | (rw [if_neg hc1, if_pos (by simp_all)]; rfl) | (rw [if_neg hc1, if_neg (by simp_all)]; done) | (rw [if_neg hc1, if_neg (by simp_all)]; rfl)), rfl⟩
def aw7A : List Letter := [⟨97, 9⟩, ⟨101, 5⟩, ⟨116, 2⟩]
def aw7R : Rule := ⟨97, ⟨#[101]⟩, [⟨4, ⟨#[]⟩, false, false⟩, ⟨2, ⟨#[]⟩, false, true⟩], [], false, false⟩
def aw7S : ByteArray := ⟨#[101, 116, 97, 116, 97]⟩
def aw7T : ByteArray := ⟨#[101, 116, 101, 116, 97]⟩
def aw7U : ByteArray := ⟨#[101, 116, 101, 116, 101]⟩
theorem aw7_sm : SmR aw7R := ⟨by decide, fun x hx => by simp only [aw7R, List.mem_cons, List.not_mem_nil, or_false] at hx; rcases hx with rfl | rfl <;> decide, fun x hx => by cases hx⟩
theorem aw7_apply : applyR aw7A aw7R aw7S = (aw7T, 0) := by kernel_rfl
theorem aw7_casc : cascX (traceR aw7A [aw7R, aw7R] aw7S) = (aw7U, 0) := by kernel_rfl
theorem aw7_trace : traceR aw7A [aw7R] aw7S = ([aw7S, aw7T], 0) := by kernel_rfl
theorem aw7_feeds : feedsR aw7A aw7R aw7R aw7S = (false, 0) := by kernel_rfl
theorem aw7_valid : validR aw7A aw7R = true := by kernel_rfl
theorem aw7_sites : sitesR aw7A aw7R aw7S = [2] := by kernel_rfl
theorem a7Apply (hV : VS E) : GCall Tryd.prog E 19 [DLs aw7A, .agg (encR aw7R), .v (.string aw7S)] [] (fun d H => d = .tup [.v (.string aw7T), .v (.int .i64 0)] ∧ H = []) := GCall.mono (rApply hV aw7A aw7R aw7S aw7_sm (by decide)) (fun d H h => ⟨h.1.trans (by rw [aw7_apply]; rfl), h.2⟩)
theorem a7Casc (hV : VS E) : GCall Tryd.prog E 21 [DLs aw7A, DRs [aw7R, aw7R], .v (.string aw7S)] [] (fun d H => d = .tup [.v (.string aw7U), .v (.int .i64 0)] ∧ H = []) := GCall.mono (rCascade hV aw7A [aw7R, aw7R] aw7S (fun q hq => by simp only [List.mem_cons, List.not_mem_nil, or_false] at hq; rcases hq with rfl | rfl <;> exact aw7_sm) (by decide)) (fun d H h => ⟨h.1.trans (by rw [aw7_casc]; rfl), h.2⟩)
theorem a7Trace (hV : VS E) : GCall Tryd.prog E 23 [DLs aw7A, DRs [aw7R], .v (.string aw7S)] [] (fun d H => d = .tup [DStrs [aw7S, aw7T], .v (.int .i64 0)] ∧ H = []) := GCall.mono (rTrace hV aw7A [aw7R] aw7S (fun q hq => by simp only [List.mem_cons, List.not_mem_nil, or_false] at hq; subst hq; exact aw7_sm) (by decide)) (fun d H h => ⟨h.1.trans (by rw [aw7_trace]; rfl), h.2⟩)
theorem a7Feeds (hV : VS E) : GCall Tryd.prog E 25 [DLs aw7A, .agg (encR aw7R), .agg (encR aw7R), .v (.string aw7S)] [] (fun d H => d = .tup [.v (.bool false), .v (.int .i64 0)] ∧ H = []) := GCall.mono (rFeeds hV aw7A aw7R aw7R aw7S aw7_sm aw7_sm (by decide)) (fun d H h => ⟨h.1.trans (by rw [aw7_feeds]; rfl), h.2⟩)
theorem a7Valid (hV : VS E) : GCall Tryd.prog E 13 [DLs aw7A, .agg (encR aw7R)] [] (fun d H => d = .v (.bool true) ∧ H = []) := GCall.mono (rValid hV aw7A aw7R aw7_sm) (fun d H h => ⟨h.1.trans (by rw [aw7_valid]), h.2⟩)
theorem a7Sites (hV : VS E) : GCall Tryd.prog E 17 [DLs aw7A, .agg (encR aw7R), .v (.string aw7S)] [] (fun d H => d = DNats [2] ∧ H = []) := GCall.mono (rSites hV aw7A aw7R aw7S aw7_sm (by decide)) (fun d H h => ⟨h.1.trans (by rw [aw7_sites]), h.2⟩)
theorem a7Ints : GCall Tryd.prog E 16 [DNats [2], DNats [2]] [] (fun d H => d = .v (.bool true) ∧ H = []) := GCall.mono (qIntsN [2] [2]) (fun d H h => ⟨h.1.trans (by rw [decide_eq_true rfl]), h.2⟩)
theorem a7Texts : GCall Tryd.prog E 24 [DStrs [aw7S, aw7T], DStrs [aw7S, aw7T]] [] (fun d H => d = .v (.bool true) ∧ H = []) := GCall.mono (qTexts _ _) (fun d H h => ⟨h.1.trans (by rw [decide_eq_true rfl]), h.2⟩)
theorem awake7 (hV : VS E)  : GCall Tryd.prog E 12 [] [] (fun d H => d = .v (.bool true) ∧ H = []) := by
  refine GCall.body (C := ⟨Tryd.prog, E, true⟩) Tryd.func12 rfl (fun _ => rfl) (by kernel_rfl) rfl ?_
  refine SCode.seqR ?_
  refine SOps.assign rfl ?_
  refine SOps.nil ?_
  refine SCode.seqR ?_
  refine SOps.buildM placesB_50 zeroIs_50 rfl rfl ?_
  refine SOps.buildM placesB_50 zeroIs_50 rfl rfl ?_
  refine SOps.buildM placesB_50 zeroIs_50 rfl rfl ?_
  refine SOps.litF rfl sliceB_22_50_2 zeroIs_50 rfl ?_
  refine SOps.assign rfl ?_
  refine SOps.nil ?_
  refine SCode.seqR ?_
  refine SOps.buildM placesB_52 zeroIs_52 rfl rfl ?_
  refine SOps.buildM placesB_52 zeroIs_52 rfl rfl ?_
  refine SOps.litF rfl sliceB_23_52_4 zeroIs_52 rfl ?_
  refine SOps.buildM placesB_25 zeroIs_25 rfl rfl ?_
  refine SOps.relab (t := 18) (d' := .agg (encR aw7R)) rfl (fun w F v hv => rep_aggNil (sz := 4) 3 hv rfl) ?_
  refine SOps.alloc (sz := 6) zeroIs_25 (fun b0 hb_0 => ?_)
  refine SOps.storeAM 0 rfl rfl aggB_25_6 rfl ?_
  refine SOps.freezeRef (t := 2) 0 0 rfl rfl rfl rfl rfl ?_
  refine SOps.nil ?_
  refine SCode.seqR ?_
  refine SOps.move rfl ?_
  refine SOps.loadPinA rfl aggB_25_6 (Nat.le_of_ble_eq_true rfl) ?_
  refine SOps.callP (a7Apply hV) rfl ?_
  rintro _ rfl
  refine SOps.move rfl ?_
  refine SOps.extract rfl rfl ?_
  refine SOps.extract rfl rfl ?_
  refine SOps.assign rfl ?_
  refine SOps.assign rfl ?_
  refine SOps.nil ?_
  refine SCode.seqR ?_
  refine SOps.move rfl ?_
  refine SOps.loadPinA rfl aggB_25_6 (Nat.le_of_ble_eq_true rfl) ?_
  refine SOps.loadPinA rfl aggB_25_6 (Nat.le_of_ble_eq_true rfl) ?_
  refine SOps.litF rfl sliceB_36_25_6 zeroIs_25 rfl ?_
  refine SOps.callP (a7Casc hV) rfl ?_
  rintro _ rfl
  refine SOps.move rfl ?_
  refine SOps.extract rfl rfl ?_
  refine SOps.extract rfl rfl ?_
  refine SOps.assign rfl ?_
  refine SOps.assign rfl ?_
  refine SOps.nil ?_
  refine SCode.seqR ?_
  refine SOps.move rfl ?_
  refine SOps.loadPinA rfl aggB_25_6 (Nat.le_of_ble_eq_true rfl) ?_
  refine SOps.litF rfl sliceB_36_25_6 zeroIs_25 rfl ?_
  refine SOps.callP (a7Trace hV) rfl ?_
  rintro _ rfl
  refine SOps.move rfl ?_
  refine SOps.extract rfl rfl ?_
  refine SOps.extract rfl rfl ?_
  refine SOps.assign rfl ?_
  refine SOps.assign rfl ?_
  refine SOps.nil ?_
  refine SCode.seqR ?_
  refine SOps.move rfl ?_
  refine SOps.loadPinA rfl aggB_25_6 (Nat.le_of_ble_eq_true rfl) ?_
  refine SOps.loadPinA rfl aggB_25_6 (Nat.le_of_ble_eq_true rfl) ?_
  refine SOps.callP (a7Feeds hV) rfl ?_
  rintro _ rfl
  refine SOps.move rfl ?_
  refine SOps.extract rfl rfl ?_
  refine SOps.extract rfl rfl ?_
  refine SOps.assign rfl ?_
  refine SOps.assign rfl ?_
  refine SOps.nil ?_
  refine SCode.seqR ?_
  refine SOps.move rfl ?_
  refine SOps.loadPinA rfl aggB_25_6 (Nat.le_of_ble_eq_true rfl) ?_
  refine SOps.callP (a7Valid hV) rfl ?_
  rintro _ rfl
  refine SOps.move rfl ?_
  refine SOps.move rfl ?_
  refine SOps.loadPinA rfl aggB_25_6 (Nat.le_of_ble_eq_true rfl) ?_
  refine SOps.callP (a7Sites hV) rfl ?_
  rintro _ rfl
  refine SOps.litF rfl sliceB_30_3_1 zeroIs_3 rfl ?_
  refine SOps.callP a7Ints rfl ?_
  rintro _ rfl
  refine SOps.pick rfl rfl ?_
  refine SOps.move rfl ?_
  refine SOps.move rfl ?_
  refine SOps.bin rfl rfl rfl ?_
  refine SOps.reSlot (t := 59) rfl (show _ = DV.v (.bool true) from by rfl) ?_
  refine SOps.pick rfl rfl ?_
  refine SOps.move rfl ?_
  refine SOps.move rfl ?_
  refine SOps.bin rfl rfl rfl ?_
  refine SOps.reSlot (t := 63) rfl (show _ = DV.v (.bool true) from by rfl) ?_
  refine SOps.pick rfl rfl ?_
  refine SOps.move rfl ?_
  refine SOps.move rfl ?_
  refine SOps.bin rfl rfl rfl ?_
  refine SOps.reSlot (t := 67) rfl (show _ = DV.v (.bool true) from by rfl) ?_
  refine SOps.pick rfl rfl ?_
  refine SOps.move rfl ?_
  refine SOps.move rfl ?_
  refine SOps.bin rfl rfl rfl ?_
  refine SOps.reSlot (t := 71) rfl (show _ = DV.v (.bool true) from by rfl) ?_
  refine SOps.pick rfl rfl ?_
  refine SOps.move rfl ?_
  refine SOps.move rfl ?_
  refine SOps.litF rfl sliceB_39_9_1 zeroIs_9 rfl ?_
  refine SOps.callP a7Texts rfl ?_
  rintro _ rfl
  refine SOps.pick rfl rfl ?_
  refine SOps.move rfl ?_
  refine SOps.move rfl ?_
  refine SOps.bin rfl rfl rfl ?_
  refine SOps.reSlot (t := 80) rfl (show _ = DV.v (.bool true) from by rfl) ?_
  refine SOps.pick rfl rfl ?_
  refine SOps.move rfl ?_
  refine SOps.move rfl ?_
  refine SOps.un rfl rfl ?_
  refine SOps.pick rfl rfl ?_
  refine SOps.move rfl ?_
  refine SOps.move rfl ?_
  refine SOps.bin rfl rfl rfl ?_
  refine SOps.reSlot (t := 88) rfl (show _ = DV.v (.bool true) from by rfl) ?_
  refine SOps.pick rfl rfl ?_
  refine SOps.assign rfl ?_
  refine SOps.nil ?_
  refine SCode.ret ?_
  exact ⟨_, Res.one (.tmp rfl), rfl, rfl⟩
def AW7 (E : Env) : Prop := GCall Tryd.prog E 12 [] [] (fun d H => d = .v (.bool true) ∧ H = [])
end Go.GH
namespace Go.GH
open Go Go.Lib

theorem utf8R_encs : ∀ {rs : List Int}, (∀ r ∈ rs, Utf8.valid r = true) → utf8R (encs rs) = true
  | [], _ => rfl
  | r :: rs, h => by
    have hv := h r (List.mem_cons_self ..)
    have ih := utf8R_encs (fun x hx => h x (List.mem_cons_of_mem _ hx))
    rw [utf8R_valid] at ih ⊢
    have hd := decodeL_drop (encs (r :: rs)) 0
    rw [List.drop_zero] at hd
    have hdec : Utf8.decode (encs (r :: rs)) 0 = (r.toNat, (Utf8.encode r).size) := decode_encode hv (encs rs)
    rw [hdec] at hd
    have hp := encode_pos r
    have hdata : (encs (r :: rs)).data.toList = (Utf8.encode r).data.toList ++ (encs rs).data.toList := by
      rw [encs_cons, data_app2]
    have hlen : (Utf8.encode r).data.toList.length = (Utf8.encode r).size := by simp
    have hne : (encs (r :: rs)).data.toList ≠ [] := by
      intro h0
      rw [hdata] at h0
      have := congrArg List.length h0
      simp only [List.length_append, List.length_nil] at this
      omega
    rw [validD_step _ hne, hd]
    have hno : ¬ (r.toNat = 65533 ∧ (Utf8.encode r).size = 1) := by
      rintro ⟨h1, h2⟩
      have hr : r = 65533 := by
        simp only [Utf8.valid, Bool.or_eq_true, Bool.and_eq_true, decide_eq_true_eq] at hv
        omega
      subst hr
      have h3 : (Utf8.encode 65533).size = 3 := by decide
      omega
    rw [if_neg hno, hdata, List.drop_left' hlen]
    exact ih

section
variable {β γ : Type}
theorem starM_congr {g g' : List β → Bool} {h h' : β → Bool} : ∀ (w : List β), (∀ v, v <:+ w → g v = g' v) → (∀ c ∈ w, h c = h' c) → starM g h w = starM g' h' w
  | [], hg, _ => hg [] (List.suffix_refl _)
  | c :: w, hg, hh => by
    simp only [starM]
    rw [hg _ (List.suffix_refl _), hh c (List.mem_cons_self ..), starM_congr w (fun v hv => hg v (hv.trans (List.suffix_cons c w))) (fun x hx => hh x (List.mem_cons_of_mem _ hx))]
theorem M_congr {f g : Item → β → Bool} : ∀ (p : List Item) (w : List β), (∀ c ∈ w, ∀ x, f x c = g x c) → M f p w = M g p w
  | [], _, _ => rfl
  | x :: p, w, h => by
    simp only [M]
    split
    · exact starM_congr w (fun v hv => M_congr p v (fun c hc => h c (hv.subset hc))) (fun c hc => h c hc x)
    · cases w with
      | nil => rfl
      | cons c w => simp only; rw [h c (List.mem_cons_self ..), M_congr p w (fun d hd => h d (List.mem_cons_of_mem _ hd))]
theorem starM_map {g : List γ → Bool} {h : γ → Bool} (k : β → γ) : ∀ (w : List β), starM g h (w.map k) = starM (fun v => g (v.map k)) (fun c => h (k c)) w
  | [] => rfl
  | c :: w => by simp only [List.map_cons, starM, starM_map k w]
theorem M_map (f : Item → γ → Bool) (k : β → γ) : ∀ (p : List Item) (w : List β), M f p (w.map k) = M (fun x c => f x (k c)) p w
  | [], w => by cases w <;> rfl
  | x :: p, w => by
    simp only [M]
    split
    · rw [starM_map]
      congr 1
      funext v
      exact M_map f k p v
    · cases w with
      | nil => rfl
      | cons c w => simp only [List.map_cons]; rw [M_map f k p w]
end

/-- Words of letters, from their runes. -/
structure Lw (a : List Letter) (w : List Int) : Prop where
  some : ∀ c ∈ w, (idx a c).isSome = true
  valid : ∀ c ∈ w, Utf8.valid c = true
theorem Lw.over {a : List Letter} {w : List Int} (h : Lw a w) : overA a (encs w) = true := by
  rw [overA_eq, utf8R_encs h.valid, allL, runes_encs h.valid, Bool.true_and]
  exact List.all_eq_true.2 h.some
theorem Lw.idxs {a : List Letter} {w : List Int} (h : Lw a w) : idxs a (encs w) = w.map (fun c => (idx a c).getD 0) := by
  unfold Go.GH.idxs
  rw [runes_encs h.valid]
theorem Lw.M {a : List Letter} {w : List Int} (h : Lw a w) (p : List Item) : M (admF a) p (w.map (fun c => (idx a c).getD 0)) = Mr a p w := by
  rw [M_map]
  refine M_congr p w (fun c hc x => ?_)
  obtain ⟨k, hk⟩ := Option.isSome_iff_exists.1 (h.some c hc)
  simp only [rAdm, hk, Option.getD_some, admF]
theorem Lw.sub {a : List Letter} {w v : List Int} (h : Lw a w) (hv : ∀ c ∈ v, c ∈ w) : Lw a v := ⟨fun c hc => h.some c (hv c hc), fun c hc => h.valid c (hv c hc)⟩
theorem Lw.take {a : List Letter} {w : List Int} (h : Lw a w) (n : Nat) : Lw a (w.take n) := h.sub (fun c hc => List.mem_of_mem_take hc)
theorem Lw.drop {a : List Letter} {w : List Int} (h : Lw a w) (n : Nat) : Lw a (w.drop n) := h.sub (fun c hc => List.mem_of_mem_drop hc)
theorem okR_lw {a : List Letter} {s : ByteArray} (h : consS a 40 s = true) : Lw a (runes s) := by
  rw [consS_eq, Bool.and_eq_true] at h
  exact ⟨fun c hc => List.all_eq_true.1 h.2 c hc, fun c hc => runes_valid hc⟩
theorem any_filter {p : Nat → Bool} {l : List Nat} : decide (0 < (l.filter p).length) = l.any p := by
  rw [Bool.eq_iff_iff, decide_eq_true_eq, List.length_pos_iff_exists_mem, List.any_eq_true]
  constructor
  · rintro ⟨x, hx⟩; exact ⟨x, (List.mem_filter.1 hx).1, (List.mem_filter.1 hx).2⟩
  · rintro ⟨x, h1, h2⟩; exact ⟨x, List.mem_filter.2 ⟨h1, h2⟩⟩
theorem any_rev {p : Nat → Bool} {n : Nat} : (List.range (n + 1)).any (fun i => p (n - i)) = (List.range (n + 1)).any p := by
  rw [Bool.eq_iff_iff, List.any_eq_true, List.any_eq_true]
  constructor
  · rintro ⟨i, h1, h2⟩; exact ⟨n - i, List.mem_range.2 (by omega), h2⟩
  · rintro ⟨i, h1, h2⟩
    have := List.mem_range.1 h1
    exact ⟨n - i, List.mem_range.2 (by omega), by rw [show n - (n - i) = i by omega]; exact h2⟩
theorem Lw.matches {a : List Letter} {w : List Int} (h : Lw a w) {p : List Item} (hp : validPat a p = true) : matchesP a p (encs w) = Mr a p w := by
  rw [matchesP, hp, h.over, h.idxs, h.M]; rfl
theorem Lw.prefixes {a : List Letter} {w : List Int} (h : Lw a w) {p : List Item} (hp : validPat a p = true) : decide (0 < (prefixesP a p (encs w)).length) = (List.range (w.length + 1)).any (fun i => Mr a p (w.take i)) := by
  rw [prefixesP, hp, h.over, h.idxs, Bool.true_and, if_pos rfl, lens_eq, any_filter, List.length_map]
  congr 1
  funext n
  rw [← List.map_take, (h.take n).M]
theorem Lw.suffixes {a : List Letter} {w : List Int} (h : Lw a w) {p : List Item} (hp : validPat a p = true) : decide (0 < (suffixesP a p (encs w)).length) = (List.range (w.length + 1)).any (fun i => Mr a p (w.drop i)) := by
  rw [suffixesP, hp, h.over, h.idxs, Bool.true_and, if_pos rfl, lens_eq, any_filter, List.length_reverse, List.length_map, ← any_rev]
  congr 1
  funext n
  rw [List.take_reverse, M_reverse, List.length_map, ← List.map_drop, (h.drop _).M]
  by_cases hn : n ≤ w.length
  · rw [show w.length - (w.length - n) = n by omega]
  · rw [List.drop_eq_nil_of_le (show w.length ≤ w.length - (w.length - n) by omega), List.drop_eq_nil_of_le (show w.length ≤ n by omega)]
theorem follows_eq {a : List Letter} {r : Rule} {w : List Int} (h : Lw a w) (hp : validPat a r.left = true) : followsR a r (encs w) = leftR a r w := by
  unfold followsR leftR
  rw [h.matches hp, h.suffixes hp]
theorem precedes_eq {a : List Letter} {r : Rule} {w : List Int} (h : Lw a w) (hp : validPat a r.right = true) : precedesR a r (encs w) = rightR a r w := by
  unfold precedesR rightR
  rw [h.matches hp, h.prefixes hp]
theorem sites_eq (a : List Letter) (r : Rule) (s : ByteArray) : sitesR a r s = sitesQ a r s := by
  unfold sitesR sitesQ
  by_cases hok : okR a r s = true
  · rw [if_pos hok, if_pos hok]
    have h1 : validR a r = true ∧ consS a 40 s = true := by simpa [okR] using hok
    have hl := okR_lw h1.2
    have h2 := h1.1
    simp only [validR, Bool.and_eq_true] at h2
    unfold sitesF
    congr 1
    funext i
    unfold siteB siteQ
    rw [follows_eq (hl.take i) h2.1.2, precedes_eq (hl.drop _) h2.2]
  · rw [if_neg hok, if_neg hok]
theorem apply_eq (a : List Letter) (r : Rule) (s : ByteArray) : applyR a r s = applyQ a r s := by
  unfold applyR applyQ
  rw [sites_eq]
end Go.GH
namespace Go.GH
open Go Go.Proofs
variable {E : Env}
theorem applyQ_eq (a : List Letter) : applyQ a = applyR a := by funext r s; exact (apply_eq a r s).symm
theorem traceQ_eq (a : List Letter) (l : List Rule) (s : ByteArray) : traceQ a l s = traceR a l s := by unfold traceQ traceR; rw [applyQ_eq]
theorem qSites' (hV : VS E) (a : List Letter) (r : Rule) (s : ByteArray) (hs : s.size ≤ 1048576) : GCall Tryd.prog E 18 [DLs a, .agg (encR r), .v (.string s)] [] (fun d H => d = DNats (sitesR a r s) ∧ H = []) := by rw [sites_eq]; exact qSites hV a r s hs
theorem qApply' (hV : VS E) (a : List Letter) (r : Rule) (s : ByteArray) (hr : SmR r) (hs : s.size ≤ 1048576) : GCall Tryd.prog E 20 [DLs a, .agg (encR r), .v (.string s)] [] (fun d H => d = tupA (applyR a r s) ∧ H = []) := by rw [apply_eq]; exact qApply hV a r s hr hs
theorem qCascade' (hV : VS E) (a : List Letter) (l : List Rule) (s : ByteArray) (hr : ∀ r ∈ l, SmR r) (hs : s.size ≤ 1048576) : GCall Tryd.prog E 22 [DLs a, DRs l, .v (.string s)] [] (fun d H => d = tupA (cascX (traceR a l s)) ∧ H = []) := by rw [← traceQ_eq]; exact qCascade hV a l s hr hs
theorem qTrace' (hV : VS E) (a : List Letter) (l : List Rule) (s : ByteArray) (hr : ∀ r ∈ l, SmR r) (hs : s.size ≤ 1048576) : GCall Tryd.prog E 44 [DLs a, DRs l, .v (.string s)] [] (fun d H => d = tupT (traceR a l s) ∧ H = []) := by rw [← traceQ_eq]; exact qTrace hV a l s hr hs
theorem feeds_bad {a : List Letter} {r t : Rule} {s : ByteArray} (h : ¬ (validR a r = true ∧ validR a t = true ∧ consS a 40 s = true)) : feedsR a r t s = (false, 1) := by
  unfold feedsR
  by_cases ht : validR a t = true
  · have hok : ¬ okR a r s = true := fun hok => by
      simp only [okR, Bool.and_eq_true] at hok
      exact h ⟨hok.1, ht, hok.2⟩
    have hx : applyR a r s = (⟨#[]⟩, 1) := by unfold applyR resX; rw [if_neg hok]
    rw [if_pos ht, hx, if_neg (by decide)]
  · rw [if_neg ht]
theorem l7Valid (hV : VS E) (hA : AW7 E) (a : List Letter) (r : Rule) (hr : SmR r) : GCall Tryd.prog E 3 [DLs a, .agg (encR r)] [] (fun d H => d = .v (.bool true) ∧ H = []) := by
  refine GCall.body (C := ⟨Tryd.prog, E, true⟩) Tryd.func3 rfl (fun _ => rfl) (by kernel_rfl) rfl ?_
  refine SCode.seqR ?_
  refine SOps.boxAM rfl rfl ?_
  refine SOps.assign rfl ?_
  refine SOps.nil ?_
  refine SCode.seq ?_
  refine SCode.seqR ?_
  refine SOps.move rfl ?_
  refine SOps.lenM rfl sliceB_22_50_2 ?_
  refine SOps.bin rfl rfl rfl ?_
  refine SOps.move rfl ?_
  refine SOps.caseB 8 rfl (fun hb1 => ?_) (fun hb1 => ?_)
  · try simp only [decide_eq_true_eq, decide_eq_false_iff_not, Bool.not_eq_true', Bool.not_eq_false', beq_iff_eq, bne_iff_ne, ne_eq, beq_eq_false_iff_ne, bne_eq_false_iff_eq, Int.not_lt, Int.not_le, Nat.not_lt, Nat.not_le, Int.ofNat_lt, Int.ofNat_le, Bool.not_eq_eq_eq_not, Bool.not_true, Bool.not_false] at hb1
    refine SOps.skip rfl ?_
    refine SOps.skip rfl ?_
    refine SOps.skip rfl ?_
    refine SOps.skip rfl ?_
    refine SOps.pick rfl rfl ?_
    refine SOps.move rfl ?_
    refine SOps.skip rfl ?_
    refine SOps.skip rfl ?_
    refine SOps.skip rfl ?_
    refine SOps.skip rfl ?_
    refine SOps.pick rfl rfl ?_
    refine SOps.move rfl ?_
    refine SOps.skip rfl ?_
    refine SOps.skip rfl ?_
    refine SOps.skip rfl ?_
    refine SOps.skip rfl ?_
    refine SOps.pick rfl rfl ?_
    refine SOps.nil ?_
    refine SCode.cond rfl (fun _ => ?_) (fun h => by cases h)
    refine SCode.seqR ?_
    refine SOps.callP hA rfl ?_
    rintro _ rfl
    refine SOps.assign rfl ?_
    refine SOps.nil ?_
    refine SCode.ret ?_
    exact ⟨_, Res.one (.tmp rfl), rfl, rfl⟩
  · try simp only [decide_eq_true_eq, decide_eq_false_iff_not, Bool.not_eq_true', Bool.not_eq_false', beq_iff_eq, bne_iff_ne, ne_eq, beq_eq_false_iff_ne, bne_eq_false_iff_eq, Int.not_lt, Int.not_le, Nat.not_lt, Nat.not_le, Int.ofNat_lt, Int.ofNat_le, Bool.not_eq_eq_eq_not, Bool.not_true, Bool.not_false] at hb1
    refine SOps.fieldPin rfl fieldB_25_1_1 ?_
    refine SOps.loadPin rfl flatB_9 ?_
    refine SOps.lenStr rfl strB_9 ?_
    refine SOps.bin rfl rfl rfl ?_
    refine SOps.pick rfl rfl ?_
    refine SOps.move rfl ?_
    refine SOps.caseB 14 rfl (fun hb2 => ?_) (fun hb2 => ?_)
    · try simp only [decide_eq_true_eq, decide_eq_false_iff_not, Bool.not_eq_true', Bool.not_eq_false', beq_iff_eq, bne_iff_ne, ne_eq, beq_eq_false_iff_ne, bne_eq_false_iff_eq, Int.not_lt, Int.not_le, Nat.not_lt, Nat.not_le, Int.ofNat_lt, Int.ofNat_le, Bool.not_eq_eq_eq_not, Bool.not_true, Bool.not_false] at hb2
      refine SOps.skip rfl ?_
      refine SOps.skip rfl ?_
      refine SOps.skip rfl ?_
      refine SOps.skip rfl ?_
      refine SOps.pick rfl rfl ?_
      refine SOps.move rfl ?_
      refine SOps.skip rfl ?_
      refine SOps.skip rfl ?_
      refine SOps.skip rfl ?_
      refine SOps.skip rfl ?_
      refine SOps.pick rfl rfl ?_
      refine SOps.nil ?_
      refine SCode.cond rfl (fun _ => ?_) (fun h => by cases h)
      refine SCode.seqR ?_
      refine SOps.callP hA rfl ?_
      rintro _ rfl
      refine SOps.assign rfl ?_
      refine SOps.nil ?_
      refine SCode.ret ?_
      exact ⟨_, Res.one (.tmp rfl), rfl, rfl⟩
    · try simp only [decide_eq_true_eq, decide_eq_false_iff_not, Bool.not_eq_true', Bool.not_eq_false', beq_iff_eq, bne_iff_ne, ne_eq, beq_eq_false_iff_ne, bne_eq_false_iff_eq, Int.not_lt, Int.not_le, Nat.not_lt, Nat.not_le, Int.ofNat_lt, Int.ofNat_le, Bool.not_eq_eq_eq_not, Bool.not_true, Bool.not_false] at hb2
      refine SOps.fieldPin rfl fieldB_25_2_2 ?_
      refine SOps.loadPin rfl flatB_23 ?_
      refine SOps.lenM rfl sliceB_23_52_4 ?_
      refine SOps.bin rfl rfl rfl ?_
      refine SOps.pick rfl rfl ?_
      refine SOps.move rfl ?_
      refine SOps.caseB 20 rfl (fun hb3 => ?_) (fun hb3 => ?_)
      · try simp only [decide_eq_true_eq, decide_eq_false_iff_not, Bool.not_eq_true', Bool.not_eq_false', beq_iff_eq, bne_iff_ne, ne_eq, beq_eq_false_iff_ne, bne_eq_false_iff_eq, Int.not_lt, Int.not_le, Nat.not_lt, Nat.not_le, Int.ofNat_lt, Int.ofNat_le, Bool.not_eq_eq_eq_not, Bool.not_true, Bool.not_false] at hb3
        refine SOps.skip rfl ?_
        refine SOps.skip rfl ?_
        refine SOps.skip rfl ?_
        refine SOps.skip rfl ?_
        refine SOps.pick rfl rfl ?_
        refine SOps.nil ?_
        refine SCode.cond rfl (fun _ => ?_) (fun h => by cases h)
        refine SCode.seqR ?_
        refine SOps.callP hA rfl ?_
        rintro _ rfl
        refine SOps.assign rfl ?_
        refine SOps.nil ?_
        refine SCode.ret ?_
        exact ⟨_, Res.one (.tmp rfl), rfl, rfl⟩
      · try simp only [decide_eq_true_eq, decide_eq_false_iff_not, Bool.not_eq_true', Bool.not_eq_false', beq_iff_eq, bne_iff_ne, ne_eq, beq_eq_false_iff_ne, bne_eq_false_iff_eq, Int.not_lt, Int.not_le, Nat.not_lt, Nat.not_le, Int.ofNat_lt, Int.ofNat_le, Bool.not_eq_eq_eq_not, Bool.not_true, Bool.not_false] at hb3
        refine SOps.fieldPin rfl fieldB_25_3_3 ?_
        refine SOps.loadPin rfl flatB_23 ?_
        refine SOps.lenM rfl sliceB_23_52_4 ?_
        refine SOps.bin rfl rfl rfl ?_
        refine SOps.pick rfl rfl ?_
        refine SOps.nil ?_
        refine SCode.cond rfl (fun hc4 => ?_) (fun hc4 => ?_)
        · try simp only [decide_eq_true_eq, decide_eq_false_iff_not, Bool.not_eq_true', Bool.not_eq_false', beq_iff_eq, bne_iff_ne, ne_eq, beq_eq_false_iff_ne, bne_eq_false_iff_eq, Int.not_lt, Int.not_le, Nat.not_lt, Nat.not_le, Int.ofNat_lt, Int.ofNat_le, Bool.not_eq_eq_eq_not, Bool.not_true, Bool.not_false] at hc4
          refine SCode.seqR ?_
          refine SOps.callP hA rfl ?_
          rintro _ rfl
          refine SOps.assign rfl ?_
          refine SOps.nil ?_
          refine SCode.ret ?_
          exact ⟨_, Res.one (.tmp rfl), rfl, rfl⟩
        · try simp only [decide_eq_true_eq, decide_eq_false_iff_not, Bool.not_eq_true', Bool.not_eq_false', beq_iff_eq, bne_iff_ne, ne_eq, beq_eq_false_iff_ne, bne_eq_false_iff_eq, Int.not_lt, Int.not_le, Nat.not_lt, Nat.not_le, Int.ofNat_lt, Int.ofNat_le, Bool.not_eq_eq_eq_not, Bool.not_true, Bool.not_false] at hc4
          refine SCode.skip ?_
          show SCode _ _ _ _
          refine SCode.seq ?_
          refine SCode.drawPure mixed_ [(27, .v (.bool true)), (28, .v (.bool true)), (29, DLs a), (30, .agg (encR r)), (31, .v (.bool (validR a r))), (32, DLs a), (33, .agg (encR r)), (34, .v (.bool (validR a r))), (35, .v (.bool (validR a r == validR a r))), (36, .v (.bool (validR a r == validR a r))), (4, .v (.bool true))] [27, 28, 29, 30, 31, 32, 33, 34, 35, 36, 4] [[], [.inl 0], [.inl 1, .inr 0], [.inl 1, .inr 3], [.inl 1, .inl 2, .inl 3], [.inl 1, .inr 0], [.inl 1, .inr 3], [.inl 1, .inl 5, .inl 6], [.inl 1, .inl 4, .inl 7], [.inl 1, .inl 8], [.inl 9]] [[], [(27, .v (.bool true))], [(28, .v (.bool true)), (0, DLs a)], [(28, .v (.bool true)), (3, .ipin (encR r))], [(28, .v (.bool true)), (29, DLs a), (30, .agg (encR r))], [(28, .v (.bool true)), (0, DLs a)], [(28, .v (.bool true)), (3, .ipin (encR r))], [(28, .v (.bool true)), (32, DLs a), (33, .agg (encR r))], [(28, .v (.bool true)), (31, .v (.bool (validR a r))), (34, .v (.bool (validR a r)))], [(28, .v (.bool true)), (35, .v (.bool (validR a r == validR a r)))], [(36, .v (.bool (validR a r == validR a r)))]] rfl (by kernel_rfl) (by kernel_rfl) rfl ?_ ?_
          · refine OpsOk.cons (fun rest => ?_) ?_
            · refine SOps.callP hA rfl ?_
              rintro _ rfl
              exact SOps.nil (by first | rfl | simp_all)
            refine OpsOk.cons (fun rest => ?_) ?_
            · refine SOps.move rfl ?_
              exact SOps.nil (by first | rfl | simp_all)
            refine OpsOk.cons (fun rest => ?_) ?_
            · refine SOps.move rfl ?_
              exact SOps.nil (by first | rfl | simp_all)
            refine OpsOk.cons (fun rest => ?_) ?_
            · refine SOps.loadPinA rfl aggB_25_6 (Nat.le_of_ble_eq_true rfl) ?_
              exact SOps.nil (by first | rfl | simp_all)
            refine OpsOk.cons (fun rest => ?_) ?_
            · refine SOps.callP (rValid hV _ _ (by assumption)) rfl ?_
              rintro _ rfl
              exact SOps.nil (by first | rfl | simp_all)
            refine OpsOk.cons (fun rest => ?_) ?_
            · refine SOps.move rfl ?_
              exact SOps.nil (by first | rfl | simp_all)
            refine OpsOk.cons (fun rest => ?_) ?_
            · refine SOps.loadPinA rfl aggB_25_6 (Nat.le_of_ble_eq_true rfl) ?_
              exact SOps.nil (by first | rfl | simp_all)
            refine OpsOk.cons (fun rest => ?_) ?_
            · refine SOps.callP (qValid hV _ _) rfl ?_
              rintro _ rfl
              exact SOps.nil (by first | rfl | simp_all)
            refine OpsOk.cons (fun rest => ?_) ?_
            · refine SOps.boolEq rfl rfl boolTy_4 ?_
              exact SOps.nil (by first | rfl | simp_all)
            refine OpsOk.cons (fun rest => ?_) ?_
            · refine SOps.pick rfl rfl ?_
              exact SOps.nil (by first | rfl | simp_all)
            refine OpsOk.cons (fun rest => ?_) ?_
            · refine SOps.assign rfl ?_
              exact SOps.nil (by rw [beq_self_eq_true]; rfl)
            exact OpsOk.nil
          · show SCode _ _ _ _
            refine SCode.ret ?_
            exact ⟨_, Res.one (.tmp rfl), rfl, rfl⟩
theorem l7Sites (hV : VS E) (hA : AW7 E) (a : List Letter) (r : Rule) (s : ByteArray) (hr : SmR r) (hs : s.size ≤ 1048576) : GCall Tryd.prog E 4 [DLs a, .agg (encR r), .v (.string s)] [] (fun d H => d = .v (.bool true) ∧ H = []) := by
  refine GCall.body (C := ⟨Tryd.prog, E, true⟩) Tryd.func4 rfl (fun _ => rfl) (by kernel_rfl) rfl ?_
  refine SCode.seqR ?_
  refine SOps.boxAM rfl rfl ?_
  refine SOps.assign rfl ?_
  refine SOps.nil ?_
  refine SCode.seq ?_
  refine SCode.seqR ?_
  refine SOps.move rfl ?_
  refine SOps.loadPinA rfl aggB_25_6 (Nat.le_of_ble_eq_true rfl) ?_
  refine SOps.move rfl ?_
  refine SOps.callP (lSmall _ _ _) rfl ?_
  rintro _ rfl
  refine SOps.un rfl rfl ?_
  refine SOps.nil ?_
  refine SCode.cond rfl (fun hc1 => ?_) (fun hc1 => ?_)
  · try simp only [decide_eq_true_eq, decide_eq_false_iff_not, Bool.not_eq_true', Bool.not_eq_false', beq_iff_eq, bne_iff_ne, ne_eq, beq_eq_false_iff_ne, bne_eq_false_iff_eq, Int.not_lt, Int.not_le, Nat.not_lt, Nat.not_le, Int.ofNat_lt, Int.ofNat_le, Bool.not_eq_eq_eq_not, Bool.not_true, Bool.not_false] at hc1
    refine SCode.seqR ?_
    refine SOps.callP hA rfl ?_
    rintro _ rfl
    refine SOps.assign rfl ?_
    refine SOps.nil ?_
    refine SCode.ret ?_
    exact ⟨_, Res.one (.tmp rfl), rfl, rfl⟩
  · try simp only [decide_eq_true_eq, decide_eq_false_iff_not, Bool.not_eq_true', Bool.not_eq_false', beq_iff_eq, bne_iff_ne, ne_eq, beq_eq_false_iff_ne, bne_eq_false_iff_eq, Int.not_lt, Int.not_le, Nat.not_lt, Nat.not_le, Int.ofNat_lt, Int.ofNat_le, Bool.not_eq_eq_eq_not, Bool.not_true, Bool.not_false] at hc1
    refine SCode.skip ?_
    show SCode _ _ _ _
    refine SCode.seq ?_
    refine SCode.drawPure mixed_ [(13, .v (.bool true)), (14, .v (.bool true)), (15, DLs a), (16, .agg (encR r)), (17, .v (.string s)), (18, DNats (sitesR a r s)), (19, DLs a), (20, .agg (encR r)), (21, .v (.string s)), (22, DNats (sitesR a r s)), (23, .v (.bool (decide (sitesR a r s = sitesR a r s)))), (24, .v (.bool (decide (sitesR a r s = sitesR a r s)))), (6, .v (.bool true))] [13, 14, 15, 16, 17, 18, 19, 20, 21, 22, 23, 24, 6] [[], [.inl 0], [.inl 1, .inr 0], [.inl 1, .inr 4], [.inl 1, .inr 2], [.inl 1, .inl 2, .inl 3, .inl 4], [.inl 1, .inr 0], [.inl 1, .inr 4], [.inl 1, .inr 2], [.inl 1, .inl 6, .inl 7, .inl 8], [.inl 1, .inl 5, .inl 9], [.inl 1, .inl 10], [.inl 11]] [[], [(13, .v (.bool true))], [(14, .v (.bool true)), (0, DLs a)], [(14, .v (.bool true)), (4, .ipin (encR r))], [(14, .v (.bool true)), (2, .v (.string s))], [(14, .v (.bool true)), (15, DLs a), (16, .agg (encR r)), (17, .v (.string s))], [(14, .v (.bool true)), (0, DLs a)], [(14, .v (.bool true)), (4, .ipin (encR r))], [(14, .v (.bool true)), (2, .v (.string s))], [(14, .v (.bool true)), (19, DLs a), (20, .agg (encR r)), (21, .v (.string s))], [(14, .v (.bool true)), (18, DNats (sitesR a r s)), (22, DNats (sitesR a r s))], [(14, .v (.bool true)), (23, .v (.bool (decide (sitesR a r s = sitesR a r s))))], [(24, .v (.bool (decide (sitesR a r s = sitesR a r s))))]] rfl (by kernel_rfl) (by kernel_rfl) rfl ?_ ?_
    · refine OpsOk.cons (fun rest => ?_) ?_
      · refine SOps.callP hA rfl ?_
        rintro _ rfl
        exact SOps.nil (by first | rfl | simp_all)
      refine OpsOk.cons (fun rest => ?_) ?_
      · refine SOps.move rfl ?_
        exact SOps.nil (by first | rfl | simp_all)
      refine OpsOk.cons (fun rest => ?_) ?_
      · refine SOps.move rfl ?_
        exact SOps.nil (by first | rfl | simp_all)
      refine OpsOk.cons (fun rest => ?_) ?_
      · refine SOps.loadPinA rfl aggB_25_6 (Nat.le_of_ble_eq_true rfl) ?_
        exact SOps.nil (by first | rfl | simp_all)
      refine OpsOk.cons (fun rest => ?_) ?_
      · refine SOps.move rfl ?_
        exact SOps.nil (by first | rfl | simp_all)
      refine OpsOk.cons (fun rest => ?_) ?_
      · refine SOps.callP (rSites hV _ _ _ (by assumption) (by assumption)) rfl ?_
        rintro _ rfl
        exact SOps.nil (by first | rfl | simp_all)
      refine OpsOk.cons (fun rest => ?_) ?_
      · refine SOps.move rfl ?_
        exact SOps.nil (by first | rfl | simp_all)
      refine OpsOk.cons (fun rest => ?_) ?_
      · refine SOps.loadPinA rfl aggB_25_6 (Nat.le_of_ble_eq_true rfl) ?_
        exact SOps.nil (by first | rfl | simp_all)
      refine OpsOk.cons (fun rest => ?_) ?_
      · refine SOps.move rfl ?_
        exact SOps.nil (by first | rfl | simp_all)
      refine OpsOk.cons (fun rest => ?_) ?_
      · refine SOps.callP (qSites' hV _ _ _ (by assumption)) rfl ?_
        rintro _ rfl
        exact SOps.nil (by first | rfl | simp_all)
      refine OpsOk.cons (fun rest => ?_) ?_
      · refine SOps.callP (qIntsN _ _) rfl ?_
        rintro _ rfl
        exact SOps.nil (by first | rfl | simp_all)
      refine OpsOk.cons (fun rest => ?_) ?_
      · refine SOps.pick rfl rfl ?_
        exact SOps.nil (by first | rfl | simp_all)
      refine OpsOk.cons (fun rest => ?_) ?_
      · refine SOps.assign rfl ?_
        exact SOps.nil (by rw [decide_eq_true rfl]; rfl)
      exact OpsOk.nil
    · show SCode _ _ _ _
      refine SCode.ret ?_
      exact ⟨_, Res.one (.tmp rfl), rfl, rfl⟩
theorem l7Apply (hV : VS E) (hA : AW7 E) (a : List Letter) (r : Rule) (s : ByteArray) (hr : SmR r) (hs : s.size ≤ 1048576) : GCall Tryd.prog E 5 [DLs a, .agg (encR r), .v (.string s)] [] (fun d H => d = .v (.bool true) ∧ H = []) := by
  refine GCall.body (C := ⟨Tryd.prog, E, true⟩) Tryd.func5 rfl (fun _ => rfl) (by kernel_rfl) rfl ?_
  refine SCode.seqR ?_
  refine SOps.boxAM rfl rfl ?_
  refine SOps.assign rfl ?_
  refine SOps.nil ?_
  refine SCode.seq ?_
  refine SCode.seqR ?_
  refine SOps.move rfl ?_
  refine SOps.loadPinA rfl aggB_25_6 (Nat.le_of_ble_eq_true rfl) ?_
  refine SOps.move rfl ?_
  refine SOps.callP (lSmall _ _ _) rfl ?_
  rintro _ rfl
  refine SOps.un rfl rfl ?_
  refine SOps.nil ?_
  refine SCode.cond rfl (fun hc1 => ?_) (fun hc1 => ?_)
  · try simp only [decide_eq_true_eq, decide_eq_false_iff_not, Bool.not_eq_true', Bool.not_eq_false', beq_iff_eq, bne_iff_ne, ne_eq, beq_eq_false_iff_ne, bne_eq_false_iff_eq, Int.not_lt, Int.not_le, Nat.not_lt, Nat.not_le, Int.ofNat_lt, Int.ofNat_le, Bool.not_eq_eq_eq_not, Bool.not_true, Bool.not_false] at hc1
    refine SCode.seqR ?_
    refine SOps.callP hA rfl ?_
    rintro _ rfl
    refine SOps.assign rfl ?_
    refine SOps.nil ?_
    refine SCode.ret ?_
    exact ⟨_, Res.one (.tmp rfl), rfl, rfl⟩
  · try simp only [decide_eq_true_eq, decide_eq_false_iff_not, Bool.not_eq_true', Bool.not_eq_false', beq_iff_eq, bne_iff_ne, ne_eq, beq_eq_false_iff_ne, bne_eq_false_iff_eq, Int.not_lt, Int.not_le, Nat.not_lt, Nat.not_le, Int.ofNat_lt, Int.ofNat_le, Bool.not_eq_eq_eq_not, Bool.not_true, Bool.not_false] at hc1
    refine SCode.skip ?_
    show SCode _ _ _ _
    refine SCode.seqR ?_
    refine SOps.move rfl ?_
    refine SOps.loadPinA rfl aggB_25_6 (Nat.le_of_ble_eq_true rfl) ?_
    refine SOps.move rfl ?_
    refine SOps.callP (rApply hV _ _ _ (by assumption) (by assumption)) rfl ?_
    rintro _ rfl
    refine SOps.move rfl ?_
    refine SOps.extract rfl rfl ?_
    refine SOps.extract rfl rfl ?_
    refine SOps.assign rfl ?_
    refine SOps.assign rfl ?_
    refine SOps.nil ?_
    refine SCode.seqR ?_
    refine SOps.move rfl ?_
    refine SOps.loadPinA rfl aggB_25_6 (Nat.le_of_ble_eq_true rfl) ?_
    refine SOps.move rfl ?_
    refine SOps.callP (qApply' hV _ _ _ (by assumption) (by assumption)) rfl ?_
    rintro _ rfl
    refine SOps.move rfl ?_
    refine SOps.extract rfl rfl ?_
    refine SOps.extract rfl rfl ?_
    refine SOps.assign rfl ?_
    refine SOps.assign rfl ?_
    refine SOps.nil ?_
    refine SCode.seqR ?_
    refine SOps.callP hA rfl ?_
    rintro _ rfl
    refine SOps.move rfl ?_
    refine SOps.move rfl ?_
    refine SOps.move rfl ?_
    refine SOps.bin rfl rfl rfl ?_
    refine SOps.reSlot (t := 35) rfl (show _ = DV.v (.bool true) from congrArg (fun b => DV.v (.bool b)) (by simp)) ?_
    refine SOps.pick rfl rfl ?_
    refine SOps.move rfl ?_
    refine SOps.move rfl ?_
    refine SOps.move rfl ?_
    refine SOps.bin rfl rfl rfl ?_
    refine SOps.reSlot (t := 40) rfl (show _ = DV.v (.bool true) from congrArg (fun b => DV.v (.bool b)) (by simp)) ?_
    refine SOps.pick rfl rfl ?_
    refine SOps.assign rfl ?_
    refine SOps.nil ?_
    refine SCode.ret ?_
    exact ⟨_, Res.one (.tmp rfl), rfl, rfl⟩
theorem l7Cascade (hV : VS E) (hA : AW7 E) (a : List Letter) (l : List Rule) (s : ByteArray) (hr : ∀ r ∈ l, SmR r) (hs : s.size ≤ 1048576) : GCall Tryd.prog E 7 [DLs a, DRs l, .v (.string s)] [] (fun d H => d = .v (.bool true) ∧ H = []) := by
  refine GCall.body (C := ⟨Tryd.prog, E, true⟩) Tryd.func7 rfl (fun _ => rfl) (by kernel_rfl) rfl ?_
  refine SCode.seqR ?_
  refine SOps.assign rfl ?_
  refine SOps.nil ?_
  refine SCode.seq ?_
  refine SCode.seqR ?_
  refine SOps.move rfl ?_
  refine SOps.lenM rfl sliceB_36_25_6 ?_
  refine SOps.bin rfl rfl rfl ?_
  refine SOps.move rfl ?_
  refine SOps.caseB 15 rfl (fun hb1 => ?_) (fun hb1 => ?_)
  · try simp only [decide_eq_true_eq, decide_eq_false_iff_not, Bool.not_eq_true', Bool.not_eq_false', beq_iff_eq, bne_iff_ne, ne_eq, beq_eq_false_iff_ne, bne_eq_false_iff_eq, Int.not_lt, Int.not_le, Nat.not_lt, Nat.not_le, Int.ofNat_lt, Int.ofNat_le, Bool.not_eq_eq_eq_not, Bool.not_true, Bool.not_false] at hb1
    refine SOps.move rfl ?_
    refine SOps.lenM rfl sliceB_36_25_6 ?_
    refine SOps.bin rfl rfl rfl ?_
    refine SOps.pick rfl rfl ?_
    refine SOps.move rfl ?_
    refine SOps.caseB 20 rfl (fun hb2 => ?_) (fun hb2 => ?_)
    · try simp only [decide_eq_true_eq, decide_eq_false_iff_not, Bool.not_eq_true', Bool.not_eq_false', beq_iff_eq, bne_iff_ne, ne_eq, beq_eq_false_iff_ne, bne_eq_false_iff_eq, Int.not_lt, Int.not_le, Nat.not_lt, Nat.not_le, Int.ofNat_lt, Int.ofNat_le, Bool.not_eq_eq_eq_not, Bool.not_true, Bool.not_false] at hb2
      refine SOps.skip rfl ?_
      refine SOps.skip rfl ?_
      refine SOps.skip rfl ?_
      refine SOps.pick rfl rfl ?_
      refine SOps.nil ?_
      refine SCode.cond rfl (fun _ => ?_) (fun h => by cases h)
      refine SCode.seqR ?_
      refine SOps.callP hA rfl ?_
      rintro _ rfl
      refine SOps.assign rfl ?_
      refine SOps.nil ?_
      refine SCode.ret ?_
      exact ⟨_, Res.one (.tmp rfl), rfl, rfl⟩
    · try simp only [decide_eq_true_eq, decide_eq_false_iff_not, Bool.not_eq_true', Bool.not_eq_false', beq_iff_eq, bne_iff_ne, ne_eq, beq_eq_false_iff_ne, bne_eq_false_iff_eq, Int.not_lt, Int.not_le, Nat.not_lt, Nat.not_le, Int.ofNat_lt, Int.ofNat_le, Bool.not_eq_eq_eq_not, Bool.not_true, Bool.not_false] at hb2
      refine SOps.move rfl ?_
      refine SOps.lenM rfl sliceB_36_25_6 ?_
      refine SOps.bin rfl rfl rfl ?_
      refine SOps.pick rfl rfl ?_
      refine SOps.nil ?_
      refine SCode.cond rfl (fun hc3 => ?_) (fun hc3 => ?_)
      · try simp only [decide_eq_true_eq, decide_eq_false_iff_not, Bool.not_eq_true', Bool.not_eq_false', beq_iff_eq, bne_iff_ne, ne_eq, beq_eq_false_iff_ne, bne_eq_false_iff_eq, Int.not_lt, Int.not_le, Nat.not_lt, Nat.not_le, Int.ofNat_lt, Int.ofNat_le, Bool.not_eq_eq_eq_not, Bool.not_true, Bool.not_false] at hc3
        refine SCode.seqR ?_
        refine SOps.callP hA rfl ?_
        rintro _ rfl
        refine SOps.assign rfl ?_
        refine SOps.nil ?_
        refine SCode.ret ?_
        exact ⟨_, Res.one (.tmp rfl), rfl, rfl⟩
      · try simp only [decide_eq_true_eq, decide_eq_false_iff_not, Bool.not_eq_true', Bool.not_eq_false', beq_iff_eq, bne_iff_ne, ne_eq, beq_eq_false_iff_ne, bne_eq_false_iff_eq, Int.not_lt, Int.not_le, Nat.not_lt, Nat.not_le, Int.ofNat_lt, Int.ofNat_le, Bool.not_eq_eq_eq_not, Bool.not_true, Bool.not_false] at hc3
        refine SCode.skip ?_
        show SCode _ _ _ _
        refine SCode.seq ?_
        refine SCode.seqR ?_
        refine SOps.assign rfl ?_
        refine SOps.nil ?_
        refine SCode.block ?_
        refine SCode.loop1 (fun (i : Nat) => (⟨75, [(0, DLs a), (1, DRs l), (2, .v (.string s)), (7, .v (.int .i64 (i : Int)))], []⟩ : St)) (fun (i : Nat) => i ≤ l.length) (fun (i : Nat) => l.length - i) (0) (by exact Nat.zero_le _) (St.Le.of ⟨(by first | rfl | (show some _ = some _; simp)), (by first | rfl | (show some _ = some _; simp)), (by first | rfl | (show some _ = some _; simp)), (by first | rfl | (show some _ = some _; simp)), trivial⟩ rfl (by first | rfl | (simp))) ?_
        rintro i hi
        refine SCode.fact (isl_len (t := 1) rfl) (fun hB => ?_)
        simp only [List.length_map, lenB] at hB
        refine SCode.seq ?_
        refine SCode.seqR ?_
        refine SOps.move rfl ?_
        refine SOps.move rfl ?_
        refine SOps.lenM rfl sliceB_36_25_6 ?_
        refine SOps.bin rfl rfl rfl ?_
        refine SOps.nil ?_
        refine SCode.cond rfl (fun hc4 => ?_) (fun hc4 => ?_)
        · try simp only [decide_eq_true_eq, decide_eq_false_iff_not, Bool.not_eq_true', Bool.not_eq_false', beq_iff_eq, bne_iff_ne, ne_eq, beq_eq_false_iff_ne, bne_eq_false_iff_eq, Int.not_lt, Int.not_le, Nat.not_lt, Nat.not_le, Int.ofNat_lt, Int.ofNat_le, Bool.not_eq_eq_eq_not, Bool.not_true, Bool.not_false] at hc4
          refine SCode.skip ?_
          show SCode _ _ _ _
          refine SCode.seq ?_
          refine SCode.block ?_
          refine SCode.seqR ?_
          refine SOps.move rfl ?_
          refine SOps.move rfl ?_
          refine SOps.move rfl ?_
          refine SOps.indexM (i) rfl rfl sliceB_36_25_6 (by first | omega | (simp only [lenB]; omega)) (by first | omega | (simp only [lenB]; omega)) ?_
          refine SOps.loadPinA rfl aggB_25_6 (Nat.le_of_ble_eq_true rfl) ?_
          refine SOps.move rfl ?_
          refine SOps.callP (lSmall _ _ _) rfl ?_
          rintro _ rfl
          refine SOps.un rfl rfl ?_
          refine SOps.nil ?_
          refine SCode.cond rfl (fun hc5 => ?_) (fun hc5 => ?_)
          · try simp only [decide_eq_true_eq, decide_eq_false_iff_not, Bool.not_eq_true', Bool.not_eq_false', beq_iff_eq, bne_iff_ne, ne_eq, beq_eq_false_iff_ne, bne_eq_false_iff_eq, Int.not_lt, Int.not_le, Nat.not_lt, Nat.not_le, Int.ofNat_lt, Int.ofNat_le, Bool.not_eq_eq_eq_not, Bool.not_true, Bool.not_false] at hc5
            refine SCode.seqR ?_
            refine SOps.callP hA rfl ?_
            rintro _ rfl
            refine SOps.assign rfl ?_
            refine SOps.nil ?_
            refine SCode.ret ?_
            exact ⟨_, Res.one (.tmp rfl), rfl, rfl⟩
          · try simp only [decide_eq_true_eq, decide_eq_false_iff_not, Bool.not_eq_true', Bool.not_eq_false', beq_iff_eq, bne_iff_ne, ne_eq, beq_eq_false_iff_ne, bne_eq_false_iff_eq, Int.not_lt, Int.not_le, Nat.not_lt, Nat.not_le, Int.ofNat_lt, Int.ofNat_le, Bool.not_eq_eq_eq_not, Bool.not_true, Bool.not_false] at hc5
            refine SCode.skip ?_
            show SCode _ _ _ _
            refine SCode.region ?_
            refine SOps.move rfl ?_
            refine SOps.addI rfl rfl (by first | omega | (simp only [lenB]; omega)) (by first | omega | (simp only [lenB]; omega)) ?_
            refine SOps.assign rfl ?_
            refine SOps.nil ?_
            exact ⟨i + 1, by omega, by omega, (St.Le.of ⟨(by first | rfl | (show some _ = some _; simp)), (by first | rfl | (show some _ = some _; simp)), (by first | rfl | (show some _ = some _; simp)), (by first | rfl | (show some _ = some _; simp)), trivial⟩ rfl (by first | rfl | (simp)))⟩
        · try simp only [decide_eq_true_eq, decide_eq_false_iff_not, Bool.not_eq_true', Bool.not_eq_false', beq_iff_eq, bne_iff_ne, ne_eq, beq_eq_false_iff_ne, bne_eq_false_iff_eq, Int.not_lt, Int.not_le, Nat.not_lt, Nat.not_le, Int.ofNat_lt, Int.ofNat_le, Bool.not_eq_eq_eq_not, Bool.not_true, Bool.not_false] at hc4
          refine SCode.exit ?_
          show SCode _ _ _ _
          refine SCode.seq ?_
          refine SCode.seqR ?_
          refine SOps.move rfl ?_
          refine SOps.lenM rfl sliceB_22_50_2 ?_
          refine SOps.bin rfl rfl rfl ?_
          refine SOps.move rfl ?_
          refine SOps.caseB 44 rfl (fun hb6 => ?_) (fun hb6 => ?_)
          · try simp only [decide_eq_true_eq, decide_eq_false_iff_not, Bool.not_eq_true', Bool.not_eq_false', beq_iff_eq, bne_iff_ne, ne_eq, beq_eq_false_iff_ne, bne_eq_false_iff_eq, Int.not_lt, Int.not_le, Nat.not_lt, Nat.not_le, Int.ofNat_lt, Int.ofNat_le, Bool.not_eq_eq_eq_not, Bool.not_true, Bool.not_false] at hb6
            refine SOps.skip rfl ?_
            refine SOps.skip rfl ?_
            refine SOps.skip rfl ?_
            refine SOps.pick rfl rfl ?_
            refine SOps.nil ?_
            refine SCode.cond rfl (fun _ => ?_) (fun h => by cases h)
            refine SCode.seqR ?_
            refine SOps.callP hA rfl ?_
            rintro _ rfl
            refine SOps.assign rfl ?_
            refine SOps.nil ?_
            refine SCode.ret ?_
            exact ⟨_, Res.one (.tmp rfl), rfl, rfl⟩
          · try simp only [decide_eq_true_eq, decide_eq_false_iff_not, Bool.not_eq_true', Bool.not_eq_false', beq_iff_eq, bne_iff_ne, ne_eq, beq_eq_false_iff_ne, bne_eq_false_iff_eq, Int.not_lt, Int.not_le, Nat.not_lt, Nat.not_le, Int.ofNat_lt, Int.ofNat_le, Bool.not_eq_eq_eq_not, Bool.not_true, Bool.not_false] at hb6
            refine SOps.move rfl ?_
            refine SOps.lenStr rfl strB_9 ?_
            refine SOps.bin rfl rfl rfl ?_
            refine SOps.pick rfl rfl ?_
            refine SOps.nil ?_
            refine SCode.cond rfl (fun hc7 => ?_) (fun hc7 => ?_)
            · try simp only [decide_eq_true_eq, decide_eq_false_iff_not, Bool.not_eq_true', Bool.not_eq_false', beq_iff_eq, bne_iff_ne, ne_eq, beq_eq_false_iff_ne, bne_eq_false_iff_eq, Int.not_lt, Int.not_le, Nat.not_lt, Nat.not_le, Int.ofNat_lt, Int.ofNat_le, Bool.not_eq_eq_eq_not, Bool.not_true, Bool.not_false] at hc7
              refine SCode.seqR ?_
              refine SOps.callP hA rfl ?_
              rintro _ rfl
              refine SOps.assign rfl ?_
              refine SOps.nil ?_
              refine SCode.ret ?_
              exact ⟨_, Res.one (.tmp rfl), rfl, rfl⟩
            · try simp only [decide_eq_true_eq, decide_eq_false_iff_not, Bool.not_eq_true', Bool.not_eq_false', beq_iff_eq, bne_iff_ne, ne_eq, beq_eq_false_iff_ne, bne_eq_false_iff_eq, Int.not_lt, Int.not_le, Nat.not_lt, Nat.not_le, Int.ofNat_lt, Int.ofNat_le, Bool.not_eq_eq_eq_not, Bool.not_true, Bool.not_false] at hc7
              refine SCode.skip ?_
              show SCode _ _ _ _
              refine SCode.seqR ?_
              refine SOps.move rfl ?_
              refine SOps.move rfl ?_
              refine SOps.move rfl ?_
              refine SOps.callP (rCascade hV _ _ _ (by assumption) (by assumption)) rfl ?_
              rintro _ rfl
              refine SOps.move rfl ?_
              refine SOps.extract rfl rfl ?_
              refine SOps.extract rfl rfl ?_
              refine SOps.assign rfl ?_
              refine SOps.assign rfl ?_
              refine SOps.nil ?_
              refine SCode.seqR ?_
              refine SOps.move rfl ?_
              refine SOps.move rfl ?_
              refine SOps.move rfl ?_
              refine SOps.callP (qCascade' hV _ _ _ (by assumption) (by assumption)) rfl ?_
              rintro _ rfl
              refine SOps.move rfl ?_
              refine SOps.extract rfl rfl ?_
              refine SOps.extract rfl rfl ?_
              refine SOps.assign rfl ?_
              refine SOps.assign rfl ?_
              refine SOps.nil ?_
              refine SCode.seqR ?_
              refine SOps.callP hA rfl ?_
              rintro _ rfl
              refine SOps.move rfl ?_
              refine SOps.move rfl ?_
              refine SOps.move rfl ?_
              refine SOps.bin rfl rfl rfl ?_
              refine SOps.reSlot (t := 68) rfl (show _ = DV.v (.bool true) from congrArg (fun b => DV.v (.bool b)) (by simp)) ?_
              refine SOps.pick rfl rfl ?_
              refine SOps.move rfl ?_
              refine SOps.move rfl ?_
              refine SOps.move rfl ?_
              refine SOps.bin rfl rfl rfl ?_
              refine SOps.reSlot (t := 73) rfl (show _ = DV.v (.bool true) from congrArg (fun b => DV.v (.bool b)) (by simp)) ?_
              refine SOps.pick rfl rfl ?_
              refine SOps.assign rfl ?_
              refine SOps.nil ?_
              refine SCode.ret ?_
              exact ⟨_, Res.one (.tmp rfl), rfl, rfl⟩
  · try simp only [decide_eq_true_eq, decide_eq_false_iff_not, Bool.not_eq_true', Bool.not_eq_false', beq_iff_eq, bne_iff_ne, ne_eq, beq_eq_false_iff_ne, bne_eq_false_iff_eq, Int.not_lt, Int.not_le, Nat.not_lt, Nat.not_le, Int.ofNat_lt, Int.ofNat_le, Bool.not_eq_eq_eq_not, Bool.not_true, Bool.not_false] at hb1
    refine SOps.skip rfl ?_
    refine SOps.skip rfl ?_
    refine SOps.skip rfl ?_
    refine SOps.pick rfl rfl ?_
    refine SOps.move rfl ?_
    refine SOps.move rfl ?_
    refine SOps.lenM rfl sliceB_36_25_6 ?_
    refine SOps.bin rfl rfl rfl ?_
    refine SOps.pick rfl rfl ?_
    refine SOps.nil ?_
    refine SCode.cond rfl (fun hc8 => ?_) (fun hc8 => ?_)
    · try simp only [decide_eq_true_eq, decide_eq_false_iff_not, Bool.not_eq_true', Bool.not_eq_false', beq_iff_eq, bne_iff_ne, ne_eq, beq_eq_false_iff_ne, bne_eq_false_iff_eq, Int.not_lt, Int.not_le, Nat.not_lt, Nat.not_le, Int.ofNat_lt, Int.ofNat_le, Bool.not_eq_eq_eq_not, Bool.not_true, Bool.not_false] at hc8
      refine SCode.seqR ?_
      refine SOps.callP hA rfl ?_
      rintro _ rfl
      refine SOps.assign rfl ?_
      refine SOps.nil ?_
      refine SCode.ret ?_
      exact ⟨_, Res.one (.tmp rfl), rfl, rfl⟩
    · try simp only [decide_eq_true_eq, decide_eq_false_iff_not, Bool.not_eq_true', Bool.not_eq_false', beq_iff_eq, bne_iff_ne, ne_eq, beq_eq_false_iff_ne, bne_eq_false_iff_eq, Int.not_lt, Int.not_le, Nat.not_lt, Nat.not_le, Int.ofNat_lt, Int.ofNat_le, Bool.not_eq_eq_eq_not, Bool.not_true, Bool.not_false] at hc8
      refine SCode.skip ?_
      show SCode _ _ _ _
      refine SCode.seq ?_
      refine SCode.seqR ?_
      refine SOps.assign rfl ?_
      refine SOps.nil ?_
      refine SCode.block ?_
      refine SCode.loop1 (fun (i : Nat) => (⟨75, [(0, DLs a), (1, DRs l), (2, .v (.string s)), (7, .v (.int .i64 (i : Int)))], []⟩ : St)) (fun (i : Nat) => i ≤ l.length) (fun (i : Nat) => l.length - i) (0) (by exact Nat.zero_le _) (St.Le.of ⟨(by first | rfl | (show some _ = some _; simp)), (by first | rfl | (show some _ = some _; simp)), (by first | rfl | (show some _ = some _; simp)), (by first | rfl | (show some _ = some _; simp)), trivial⟩ rfl (by first | rfl | (simp))) ?_
      rintro i hi
      refine SCode.fact (isl_len (t := 1) rfl) (fun hB => ?_)
      simp only [List.length_map, lenB] at hB
      refine SCode.seq ?_
      refine SCode.seqR ?_
      refine SOps.move rfl ?_
      refine SOps.move rfl ?_
      refine SOps.lenM rfl sliceB_36_25_6 ?_
      refine SOps.bin rfl rfl rfl ?_
      refine SOps.nil ?_
      refine SCode.cond rfl (fun hc9 => ?_) (fun hc9 => ?_)
      · try simp only [decide_eq_true_eq, decide_eq_false_iff_not, Bool.not_eq_true', Bool.not_eq_false', beq_iff_eq, bne_iff_ne, ne_eq, beq_eq_false_iff_ne, bne_eq_false_iff_eq, Int.not_lt, Int.not_le, Nat.not_lt, Nat.not_le, Int.ofNat_lt, Int.ofNat_le, Bool.not_eq_eq_eq_not, Bool.not_true, Bool.not_false] at hc9
        refine SCode.skip ?_
        show SCode _ _ _ _
        refine SCode.seq ?_
        refine SCode.block ?_
        refine SCode.seqR ?_
        refine SOps.move rfl ?_
        refine SOps.move rfl ?_
        refine SOps.move rfl ?_
        refine SOps.indexM (i) rfl rfl sliceB_36_25_6 (by first | omega | (simp only [lenB]; omega)) (by first | omega | (simp only [lenB]; omega)) ?_
        refine SOps.loadPinA rfl aggB_25_6 (Nat.le_of_ble_eq_true rfl) ?_
        refine SOps.move rfl ?_
        refine SOps.callP (lSmall _ _ _) rfl ?_
        rintro _ rfl
        refine SOps.un rfl rfl ?_
        refine SOps.nil ?_
        refine SCode.cond rfl (fun hc10 => ?_) (fun hc10 => ?_)
        · try simp only [decide_eq_true_eq, decide_eq_false_iff_not, Bool.not_eq_true', Bool.not_eq_false', beq_iff_eq, bne_iff_ne, ne_eq, beq_eq_false_iff_ne, bne_eq_false_iff_eq, Int.not_lt, Int.not_le, Nat.not_lt, Nat.not_le, Int.ofNat_lt, Int.ofNat_le, Bool.not_eq_eq_eq_not, Bool.not_true, Bool.not_false] at hc10
          refine SCode.seqR ?_
          refine SOps.callP hA rfl ?_
          rintro _ rfl
          refine SOps.assign rfl ?_
          refine SOps.nil ?_
          refine SCode.ret ?_
          exact ⟨_, Res.one (.tmp rfl), rfl, rfl⟩
        · try simp only [decide_eq_true_eq, decide_eq_false_iff_not, Bool.not_eq_true', Bool.not_eq_false', beq_iff_eq, bne_iff_ne, ne_eq, beq_eq_false_iff_ne, bne_eq_false_iff_eq, Int.not_lt, Int.not_le, Nat.not_lt, Nat.not_le, Int.ofNat_lt, Int.ofNat_le, Bool.not_eq_eq_eq_not, Bool.not_true, Bool.not_false] at hc10
          refine SCode.skip ?_
          show SCode _ _ _ _
          refine SCode.region ?_
          refine SOps.move rfl ?_
          refine SOps.addI rfl rfl (by first | omega | (simp only [lenB]; omega)) (by first | omega | (simp only [lenB]; omega)) ?_
          refine SOps.assign rfl ?_
          refine SOps.nil ?_
          exact ⟨i + 1, by omega, by omega, (St.Le.of ⟨(by first | rfl | (show some _ = some _; simp)), (by first | rfl | (show some _ = some _; simp)), (by first | rfl | (show some _ = some _; simp)), (by first | rfl | (show some _ = some _; simp)), trivial⟩ rfl (by first | rfl | (simp)))⟩
      · try simp only [decide_eq_true_eq, decide_eq_false_iff_not, Bool.not_eq_true', Bool.not_eq_false', beq_iff_eq, bne_iff_ne, ne_eq, beq_eq_false_iff_ne, bne_eq_false_iff_eq, Int.not_lt, Int.not_le, Nat.not_lt, Nat.not_le, Int.ofNat_lt, Int.ofNat_le, Bool.not_eq_eq_eq_not, Bool.not_true, Bool.not_false] at hc9
        refine SCode.exit ?_
        show SCode _ _ _ _
        refine SCode.seq ?_
        refine SCode.seqR ?_
        refine SOps.move rfl ?_
        refine SOps.lenM rfl sliceB_22_50_2 ?_
        refine SOps.bin rfl rfl rfl ?_
        refine SOps.move rfl ?_
        refine SOps.caseB 44 rfl (fun hb11 => ?_) (fun hb11 => ?_)
        · try simp only [decide_eq_true_eq, decide_eq_false_iff_not, Bool.not_eq_true', Bool.not_eq_false', beq_iff_eq, bne_iff_ne, ne_eq, beq_eq_false_iff_ne, bne_eq_false_iff_eq, Int.not_lt, Int.not_le, Nat.not_lt, Nat.not_le, Int.ofNat_lt, Int.ofNat_le, Bool.not_eq_eq_eq_not, Bool.not_true, Bool.not_false] at hb11
          refine SOps.skip rfl ?_
          refine SOps.skip rfl ?_
          refine SOps.skip rfl ?_
          refine SOps.pick rfl rfl ?_
          refine SOps.nil ?_
          refine SCode.cond rfl (fun _ => ?_) (fun h => by cases h)
          refine SCode.seqR ?_
          refine SOps.callP hA rfl ?_
          rintro _ rfl
          refine SOps.assign rfl ?_
          refine SOps.nil ?_
          refine SCode.ret ?_
          exact ⟨_, Res.one (.tmp rfl), rfl, rfl⟩
        · try simp only [decide_eq_true_eq, decide_eq_false_iff_not, Bool.not_eq_true', Bool.not_eq_false', beq_iff_eq, bne_iff_ne, ne_eq, beq_eq_false_iff_ne, bne_eq_false_iff_eq, Int.not_lt, Int.not_le, Nat.not_lt, Nat.not_le, Int.ofNat_lt, Int.ofNat_le, Bool.not_eq_eq_eq_not, Bool.not_true, Bool.not_false] at hb11
          refine SOps.move rfl ?_
          refine SOps.lenStr rfl strB_9 ?_
          refine SOps.bin rfl rfl rfl ?_
          refine SOps.pick rfl rfl ?_
          refine SOps.nil ?_
          refine SCode.cond rfl (fun hc12 => ?_) (fun hc12 => ?_)
          · try simp only [decide_eq_true_eq, decide_eq_false_iff_not, Bool.not_eq_true', Bool.not_eq_false', beq_iff_eq, bne_iff_ne, ne_eq, beq_eq_false_iff_ne, bne_eq_false_iff_eq, Int.not_lt, Int.not_le, Nat.not_lt, Nat.not_le, Int.ofNat_lt, Int.ofNat_le, Bool.not_eq_eq_eq_not, Bool.not_true, Bool.not_false] at hc12
            refine SCode.seqR ?_
            refine SOps.callP hA rfl ?_
            rintro _ rfl
            refine SOps.assign rfl ?_
            refine SOps.nil ?_
            refine SCode.ret ?_
            exact ⟨_, Res.one (.tmp rfl), rfl, rfl⟩
          · try simp only [decide_eq_true_eq, decide_eq_false_iff_not, Bool.not_eq_true', Bool.not_eq_false', beq_iff_eq, bne_iff_ne, ne_eq, beq_eq_false_iff_ne, bne_eq_false_iff_eq, Int.not_lt, Int.not_le, Nat.not_lt, Nat.not_le, Int.ofNat_lt, Int.ofNat_le, Bool.not_eq_eq_eq_not, Bool.not_true, Bool.not_false] at hc12
            refine SCode.skip ?_
            show SCode _ _ _ _
            refine SCode.seqR ?_
            refine SOps.move rfl ?_
            refine SOps.move rfl ?_
            refine SOps.move rfl ?_
            refine SOps.callP (rCascade hV _ _ _ (by assumption) (by assumption)) rfl ?_
            rintro _ rfl
            refine SOps.move rfl ?_
            refine SOps.extract rfl rfl ?_
            refine SOps.extract rfl rfl ?_
            refine SOps.assign rfl ?_
            refine SOps.assign rfl ?_
            refine SOps.nil ?_
            refine SCode.seqR ?_
            refine SOps.move rfl ?_
            refine SOps.move rfl ?_
            refine SOps.move rfl ?_
            refine SOps.callP (qCascade' hV _ _ _ (by assumption) (by assumption)) rfl ?_
            rintro _ rfl
            refine SOps.move rfl ?_
            refine SOps.extract rfl rfl ?_
            refine SOps.extract rfl rfl ?_
            refine SOps.assign rfl ?_
            refine SOps.assign rfl ?_
            refine SOps.nil ?_
            refine SCode.seqR ?_
            refine SOps.callP hA rfl ?_
            rintro _ rfl
            refine SOps.move rfl ?_
            refine SOps.move rfl ?_
            refine SOps.move rfl ?_
            refine SOps.bin rfl rfl rfl ?_
            refine SOps.reSlot (t := 68) rfl (show _ = DV.v (.bool true) from congrArg (fun b => DV.v (.bool b)) (by simp)) ?_
            refine SOps.pick rfl rfl ?_
            refine SOps.move rfl ?_
            refine SOps.move rfl ?_
            refine SOps.move rfl ?_
            refine SOps.bin rfl rfl rfl ?_
            refine SOps.reSlot (t := 73) rfl (show _ = DV.v (.bool true) from congrArg (fun b => DV.v (.bool b)) (by simp)) ?_
            refine SOps.pick rfl rfl ?_
            refine SOps.assign rfl ?_
            refine SOps.nil ?_
            refine SCode.ret ?_
            exact ⟨_, Res.one (.tmp rfl), rfl, rfl⟩
theorem l7Feeds (hV : VS E) (hA : AW7 E) (a : List Letter) (r t : Rule) (s : ByteArray) (hr : SmR r) (ht : SmR t) (hs : s.size ≤ 1048576) : GCall Tryd.prog E 9 [DLs a, .agg (encR r), .agg (encR t), .v (.string s)] [] (fun d H => d = .v (.bool true) ∧ H = []) := by
  refine GCall.body (C := ⟨Tryd.prog, E, true⟩) Tryd.func9 rfl (fun _ => rfl) (by kernel_rfl) rfl ?_
  refine SCode.seqR ?_
  refine SOps.boxAM rfl rfl ?_
  refine SOps.boxAM rfl rfl ?_
  refine SOps.assign rfl ?_
  refine SOps.nil ?_
  refine SCode.seq ?_
  refine SCode.seqR ?_
  refine SOps.move rfl ?_
  refine SOps.loadPinA rfl aggB_25_6 (Nat.le_of_ble_eq_true rfl) ?_
  refine SOps.move rfl ?_
  refine SOps.callP (lSmall _ _ _) rfl ?_
  rintro _ rfl
  refine SOps.un rfl rfl ?_
  refine SOps.move rfl ?_
  refine SOps.caseB 18 rfl (fun hb1 => ?_) (fun hb1 => ?_)
  · try simp only [decide_eq_true_eq, decide_eq_false_iff_not, Bool.not_eq_true', Bool.not_eq_false', beq_iff_eq, bne_iff_ne, ne_eq, beq_eq_false_iff_ne, bne_eq_false_iff_eq, Int.not_lt, Int.not_le, Nat.not_lt, Nat.not_le, Int.ofNat_lt, Int.ofNat_le, Bool.not_eq_eq_eq_not, Bool.not_true, Bool.not_false] at hb1
    refine SOps.skip rfl ?_
    refine SOps.skip rfl ?_
    refine SOps.skip rfl ?_
    refine SOps.skip rfl ?_
    refine SOps.skip rfl ?_
    refine SOps.pick rfl rfl ?_
    refine SOps.nil ?_
    refine SCode.cond rfl (fun _ => ?_) (fun h => by cases h)
    refine SCode.seqR ?_
    refine SOps.callP hA rfl ?_
    rintro _ rfl
    refine SOps.assign rfl ?_
    refine SOps.nil ?_
    refine SCode.ret ?_
    exact ⟨_, Res.one (.tmp rfl), rfl, rfl⟩
  · try simp only [decide_eq_true_eq, decide_eq_false_iff_not, Bool.not_eq_true', Bool.not_eq_false', beq_iff_eq, bne_iff_ne, ne_eq, beq_eq_false_iff_ne, bne_eq_false_iff_eq, Int.not_lt, Int.not_le, Nat.not_lt, Nat.not_le, Int.ofNat_lt, Int.ofNat_le, Bool.not_eq_eq_eq_not, Bool.not_true, Bool.not_false] at hb1
    refine SOps.move rfl ?_
    refine SOps.loadPinA rfl aggB_25_6 (Nat.le_of_ble_eq_true rfl) ?_
    refine SOps.move rfl ?_
    refine SOps.callP (lSmall _ _ _) rfl ?_
    rintro _ rfl
    refine SOps.un rfl rfl ?_
    refine SOps.pick rfl rfl ?_
    refine SOps.nil ?_
    refine SCode.cond rfl (fun hc2 => ?_) (fun hc2 => ?_)
    · try simp only [decide_eq_true_eq, decide_eq_false_iff_not, Bool.not_eq_true', Bool.not_eq_false', beq_iff_eq, bne_iff_ne, ne_eq, beq_eq_false_iff_ne, bne_eq_false_iff_eq, Int.not_lt, Int.not_le, Nat.not_lt, Nat.not_le, Int.ofNat_lt, Int.ofNat_le, Bool.not_eq_eq_eq_not, Bool.not_true, Bool.not_false] at hc2
      refine SCode.seqR ?_
      refine SOps.callP hA rfl ?_
      rintro _ rfl
      refine SOps.assign rfl ?_
      refine SOps.nil ?_
      refine SCode.ret ?_
      exact ⟨_, Res.one (.tmp rfl), rfl, rfl⟩
    · try simp only [decide_eq_true_eq, decide_eq_false_iff_not, Bool.not_eq_true', Bool.not_eq_false', beq_iff_eq, bne_iff_ne, ne_eq, beq_eq_false_iff_ne, bne_eq_false_iff_eq, Int.not_lt, Int.not_le, Nat.not_lt, Nat.not_le, Int.ofNat_lt, Int.ofNat_le, Bool.not_eq_eq_eq_not, Bool.not_true, Bool.not_false] at hc2
      refine SCode.skip ?_
      show SCode _ _ _ _
      refine SCode.seqR ?_
      refine SOps.move rfl ?_
      refine SOps.loadPinA rfl aggB_25_6 (Nat.le_of_ble_eq_true rfl) ?_
      refine SOps.loadPinA rfl aggB_25_6 (Nat.le_of_ble_eq_true rfl) ?_
      refine SOps.move rfl ?_
      refine SOps.callP (rFeeds hV _ _ _ _ hr ht hs) rfl ?_
      rintro _ rfl
      refine SOps.move rfl ?_
      refine SOps.extract rfl rfl ?_
      refine SOps.extract rfl rfl ?_
      refine SOps.assign rfl ?_
      refine SOps.assign rfl ?_
      refine SOps.nil ?_
      refine SCode.seq ?_
      refine SCode.seqR ?_
      refine SOps.move rfl ?_
      refine SOps.loadPinA rfl aggB_25_6 (Nat.le_of_ble_eq_true rfl) ?_
      refine SOps.callP (qValid hV _ _) rfl ?_
      rintro _ rfl
      refine SOps.un rfl rfl ?_
      refine SOps.move rfl ?_
      refine SOps.caseB 38 rfl (fun hb3 => ?_) (fun hb3 => ?_)
      · try simp only [decide_eq_true_eq, decide_eq_false_iff_not, Bool.not_eq_true', Bool.not_eq_false', beq_iff_eq, bne_iff_ne, ne_eq, beq_eq_false_iff_ne, bne_eq_false_iff_eq, Int.not_lt, Int.not_le, Nat.not_lt, Nat.not_le, Int.ofNat_lt, Int.ofNat_le, Bool.not_eq_eq_eq_not, Bool.not_true, Bool.not_false] at hb3
        refine SOps.skip rfl ?_
        refine SOps.skip rfl ?_
        refine SOps.skip rfl ?_
        refine SOps.skip rfl ?_
        refine SOps.pick rfl rfl ?_
        refine SOps.move rfl ?_
        refine SOps.skip rfl ?_
        refine SOps.skip rfl ?_
        refine SOps.skip rfl ?_
        refine SOps.skip rfl ?_
        refine SOps.pick rfl rfl ?_
        refine SOps.nil ?_
        refine SCode.cond rfl (fun _ => ?_) (fun h => by cases h)
        refine SCode.seqR ?_
        have hfe : feedsR a r t s = (false, 1) := feeds_bad (by simp_all)
        refine SOps.callP hA rfl ?_
        rintro _ rfl
        refine SOps.move rfl ?_
        refine SOps.move rfl ?_
        refine SOps.reSlot (t := 52) rfl (show _ = DV.v (.bool false) from congrArg (fun b => DV.v (.bool b)) (by rw [hfe])) ?_
        refine SOps.un rfl rfl ?_
        refine SOps.pick rfl rfl ?_
        refine SOps.move rfl ?_
        refine SOps.move rfl ?_
        refine SOps.bin rfl rfl rfl ?_
        refine SOps.reSlot (t := 57) rfl (show _ = DV.v (.bool true) from congrArg (fun b => DV.v (.bool b)) (by rw [hfe]; rfl)) ?_
        refine SOps.pick rfl rfl ?_
        refine SOps.assign rfl ?_
        refine SOps.nil ?_
        refine SCode.ret ?_
        exact ⟨_, Res.one (.tmp rfl), rfl, rfl⟩
      · try simp only [decide_eq_true_eq, decide_eq_false_iff_not, Bool.not_eq_true', Bool.not_eq_false', beq_iff_eq, bne_iff_ne, ne_eq, beq_eq_false_iff_ne, bne_eq_false_iff_eq, Int.not_lt, Int.not_le, Nat.not_lt, Nat.not_le, Int.ofNat_lt, Int.ofNat_le, Bool.not_eq_eq_eq_not, Bool.not_true, Bool.not_false] at hb3
        refine SOps.move rfl ?_
        refine SOps.loadPinA rfl aggB_25_6 (Nat.le_of_ble_eq_true rfl) ?_
        refine SOps.callP (qValid hV _ _) rfl ?_
        rintro _ rfl
        refine SOps.un rfl rfl ?_
        refine SOps.pick rfl rfl ?_
        refine SOps.move rfl ?_
        refine SOps.caseB 44 rfl (fun hb4 => ?_) (fun hb4 => ?_)
        · try simp only [decide_eq_true_eq, decide_eq_false_iff_not, Bool.not_eq_true', Bool.not_eq_false', beq_iff_eq, bne_iff_ne, ne_eq, beq_eq_false_iff_ne, bne_eq_false_iff_eq, Int.not_lt, Int.not_le, Nat.not_lt, Nat.not_le, Int.ofNat_lt, Int.ofNat_le, Bool.not_eq_eq_eq_not, Bool.not_true, Bool.not_false] at hb4
          refine SOps.skip rfl ?_
          refine SOps.skip rfl ?_
          refine SOps.skip rfl ?_
          refine SOps.skip rfl ?_
          refine SOps.pick rfl rfl ?_
          refine SOps.nil ?_
          refine SCode.cond rfl (fun _ => ?_) (fun h => by cases h)
          refine SCode.seqR ?_
          have hfe : feedsR a r t s = (false, 1) := feeds_bad (by simp_all)
          refine SOps.callP hA rfl ?_
          rintro _ rfl
          refine SOps.move rfl ?_
          refine SOps.move rfl ?_
          refine SOps.reSlot (t := 52) rfl (show _ = DV.v (.bool false) from congrArg (fun b => DV.v (.bool b)) (by rw [hfe])) ?_
          refine SOps.un rfl rfl ?_
          refine SOps.pick rfl rfl ?_
          refine SOps.move rfl ?_
          refine SOps.move rfl ?_
          refine SOps.bin rfl rfl rfl ?_
          refine SOps.reSlot (t := 57) rfl (show _ = DV.v (.bool true) from congrArg (fun b => DV.v (.bool b)) (by rw [hfe]; rfl)) ?_
          refine SOps.pick rfl rfl ?_
          refine SOps.assign rfl ?_
          refine SOps.nil ?_
          refine SCode.ret ?_
          exact ⟨_, Res.one (.tmp rfl), rfl, rfl⟩
        · try simp only [decide_eq_true_eq, decide_eq_false_iff_not, Bool.not_eq_true', Bool.not_eq_false', beq_iff_eq, bne_iff_ne, ne_eq, beq_eq_false_iff_ne, bne_eq_false_iff_eq, Int.not_lt, Int.not_le, Nat.not_lt, Nat.not_le, Int.ofNat_lt, Int.ofNat_le, Bool.not_eq_eq_eq_not, Bool.not_true, Bool.not_false] at hb4
          refine SOps.move rfl ?_
          refine SOps.move rfl ?_
          refine SOps.callP (qWord hV _ _) rfl ?_
          rintro _ rfl
          refine SOps.un rfl rfl ?_
          refine SOps.pick rfl rfl ?_
          refine SOps.nil ?_
          refine SCode.cond rfl (fun hc5 => ?_) (fun hc5 => ?_)
          · try simp only [decide_eq_true_eq, decide_eq_false_iff_not, Bool.not_eq_true', Bool.not_eq_false', beq_iff_eq, bne_iff_ne, ne_eq, beq_eq_false_iff_ne, bne_eq_false_iff_eq, Int.not_lt, Int.not_le, Nat.not_lt, Nat.not_le, Int.ofNat_lt, Int.ofNat_le, Bool.not_eq_eq_eq_not, Bool.not_true, Bool.not_false] at hc5
            refine SCode.seqR ?_
            have hfe : feedsR a r t s = (false, 1) := feeds_bad (by simp_all)
            refine SOps.callP hA rfl ?_
            rintro _ rfl
            refine SOps.move rfl ?_
            refine SOps.move rfl ?_
            refine SOps.reSlot (t := 52) rfl (show _ = DV.v (.bool false) from congrArg (fun b => DV.v (.bool b)) (by rw [hfe])) ?_
            refine SOps.un rfl rfl ?_
            refine SOps.pick rfl rfl ?_
            refine SOps.move rfl ?_
            refine SOps.move rfl ?_
            refine SOps.bin rfl rfl rfl ?_
            refine SOps.reSlot (t := 57) rfl (show _ = DV.v (.bool true) from congrArg (fun b => DV.v (.bool b)) (by rw [hfe]; rfl)) ?_
            refine SOps.pick rfl rfl ?_
            refine SOps.assign rfl ?_
            refine SOps.nil ?_
            refine SCode.ret ?_
            exact ⟨_, Res.one (.tmp rfl), rfl, rfl⟩
          · try simp only [decide_eq_true_eq, decide_eq_false_iff_not, Bool.not_eq_true', Bool.not_eq_false', beq_iff_eq, bne_iff_ne, ne_eq, beq_eq_false_iff_ne, bne_eq_false_iff_eq, Int.not_lt, Int.not_le, Nat.not_lt, Nat.not_le, Int.ofNat_lt, Int.ofNat_le, Bool.not_eq_eq_eq_not, Bool.not_true, Bool.not_false] at hc5
            refine SCode.skip ?_
            show SCode _ _ _ _
            refine SCode.seqR ?_
            refine SOps.move rfl ?_
            refine SOps.loadPinA rfl aggB_25_6 (Nat.le_of_ble_eq_true rfl) ?_
            refine SOps.move rfl ?_
            refine SOps.callP (qApply' hV _ _ _ hr hs) rfl ?_
            rintro _ rfl
            refine SOps.move rfl ?_
            refine SOps.extract rfl rfl ?_
            refine SOps.extract rfl rfl ?_
            refine SOps.assign rfl ?_
            refine SOps.assign rfl ?_
            refine SOps.nil ?_
            refine SCode.seq ?_
            refine SCode.seqR ?_
            refine SOps.move rfl ?_
            refine SOps.bin rfl rfl rfl ?_
            refine SOps.nil ?_
            refine SCode.cond rfl (fun hc6 => ?_) (fun hc6 => ?_)
            · try simp only [decide_eq_true_eq, decide_eq_false_iff_not, Bool.not_eq_true', Bool.not_eq_false', beq_iff_eq, bne_iff_ne, ne_eq, beq_eq_false_iff_ne, bne_eq_false_iff_eq, Int.not_lt, Int.not_le, Nat.not_lt, Nat.not_le, Int.ofNat_lt, Int.ofNat_le, Bool.not_eq_eq_eq_not, Bool.not_true, Bool.not_false] at hc6
              refine SCode.seqR ?_
              have hfe : feedsR a r t s = (false, (applyR a r s).2) := by unfold feedsR; rw [if_pos (by simp_all), if_neg (by simp_all)]
              refine SOps.callP hA rfl ?_
              rintro _ rfl
              refine SOps.move rfl ?_
              refine SOps.move rfl ?_
              refine SOps.reSlot (t := 70) rfl (show _ = DV.v (.bool false) from congrArg (fun b => DV.v (.bool b)) (by rw [hfe])) ?_
              refine SOps.un rfl rfl ?_
              refine SOps.pick rfl rfl ?_
              refine SOps.move rfl ?_
              refine SOps.move rfl ?_
              refine SOps.move rfl ?_
              refine SOps.bin rfl rfl rfl ?_
              refine SOps.reSlot (t := 76) rfl (show _ = DV.v (.bool true) from congrArg (fun b => DV.v (.bool b)) (by rw [hfe]; simp)) ?_
              refine SOps.pick rfl rfl ?_
              refine SOps.assign rfl ?_
              refine SOps.nil ?_
              refine SCode.ret ?_
              exact ⟨_, Res.one (.tmp rfl), rfl, rfl⟩
            · try simp only [decide_eq_true_eq, decide_eq_false_iff_not, Bool.not_eq_true', Bool.not_eq_false', beq_iff_eq, bne_iff_ne, ne_eq, beq_eq_false_iff_ne, bne_eq_false_iff_eq, Int.not_lt, Int.not_le, Nat.not_lt, Nat.not_le, Int.ofNat_lt, Int.ofNat_le, Bool.not_eq_eq_eq_not, Bool.not_true, Bool.not_false] at hc6
              refine SCode.skip ?_
              show SCode _ _ _ _
              refine SCode.seq ?_
              have hz := resX_size a r s (sitesR a r s)
              have hfe : feedsR a r t s = (decide ((sitesR a t s).length < (sitesR a t (applyR a r s).1).length), 0) := by unfold feedsR; rw [if_pos (by simp_all), if_pos (by simp_all)]
              refine SCode.drawPure mixed_ [(78, .v (.bool true)), (79, .v (.bool true)), (80, .v (.int .i64 (feedsR a r t s).2)), (81, .v (.bool true)), (82, .v (.bool true)), (83, .v (.bool true)), (84, .v (.bool (feedsR a r t s).1)), (85, DLs a), (86, .agg (encR t)), (87, .v (.string (applyR a r s).1)), (88, DNats (sitesR a t (applyR a r s).1)), (89, .v (.int .i64 (((sitesR a t (applyR a r s).1).length : Nat) : Int))), (90, DLs a), (91, .agg (encR t)), (92, .v (.string s)), (93, DNats (sitesR a t s)), (94, .v (.int .i64 (((sitesR a t s).length : Nat) : Int))), (95, .v (.bool (decide ((((sitesR a t s).length : Nat) : Int) < (((sitesR a t (applyR a r s).1).length : Nat) : Int))))), (96, .v (.bool true)), (97, .v (.bool true)), (8, .v (.bool true))] [78, 79, 80, 81, 82, 83, 84, 85, 86, 87, 88, 89, 90, 91, 92, 93, 94, 95, 96, 97, 8] [[], [.inl 0], [.inl 1, .inr 10], [.inl 1, .inl 2], [.inl 1, .inl 3], [.inl 4], [.inl 5, .inr 9], [.inl 5, .inr 0], [.inl 5, .inr 6], [.inl 5, .inr 11], [.inl 5, .inl 7, .inl 8, .inl 9], [.inl 5, .inl 10], [.inl 5, .inr 0], [.inl 5, .inr 6], [.inl 5, .inr 3], [.inl 5, .inl 12, .inl 13, .inl 14], [.inl 5, .inl 15], [.inl 5, .inl 11, .inl 16], [.inl 5, .inl 6, .inl 17], [.inl 5, .inl 18], [.inl 19]] [[], [(78, .v (.bool true))], [(79, .v (.bool true)), (10, .v (.int .i64 (feedsR a r t s).2))], [(79, .v (.bool true)), (80, .v (.int .i64 (feedsR a r t s).2))], [(79, .v (.bool true)), (81, .v (.bool true))], [(82, .v (.bool true))], [(83, .v (.bool true)), (9, .v (.bool (feedsR a r t s).1))], [(83, .v (.bool true)), (0, DLs a)], [(83, .v (.bool true)), (6, .ipin (encR t))], [(83, .v (.bool true)), (11, .v (.string (applyR a r s).1))], [(83, .v (.bool true)), (85, DLs a), (86, .agg (encR t)), (87, .v (.string (applyR a r s).1))], [(83, .v (.bool true)), (88, DNats (sitesR a t (applyR a r s).1))], [(83, .v (.bool true)), (0, DLs a)], [(83, .v (.bool true)), (6, .ipin (encR t))], [(83, .v (.bool true)), (3, .v (.string s))], [(83, .v (.bool true)), (90, DLs a), (91, .agg (encR t)), (92, .v (.string s))], [(83, .v (.bool true)), (93, DNats (sitesR a t s))], [(83, .v (.bool true)), (89, .v (.int .i64 (((sitesR a t (applyR a r s).1).length : Nat) : Int))), (94, .v (.int .i64 (((sitesR a t s).length : Nat) : Int)))], [(83, .v (.bool true)), (84, .v (.bool (feedsR a r t s).1)), (95, .v (.bool (decide ((((sitesR a t s).length : Nat) : Int) < (((sitesR a t (applyR a r s).1).length : Nat) : Int)))))], [(83, .v (.bool true)), (96, .v (.bool true))], [(97, .v (.bool true))]] rfl (by kernel_rfl) (by kernel_rfl) rfl ?_ ?_
              · refine OpsOk.cons (fun rest => ?_) ?_
                · refine SOps.callP hA rfl ?_
                  rintro _ rfl
                  exact SOps.nil (by first | rfl | simp_all)
                refine OpsOk.cons (fun rest => ?_) ?_
                · refine SOps.move rfl ?_
                  exact SOps.nil (by first | rfl | simp_all)
                refine OpsOk.cons (fun rest => ?_) ?_
                · refine SOps.move rfl ?_
                  exact SOps.nil (by first | rfl | simp_all)
                refine OpsOk.cons (fun rest => ?_) ?_
                · refine SOps.bin rfl rfl rfl ?_
                  exact SOps.nil (by rw [hfe]; rfl)
                refine OpsOk.cons (fun rest => ?_) ?_
                · refine SOps.pick rfl rfl ?_
                  exact SOps.nil (by first | rfl | simp_all)
                refine OpsOk.cons (fun rest => ?_) ?_
                · refine SOps.move rfl ?_
                  exact SOps.nil (by first | rfl | simp_all)
                refine OpsOk.cons (fun rest => ?_) ?_
                · refine SOps.move rfl ?_
                  exact SOps.nil (by first | rfl | simp_all)
                refine OpsOk.cons (fun rest => ?_) ?_
                · refine SOps.move rfl ?_
                  exact SOps.nil (by first | rfl | simp_all)
                refine OpsOk.cons (fun rest => ?_) ?_
                · refine SOps.loadPinA rfl aggB_25_6 (Nat.le_of_ble_eq_true rfl) ?_
                  exact SOps.nil (by first | rfl | simp_all)
                refine OpsOk.cons (fun rest => ?_) ?_
                · refine SOps.move rfl ?_
                  exact SOps.nil (by first | rfl | simp_all)
                refine OpsOk.cons (fun rest => ?_) ?_
                · refine SOps.callP (qSites' hV _ _ _ hz) rfl ?_
                  rintro _ rfl
                  exact SOps.nil (by first | rfl | simp_all)
                refine OpsOk.cons (fun rest => ?_) ?_
                · refine SOps.lenM rfl sliceB_30_3_1 ?_
                  exact SOps.nil (by first | rfl | simp_all)
                refine OpsOk.cons (fun rest => ?_) ?_
                · refine SOps.move rfl ?_
                  exact SOps.nil (by first | rfl | simp_all)
                refine OpsOk.cons (fun rest => ?_) ?_
                · refine SOps.loadPinA rfl aggB_25_6 (Nat.le_of_ble_eq_true rfl) ?_
                  exact SOps.nil (by first | rfl | simp_all)
                refine OpsOk.cons (fun rest => ?_) ?_
                · refine SOps.move rfl ?_
                  exact SOps.nil (by first | rfl | simp_all)
                refine OpsOk.cons (fun rest => ?_) ?_
                · refine SOps.callP (qSites' hV _ _ _ hs) rfl ?_
                  rintro _ rfl
                  exact SOps.nil (by first | rfl | simp_all)
                refine OpsOk.cons (fun rest => ?_) ?_
                · refine SOps.lenM rfl sliceB_30_3_1 ?_
                  exact SOps.nil (by first | rfl | simp_all)
                refine OpsOk.cons (fun rest => ?_) ?_
                · refine SOps.bin rfl rfl rfl ?_
                  exact SOps.nil (by first | rfl | simp_all)
                refine OpsOk.cons (fun rest => ?_) ?_
                · refine SOps.boolEq rfl rfl boolTy_4 ?_
                  exact SOps.nil (by rw [hfe]; simp only [Int.ofNat_lt, beq_self_eq_true]; rfl)
                refine OpsOk.cons (fun rest => ?_) ?_
                · refine SOps.pick rfl rfl ?_
                  exact SOps.nil (by first | rfl | simp_all)
                refine OpsOk.cons (fun rest => ?_) ?_
                · refine SOps.assign rfl ?_
                  exact SOps.nil (by first | rfl | simp_all)
                exact OpsOk.nil
              · show SCode _ _ _ _
                refine SCode.ret ?_
                exact ⟨_, Res.one (.tmp rfl), rfl, rfl⟩
end Go.GH
namespace Go.GH
open Go Go.Lib Go.Proofs Go.Proofs.YtjcihlpjlpackaaDoor
theorem u8Extra : U8Extra Tryd.prog Tryd.laysValid_ren :=
  ⟨by kernel_rfl, by kernel_rfl, by kernel_rfl, by kernel_rfl, by kernel_rfl, by kernel_rfl, by kernel_rfl⟩
theorem laid_E0 (W : World) (h : laidMetH Tryd.prog Rows.rewriteValidRow.laid W) : E0.holds W (AllF W) := by
  have h' : laidMet Tryd.prog [("unicode/utf8.acceptRanges", Rows.laid_unicode_utf8_acceptRanges), ("unicode/utf8.first", Rows.laid_unicode_utf8_first)] W := h
  have e1 : Rows.laid_unicode_utf8_first = firstData := by kernel_rfl
  have e2 : (Rows.laid_unicode_utf8_acceptRanges : DataW Unit) = acceptData := by kernel_rfl
  rw [e1, e2] at h'
  exact tabE_all (utf8Tabs_of_readsT (U8Types.of196 Tryd.laysValid) u8Extra (laidMet.reads h' (.tail _ (.head _))) (laidMet.reads h' (.head _)))
theorem vsE0 : VS E0 := vs_ok
theorem awE0 : AW7 E0 := awake7 vsE0
end Go.GH
namespace Go.GH
open Go

theorem map_of {α β : Type} {f : α → β} : ∀ {es : List β}, (∀ e ∈ es, ∃ x, e = f x) → ∃ xs : List α, es = xs.map f
  | [], _ => ⟨[], rfl⟩
  | e :: es, h => by
    obtain ⟨x, rfl⟩ := h e (List.mem_cons_self ..)
    obtain ⟨xs, rfl⟩ := map_of (fun e he => h e (List.mem_cons_of_mem _ he))
    exact ⟨x :: xs, rfl⟩
def ElemIs (L : List DTy) (e : List DV) : Prop := e.length = L.length ∧ ∀ (j : Nat) d ty, e[j]? = some d → L[j]? = some ty → HasD ty d
theorem HasD.slice {α : Type} {L : List DTy} {f : α → List DV} {d : DV} (h : HasD (.sl L) d) (hf : ∀ e, ElemIs L e → ∃ x, e = f x) : ∃ xs : List α, d = .isl false L.length (xs.map f) := by
  cases h with
  | @sl L es hl hd =>
    obtain ⟨xs, rfl⟩ := map_of (f := f) (es := es) (fun e he => by
      obtain ⟨i, hi⟩ := List.mem_iff_getElem?.1 he
      exact hf e ⟨hl i e hi, fun j d ty hj ht => hd i e j d ty hi hj ht⟩)
    exact ⟨xs, rfl⟩
theorem ElemIs.one {ty : DTy} {e : List DV} (h : ElemIs [ty] e) : ∃ d, e = [d] ∧ HasD ty d := by
  obtain ⟨h1, h2⟩ := h
  match e, h1 with
  | [d], _ => exact ⟨d, rfl, h2 0 d ty rfl rfl⟩
theorem ElemIs.two {t1 t2 : DTy} {e : List DV} (h : ElemIs [t1, t2] e) : ∃ d1 d2, e = [d1, d2] ∧ HasD t1 d1 ∧ HasD t2 d2 := by
  obtain ⟨h1, h2⟩ := h
  match e, h1 with
  | [d1, d2], _ => exact ⟨d1, d2, rfl, h2 0 d1 t1 rfl rfl, h2 1 d2 t2 rfl rfl⟩
theorem ElemIs.three {t1 t2 t3 : DTy} {e : List DV} (h : ElemIs [t1, t2, t3] e) : ∃ d1 d2 d3, e = [d1, d2, d3] ∧ HasD t1 d1 ∧ HasD t2 d2 ∧ HasD t3 d3 := by
  obtain ⟨h1, h2⟩ := h
  match e, h1 with
  | [d1, d2, d3], _ => exact ⟨d1, d2, d3, rfl, h2 0 d1 t1 rfl rfl, h2 1 d2 t2 rfl rfl, h2 2 d3 t3 rfl rfl⟩
theorem HasD.int_inv {k : IntKind} {d : DV} (h : HasD (.int k) d) : ∃ n, d = .v (.int k n) ∧ k.has n := by cases h with | int h => exact ⟨_, rfl, h⟩
theorem HasD.str_inv {d : DV} (h : HasD .str d) : ∃ s, d = .v (.string s) := by cases h; exact ⟨_, rfl⟩
theorem HasD.bool_inv {d : DV} (h : HasD .bool d) : ∃ b, d = .v (.bool b) := by cases h; exact ⟨_, rfl⟩
theorem HasD.letters {d : DV} (h : HasD (.sl [.int .i32, .int .u32]) d) : ∃ a, d = DLs a :=
  h.slice (f := encL) (fun e he => by
    obtain ⟨d1, d2, rfl, h1, h2⟩ := he.two
    obtain ⟨r, rfl, _⟩ := h1.int_inv
    obtain ⟨c, rfl, _⟩ := h2.int_inv
    exact ⟨⟨r, c⟩, rfl⟩)
theorem HasD.ints {d : DV} (h : HasD (.sl [.int .i64]) d) : ∃ l, d = DInts l :=
  h.slice (f := encI) (fun e he => by
    obtain ⟨d1, rfl, h1⟩ := he.one
    obtain ⟨r, rfl, _⟩ := h1.int_inv
    exact ⟨r, rfl⟩)
theorem HasD.masks {d : DV} (h : HasD (.sl [.int .u32]) d) : ∃ l, d = DMasks l :=
  h.slice (f := encU) (fun e he => by
    obtain ⟨d1, rfl, h1⟩ := he.one
    obtain ⟨r, rfl, _⟩ := h1.int_inv
    exact ⟨r, rfl⟩)
theorem HasD.strs {d : DV} (h : HasD (.sl [.str]) d) : ∃ l, d = DStrs l :=
  h.slice (f := encS) (fun e he => by
    obtain ⟨d1, rfl, h1⟩ := he.one
    obtain ⟨r, rfl⟩ := h1.str_inv
    exact ⟨r, rfl⟩)

theorem cells_of_flat {P : Program} {w : World} {r : Reach} {base : Nat} {t : TypeId} {v : Value} (hf : flatB P t = true) (h : Value.okWide P w r base t v) (hne : ∀ k e, P.underlying t ≠ some (.map k e)) : v.cells = #[v] ∨ ∃ cs, v = .agg cs := by
  cases v <;> first | exact .inl rfl | exact .inr ⟨_, rfl⟩
/-- An argument of one cell. -/
theorem arg_rep {H : Type} {enc : TypeId × Value → H} {P : Program} {w : World} {sp : Nat → Bool} {held : Bool} {t : TypeId} {ty : DTy} {v : Value} {d : DataW H} {p : List MemPlace} (hT : TyIs P t [ty]) (h : DataW.Trod enc P w 0 sp held t v d p) (hv : v.cells = #[v]) : ∃ dv, Rep w (AllF w) v dv ∧ HasD ty dv := by
  obtain ⟨fuel, h⟩ := h
  rw [hv] at h
  obtain ⟨ds, h1, h2, h3⟩ := (pw_trod hT fuel _ _ h).cells
  match ds, h2 with
  | [dv], _ => exact ⟨dv, (h3 0 v dv ty rfl rfl rfl).1, (h3 0 v dv ty rfl rfl rfl).2.1⟩
/-- An argument of several cells. -/
theorem arg_repA {H : Type} {enc : TypeId × Value → H} {P : Program} {w : World} {sp : Nat → Bool} {held : Bool} {t : TypeId} {L : List DTy} {us : Array Value} {d : DataW H} {p : List MemPlace} (hT : TyIs P t L) (h : DataW.Trod enc P w 0 sp held t (.agg us) d p) : ∃ ds, Rep w (AllF w) (.agg us) (.agg ds) ∧ ElemIs L ds := by
  obtain ⟨fuel, h⟩ := h
  obtain ⟨ds, h1, h2, h3⟩ := (pw_trod hT fuel _ _ h).cells
  have hus : us.size = ds.length := by rw [h2, ← h1]; rfl
  refine ⟨ds, .agg hus (fun j x dd hx hd => ?_), h2, fun j dd ty hd ht => ?_⟩
  · have hlt : j < L.length := by rw [← h2]; exact (List.getElem?_eq_some_iff.1 hd).1
    exact (h3 j x dd _ (by show us.toList[j]? = some x; simpa using hx) hd (List.getElem?_eq_getElem hlt)).1
  · have hlt : j < us.size := by rw [hus]; exact (List.getElem?_eq_some_iff.1 hd).1
    exact (h3 j us[j] dd ty (by show us.toList[j]? = some us[j]; simp [hlt]) hd ht).2.1
end Go.GH
namespace Go.GH
open Go Go.RowKit Go.Proofs.YtjcihlpjlpackaaDoor

inductive SmallD (N : Nat) : DV → Prop
  | v {x : Value} (h : ∀ s, x = .string s → s.size ≤ N) : SmallD N (.v x)
  | isl {nn : Bool} {sz : Nat} {es : List (List DV)} (hl : es.length ≤ N) (h : ∀ (i : Nat) e (j : Nat) d, es[i]? = some e → e[j]? = some d → SmallD N d) : SmallD N (.isl nn sz es)
theorem bulk_one {H : Type} (d : DataW H) : 1 ≤ Rows.uptoBulk d := by
  cases d with
  | lit l => cases l <;> simp [Rows.uptoBulk]
  | _ => simp [Rows.uptoBulk]
theorem bulk_part {H : Type} {d : DataW H} : ∀ {l : List (DataW H)}, d ∈ l → Rows.uptoBulk d ≤ Rows.uptoBulkAll l
  | [], h => by cases h
  | x :: l, h => by
    rw [Rows.uptoBulkAll]
    rcases List.mem_cons.1 h with rfl | h
    · omega
    · have := bulk_part h; omega
theorem bulk_len {H : Type} : ∀ (l : List (DataW H)), l.length ≤ Rows.uptoBulkAll l
  | [] => Nat.zero_le _
  | x :: l => by
    rw [Rows.uptoBulkAll, List.length_cons]
    have := bulk_len l
    have := bulk_one x
    omega
theorem bulk_elems {H : Type} (a b : List (DataW H)) : Rows.uptoBulkAll a ≤ Rows.uptoBulk (.slice a b) := by
  rw [Rows.uptoBulk]; omega
theorem bulk_agg {H : Type} (a : List (DataW H)) : Rows.uptoBulkAll a ≤ Rows.uptoBulk (.agg a) := by
  rw [Rows.uptoBulk]; omega
theorem bulk_str {H : Type} (s : ByteArray) : Rows.uptoBulk (DataW.lit (H := H) (.string s.data.toList)) = s.size + 1 := by
  rw [Rows.uptoBulk]; simp
def CellsS (N : Nat) (w : World) (cs : List Value) (L : List DTy) (ds : List DV) : Prop :=
  cs.length = L.length ∧ ds.length = L.length ∧ ∀ (j : Nat) v d ty, cs[j]? = some v → ds[j]? = some d → L[j]? = some ty → Rep w (AllF w) v d ∧ HasD ty d ∧ v.oneCell' = true ∧ SmallD N d
def PWS (N : Nat) (w : World) (cs : List Value) (L : List DTy) : Prop :=
  cs.length = L.length ∧ ∀ (j : Nat) v ty, cs[j]? = some v → L[j]? = some ty → ∃ d, Rep w (AllF w) v d ∧ HasD ty d ∧ v.oneCell' = true ∧ SmallD N d
theorem PWS.cells {N : Nat} {w : World} {cs : List Value} {L : List DTy} (h : PWS N w cs L) : ∃ ds, CellsS N w cs L ds := by
  have key : ∀ j, ∃ d, ∀ v ty, cs[j]? = some v → L[j]? = some ty → Rep w (AllF w) v d ∧ HasD ty d ∧ v.oneCell' = true ∧ SmallD N d := fun j => by
    by_cases hj : j < L.length
    · obtain ⟨d, hd⟩ := h.2 j _ _ (List.getElem?_eq_getElem (show j < cs.length by rw [h.1]; exact hj)) (List.getElem?_eq_getElem hj)
      refine ⟨d, fun v ty hv ht => ?_⟩
      rw [List.getElem?_eq_getElem (show j < cs.length by rw [h.1]; exact hj)] at hv
      rw [List.getElem?_eq_getElem hj] at ht
      obtain rfl := Option.some.inj hv
      obtain rfl := Option.some.inj ht
      exact hd
    · exact ⟨.any, fun v ty _ ht => absurd (List.getElem?_eq_some_iff.1 ht).1 hj⟩
  refine ⟨(List.range L.length).map (fun j => (key j).choose), h.1, by simp, fun j v d ty hv hd ht => ?_⟩
  rw [List.getElem?_map] at hd
  obtain ⟨q, hq, rfl⟩ := Option.map_eq_some_iff.1 hd
  have hlt : j < L.length := (List.getElem?_eq_some_iff.1 ht).1
  rw [List.getElem?_range hlt] at hq
  obtain rfl := Option.some.inj hq
  exact (key j).choose_spec v ty hv ht
theorem PWS.one {N : Nat} {w : World} {v : Value} {ty : DTy} {d : DV} (h1 : Rep w (AllF w) v d) (h2 : HasD ty d) (h3 : v.oneCell' = true) (h4 : SmallD N d) : PWS N w [v] [ty] :=
  ⟨rfl, fun j u t hv ht => by
    match j, hv, ht with
    | 0, hv, ht => simp at hv ht; subst hv; subst ht; exact ⟨d, h1, h2, h3, h4⟩
    | j + 1, hv, ht => simp at hv⟩
theorem pws_trod {N : Nat} {H : Type} {enc : TypeId × Value → H} {P : Program} {w : World} {sp : Nat → Bool} {held : Bool} {t : TypeId} {L : List DTy} (h : TyIs P t L) :
    ∀ (fuel : Nat) (cs : List Value) (x : DataW H × List MemPlace), DataW.trod enc P w 0 sp held fuel t cs = some x → Rows.uptoBulk x.1 ≤ N → PWS N w cs L := by
  induction h with
  | @int t k h =>
    intro fuel cs x hx hb0
    obtain ⟨n, rfl, hxe, hwf⟩ := DataW.trod_int h hx
    exact .one (d := .v (.int k n)) (.v (show k.has n from lit_int_wf hwf)) (.int (lit_int_wf hwf)) rfl (.v (fun s e => by cases e))
  | @str t h =>
    intro fuel cs x hx hb0
    obtain ⟨s, rfl, hxe, hs⟩ := DataW.trod_string h hx
    have hs : s.size ≤ lenB := by
      have e : maxLen = lenB := by decide
      omega
    exact .one (d := .v (.string s)) (.v hs) (.str hs) rfl (.v (fun s' e => by cases e; rw [hxe, bulk_str] at hb0; omega))
  | @bool t h =>
    intro fuel cs x hx hb0
    obtain ⟨b, rfl, _⟩ := DataW.trod_bool h hx
    exact .one (d := .v (.bool b)) (.v trivial) .bool rfl (.v (fun s e => by cases e))
  | @sl t e L h he hc hne ih =>
    intro fuel cs x hx hb0
    rcases DataW.trod_slice h hx with ⟨rfl, _⟩ | ⟨a, len, cap, elems, rest, n, rfl, rfl, hxe, hb, hl, hm, hlen, hel, _, _⟩
    · exact .one (d := .isl false L.length []) (.isl (b := 0) (o := 0) (fun _ _ => undef) rfl (by omega) (by simp [lenB]) (fun h => by cases h) (fun h => absurd rfl h) (fun i e h => by simp at h) (fun i e j d h => by simp at h) (fun i e j d h => by simp at h))
        (.sl (fun i e h => by simp at h) (fun i e j d ty h => by simp at h)) rfl (.isl (by simp) (fun i e j d h => by simp at h))
    · have key : ∀ i, ∃ p : List Value × List DV, i < len → w.cells? 0 (a.add (i * L.length)) L.length = some p.1 ∧ CellsS N w p.1 L p.2 := fun i => by
        by_cases hi : i < len
        · have h1 := hel i hi
          rw [List.getElem?_eq_getElem (by omega)] at h1
          obtain ⟨cs', h2, h3⟩ := Option.bind_eq_some_iff.1 h1
          have hbe : Rows.uptoBulk (elems[i]'(by omega)).1 ≤ N := by
            rw [hxe] at hb0
            exact Nat.le_trans (bulk_part (List.mem_map.2 ⟨_, List.getElem_mem _, rfl⟩)) (Nat.le_trans (bulk_elems _ _) hb0)
          obtain ⟨ds, hds⟩ := (ih n cs' _ h3 hbe).cells
          exact ⟨(cs', ds), fun _ => ⟨by rw [← hc]; exact h2, hds⟩⟩
        · exact ⟨([], []), fun h => absurd h hi⟩
      have hpos : 0 < L.length := List.length_pos_iff.2 hne
      have hspot : 0 < len → a.spot = none ∧ a.block < w.heap.size := fun h0 => by
        obtain ⟨h1, h2, _⟩ := (key 0).choose_spec h0
        obtain ⟨_, _, h4⟩ := World.cells?_some h1
        have h5 := h4 0 hpos
        rw [List.getElem?_eq_getElem (by omega)] at h5
        simp only [Nat.zero_mul] at h5
        have h6 := cell?_lt h5
        simp [Addr.add] at h6
        exact ⟨h6.2, h6.1⟩
      have hadd : 0 < len → ∀ q, a.add q = ⟨a.block, a.off + q, none⟩ := fun h0 q => by
        have := (hspot h0).1
        obtain ⟨b, o, s⟩ := a
        simp only at this
        subst this
        exact add_plain' b o q
      let es : List (List DV) := (List.range len).map (fun i => (key i).choose.2)
      have hes : ∀ (i : Nat) e, es[i]? = some e → i < len ∧ e = (key i).choose.2 := fun i e hi => by
        simp only [es, List.getElem?_map] at hi
        obtain ⟨q, hq, rfl⟩ := Option.map_eq_some_iff.1 hi
        have hlt : i < len := by have := (List.getElem?_eq_some_iff.1 hq).1; simpa using this
        rw [List.getElem?_range hlt] at hq
        obtain rfl := Option.some.inj hq
        exact ⟨hlt, rfl⟩
      have hcell : ∀ (i : Nat) e (j : Nat) d, es[i]? = some e → e[j]? = some d → ∃ v ty, L[j]? = some ty ∧ w.cell? ⟨a.block, a.off + (i * L.length + j), none⟩ = some v ∧ ((key i).choose.1)[j]? = some v ∧ Rep w (AllF w) v d ∧ HasD ty d ∧ v.oneCell' = true ∧ SmallD N d := fun i e j d hi hj => by
        obtain ⟨hlt, rfl⟩ := hes i e hi
        obtain ⟨h1, h2, h3, h4⟩ := (key i).choose_spec hlt
        obtain ⟨_, _, h5⟩ := World.cells?_some h1
        have hjl : j < L.length := by rw [← h3]; exact (List.getElem?_eq_some_iff.1 hj).1
        have hv := List.getElem?_eq_getElem (show j < ((key i).choose.1).length by omega)
        refine ⟨_, _, List.getElem?_eq_getElem hjl, ?_, hv, h4 j _ d _ hv hj (List.getElem?_eq_getElem hjl)⟩
        rw [← hv, ← h5 j hjl, hadd (by omega), add_plain', Nat.add_assoc]
      have hesl : es.length = len := by simp [es]
      have hmx : maxLen = lenB := by decide
      refine .one (d := .isl false L.length es) (.isl (b := a.block) (o := a.off) (fun i j => (((key i).choose.1)[j]?).getD undef) hesl.symm hl (by omega) (fun h => by cases h) (fun hne' => ?_) (fun i e hi => ?_) (fun i e j d hi hj => ?_) (fun i e j d hi hj => ?_)) (.sl (fun i e hi => ?_) (fun i e j d ty hi hj hty => ?_)) rfl (.isl (by rw [hesl, ← hlen]; rw [hxe] at hb0; exact Nat.le_trans (by simpa using bulk_len (elems.map (·.1))) (Nat.le_trans (bulk_elems _ _) hb0)) (fun i e j d hi hj => by obtain ⟨_, _, _, _, _, _, _, _, h7⟩ := hcell i e j d hi hj; exact h7))
      · have h0 : 0 < len := by
          rcases Nat.eq_zero_or_pos len with h | h
          · exact absurd (by simp [es, h]) hne'
          · exact h
        refine ⟨?_, (hspot h0).2⟩
        have := (hspot h0).1
        obtain ⟨b, o, s⟩ := a
        simp only at this
        subst this
        rfl
      · obtain ⟨hlt, rfl⟩ := hes i e hi; exact ((key i).choose_spec hlt).2.2.1
      · obtain ⟨v, ty, _, h2, h3, _, _, h6, _⟩ := hcell i e j d hi hj
        simp only [h3, Option.getD_some]
        exact ⟨h2, h6⟩
      · obtain ⟨v, ty, _, _, h3, h4, _⟩ := hcell i e j d hi hj
        simp only [h3, Option.getD_some]
        exact h4
      · obtain ⟨hlt, rfl⟩ := hes i e hi; exact ((key i).choose_spec hlt).2.2.1
      · obtain ⟨v, ty', h1, _, _, _, h5, _⟩ := hcell i e j d hi hj
        rw [h1] at hty
        obtain rfl := Option.some.inj hty
        exact h5
  | @struct t fs Ls h hc hl hf ho ih =>
    intro fuel cs x hx hb0
    obtain ⟨xs, n, rfl, hxe, hlen, hxl, hx⟩ := DataW.trod_struct h hx
    refine ⟨hlen.trans hc, fun j v ty hv hty => ?_⟩
    obtain ⟨i, Li, q, h1, h2, rfl⟩ := flatten_find Ls j ty hty
    have hi : i < fs.size := by rw [← hl]; exact (List.getElem?_eq_some_iff.1 h1).1
    have hfi := Array.getElem?_eq_getElem hi
    obtain ⟨o1, o2⟩ := ho i _ Li hfi h1
    have h3 := hx i _ hfi
    rw [List.getElem?_eq_getElem (show i < xs.length by omega)] at h3
    have hbe : Rows.uptoBulk (xs[i]'(by omega)).1 ≤ N := by
      rw [hxe] at hb0
      exact Nat.le_trans (bulk_part (List.mem_map.2 ⟨_, List.getElem_mem _, rfl⟩)) (Nat.le_trans (bulk_agg _) hb0)
    obtain ⟨_, h4⟩ := ih i _ Li hfi h1 n _ _ h3 hbe
    have hql : q < Li.length := (List.getElem?_eq_some_iff.1 h2).1
    exact h4 q v ty (by rw [List.getElem?_take, if_pos (by omega), List.getElem?_drop, o1]; exact hv) h2

/-- An argument of one cell. -/
theorem arg_repS {N : Nat} {H : Type} {enc : TypeId × Value → H} {P : Program} {w : World} {sp : Nat → Bool} {held : Bool} {t : TypeId} {ty : DTy} {v : Value} {d : DataW H} {p : List MemPlace} (hT : TyIs P t [ty]) (h : DataW.Trod enc P w 0 sp held t v d p) (hv : v.cells = #[v]) (hb : Rows.uptoBulk d ≤ N) : ∃ dv, Rep w (AllF w) v dv ∧ HasD ty dv ∧ SmallD N dv := by
  obtain ⟨fuel, h⟩ := h
  rw [hv] at h
  obtain ⟨ds, h1, h2, h3⟩ := (pws_trod hT fuel _ _ h hb).cells
  match ds, h2 with
  | [dv], _ => exact ⟨dv, (h3 0 v dv ty rfl rfl rfl).1, (h3 0 v dv ty rfl rfl rfl).2.1, (h3 0 v dv ty rfl rfl rfl).2.2.2⟩
/-- An argument of several cells. -/
theorem arg_repAS {N : Nat} {H : Type} {enc : TypeId × Value → H} {P : Program} {w : World} {sp : Nat → Bool} {held : Bool} {t : TypeId} {L : List DTy} {us : Array Value} {d : DataW H} {p : List MemPlace} (hT : TyIs P t L) (h : DataW.Trod enc P w 0 sp held t (.agg us) d p) (hb : Rows.uptoBulk d ≤ N) : ∃ ds, Rep w (AllF w) (.agg us) (.agg ds) ∧ ElemIs L ds ∧ ∀ d ∈ ds, SmallD N d := by
  obtain ⟨fuel, h⟩ := h
  obtain ⟨ds, h1, h2, h3⟩ := (pws_trod hT fuel _ _ h hb).cells
  have hus : us.size = ds.length := by rw [h2, ← h1]; rfl
  refine ⟨ds, .agg hus (fun j x dd hx hd => ?_), ⟨h2, fun j dd ty hd ht => ?_⟩, fun dd hdd => ?_⟩
  · have hlt : j < L.length := by rw [← h2]; exact (List.getElem?_eq_some_iff.1 hd).1
    exact (h3 j x dd _ (by show us.toList[j]? = some x; simpa using hx) hd (List.getElem?_eq_getElem hlt)).1
  · have hlt : j < us.size := by rw [hus]; exact (List.getElem?_eq_some_iff.1 hd).1
    exact (h3 j us[j] dd ty (by show us.toList[j]? = some us[j]; simp [hlt]) hd ht).2.1
  · obtain ⟨j, hj⟩ := List.mem_iff_getElem?.1 hdd
    have hlt : j < us.size := by rw [hus]; exact (List.getElem?_eq_some_iff.1 hj).1
    have hlL : j < L.length := by rw [← h2]; exact (List.getElem?_eq_some_iff.1 hj).1
    exact (h3 j us[j] dd _ (by show us.toList[j]? = some us[j]; simp [hlt]) hj (List.getElem?_eq_getElem hlL)).2.2.2
end Go.GH
namespace Go.GH
open Go
abbrev TIt : List DTy := [.int .u32, .str, .bool, .bool]
abbrev TRu : List DTy := [.int .i32, .str, .sl TIt, .sl TIt, .bool, .bool]
theorem ElemIs.item {e : List DV} (h : ElemIs TIt e) : ∃ x : Item, e = encIt x := by
  obtain ⟨h1, h2⟩ := h
  match e, h1 with
  | [d0, d1, d2, d3], _ =>
    obtain ⟨n, rfl, _⟩ := (h2 0 d0 _ rfl rfl).int_inv
    obtain ⟨s, rfl⟩ := (h2 1 d1 _ rfl rfl).str_inv
    obtain ⟨b, rfl⟩ := (h2 2 d2 _ rfl rfl).bool_inv
    obtain ⟨c, rfl⟩ := (h2 3 d3 _ rfl rfl).bool_inv
    exact ⟨⟨n, s, b, c⟩, rfl⟩
theorem HasD.items {d : DV} (h : HasD (.sl TIt) d) : ∃ p, d = DIts p := h.slice (f := encIt) (fun e he => he.item)
theorem ElemIs.rule {e : List DV} (h : ElemIs TRu e) : ∃ r : Rule, e = encR r := by
  obtain ⟨h1, h2⟩ := h
  match e, h1 with
  | [d0, d1, d2, d3, d4, d5], _ =>
    obtain ⟨n, rfl, _⟩ := (h2 0 d0 _ rfl rfl).int_inv
    obtain ⟨s, rfl⟩ := (h2 1 d1 _ rfl rfl).str_inv
    obtain ⟨p, rfl⟩ := (h2 2 d2 _ rfl rfl).items
    obtain ⟨q, rfl⟩ := (h2 3 d3 _ rfl rfl).items
    obtain ⟨b, rfl⟩ := (h2 4 d4 _ rfl rfl).bool_inv
    obtain ⟨c, rfl⟩ := (h2 5 d5 _ rfl rfl).bool_inv
    exact ⟨⟨n, s, p, q, b, c⟩, rfl⟩
theorem HasD.rules {d : DV} (h : HasD (.sl TRu) d) : ∃ l, d = DRs l := h.slice (f := encR) (fun e he => he.rule)
theorem SmallD.str {N : Nat} {s : ByteArray} (h : SmallD N (.v (.string s))) : s.size ≤ N := by cases h with | v h => exact h s rfl
theorem SmallD.items {N : Nat} {p : List Item} (h : SmallD N (DIts p)) : ∀ x ∈ p, x.lets.size ≤ N := fun x hx => by
  obtain ⟨i, hi⟩ := List.mem_iff_getElem?.1 hx
  cases h with
  | isl hl h => exact (h i (encIt x) 1 (.v (.string x.lets)) (by rw [List.getElem?_map, hi]; rfl) rfl).str
theorem SmallD.len {N : Nat} {nn : Bool} {sz : Nat} {es : List (List DV)} (h : SmallD N (.isl nn sz es)) : es.length ≤ N := by cases h with | isl hl _ => exact hl
theorem SmallD.ruleE {r : Rule} (h : ∀ d ∈ encR r, SmallD 1048576 d) : SmR r :=
  ⟨(h (.v (.string r.«to»)) (by simp [encR])).str, (h (DIts r.left) (by simp [encR])).items, (h (DIts r.right) (by simp [encR])).items⟩
theorem SmallD.rules {l : List Rule} (h : SmallD 1048576 (DRs l)) : ∀ r ∈ l, SmR r := fun r hr => by
  obtain ⟨i, hi⟩ := List.mem_iff_getElem?.1 hr
  cases h with
  | isl hl h =>
    refine SmallD.ruleE (fun d hd => ?_)
    obtain ⟨j, hj⟩ := List.mem_iff_getElem?.1 hd
    exact h i (encR r) j d (by rw [List.getElem?_map, hi]; rfl) hj
end Go.GH
namespace Go.GH
open Go
theorem resF_mem {fr : Int} {tl : List Int} {c : Int} : ∀ (w : List Int) (i : Nat) (ss : List Nat), c ∈ resF fr tl w i ss → c ∈ tl ∨ c ∈ w
  | [], i, ss, h => by
    rw [resF_nil] at h
    split at h
    · exact .inl h
    · cases h
  | d :: w, i, ss, h => by
    rw [resF_cons, List.mem_append, List.mem_append] at h
    rcases h with h | h | h
    · split at h
      · exact .inl h
      · cases h
    · split at h
      · cases h
      · rw [List.mem_singleton] at h; subst h; exact .inr (List.mem_cons_self ..)
    · rcases resF_mem w _ _ h with h | h
      · exact .inl h
      · exact .inr (List.mem_cons_of_mem _ h)
theorem okR_all {a : List Letter} {r : Rule} {s : ByteArray} (h : okR a r s = true) : allL a r.«to» = true ∧ allL a s = true := by
  simp only [okR, validR, consS_eq, Bool.and_eq_true] at h
  exact ⟨h.1.1.1.2.2, h.2.2⟩
/-- A result without error is a word. -/
theorem resX_word {a : List Letter} {r : Rule} {s : ByteArray} {l : List Nat} (h : (resX a r s l).2 = 0) : okR a r s = true ∧ consS a 40 (resX a r s l).1 = true := by
  unfold resX at h ⊢
  by_cases hok : okR a r s = true
  · rw [if_pos hok] at h ⊢
    refine ⟨hok, ?_⟩
    obtain ⟨h1, h2⟩ := okR_all hok
    have hm : ∀ c ∈ resF r.fr (runes r.«to») (runes s) 0 l, (idx a c).isSome = true ∧ Utf8.valid c = true := fun c hc => by
      rcases resF_mem _ _ _ hc with hc | hc
      · exact ⟨List.all_eq_true.1 h1 c hc, runes_valid hc⟩
      · exact ⟨List.all_eq_true.1 h2 c hc, runes_valid hc⟩
    by_cases h40 : 40 < (runes (encs (resF r.fr (runes r.«to») (runes s) 0 l))).length
    · rw [if_pos h40] at h; cases h
    · rw [if_neg h40]
      show consS a 40 (encs _) = true
      rw [consS_eq, utf8R_encs (fun c hc => (hm c hc).2), Bool.true_and, Bool.and_eq_true, decide_eq_true_eq]
      refine ⟨by omega, ?_⟩
      rw [allL, runes_encs (fun c hc => (hm c hc).2)]
      exact List.all_eq_true.2 (fun c hc => (hm c hc).1)
  · rw [if_neg hok] at h; cases h
theorem resX_code (a : List Letter) (r : Rule) (s : ByteArray) (l : List Nat) (h : okR a r s = true) : (resX a r s l).2 = 0 ∨ (resX a r s l).2 = 2 := by
  unfold resX
  rw [if_pos h]
  split
  · exact .inr rfl
  · exact .inl rfl
theorem trF_code {a : List Letter} : ∀ (l : List Rule) (out : List ByteArray) (s : ByteArray), (∀ r ∈ l, validR a r = true) → consS a 40 s = true → (trF (applyR a) l out s).2 = 0 ∨ (trF (applyR a) l out s).2 = 2
  | [], out, s, _, _ => .inl rfl
  | r :: l, out, s, hv, hs => by
    have hok : okR a r s = true := by rw [okR, hv r (List.mem_cons_self ..), hs]; rfl
    rw [trF_cons]
    by_cases h0 : (applyR a r s).2 = 0
    · rw [if_pos h0]
      exact trF_code l _ _ (fun q hq => hv q (List.mem_cons_of_mem _ hq)) (resX_word h0).2
    · rw [if_neg h0]
      exact resX_code a r s _ hok
theorem okT_spec {a : List Letter} {l : List Rule} {s : ByteArray} (h : okT a l s = true) : l.length ≤ 64 ∧ admA a = true ∧ consS a 40 s = true ∧ ∀ r ∈ l, validR a r = true := by
  simp only [okT, Bool.and_eq_true, decide_eq_true_eq, List.all_eq_true] at h
  exact ⟨h.1.1.1, h.1.1.2, h.1.2, h.2⟩
theorem casc_code (a : List Letter) (l : List Rule) (s : ByteArray) : ((cascX (traceR a l s)).2 = 1 ↔ okT a l s = false) ∧ ((cascX (traceR a l s)).2 = 0 ∨ (cascX (traceR a l s)).2 = 1 ∨ (cascX (traceR a l s)).2 = 2) := by
  have h2 : (cascX (traceR a l s)).2 = (traceR a l s).2 := by
    unfold cascX
    split
    · rename_i h; exact h.symm
    · rfl
  rw [h2]
  unfold traceR traceX
  cases h : okT a l s with
  | false => exact ⟨⟨fun _ => rfl, fun _ => rfl⟩, .inr (.inl rfl)⟩
  | true =>
    obtain ⟨_, _, h3, h4⟩ := okT_spec h
    rcases trF_code l [s] s h4 h3 with h5 | h5
    · rw [if_pos rfl, h5]; exact ⟨⟨fun h => (by omega), fun h => by cases h⟩, .inl rfl⟩
    · rw [if_pos rfl, h5]; exact ⟨⟨fun h => (by omega), fun h => by cases h⟩, .inr (.inr rfl)⟩
theorem okT_swap (a : List Letter) (r t : Rule) (s : ByteArray) : okT a [r, t] s = okT a [t, r] s := by
  unfold okT
  simp only [List.all_cons, List.all_nil, Bool.and_true, List.length_cons, List.length_nil]
  rw [Bool.and_comm (validR a r)]
theorem comm_swap (a : List Letter) (r t : Rule) (s : ByteArray) : commX (cascX (traceR a [r, t] s)) (cascX (traceR a [t, r] s)) = commX (cascX (traceR a [t, r] s)) (cascX (traceR a [r, t] s)) := by
  have h1 := (casc_code a [r, t] s).1
  have h2 := (casc_code a [t, r] s).1
  rw [okT_swap] at h1
  generalize cascX (traceR a [r, t] s) = x at *
  generalize cascX (traceR a [t, r] s) = y at *
  unfold commX
  by_cases hx : x.2 = 1
  · rw [if_pos hx, if_pos (h2.2 (h1.1 hx))]
  · rw [if_neg hx, if_neg (fun hy => hx (h1.2 (h2.1 hy)))]
    by_cases h0 : x.2 = 0 ∧ y.2 = 0
    · rw [if_pos h0, if_pos ⟨h0.2, h0.1⟩]
      congr 1
      exact decide_eq_decide.2 ⟨Eq.symm, Eq.symm⟩
    · rw [if_neg h0, if_neg (fun h => h0 ⟨h.2, h.1⟩)]
theorem comm_err (a : List Letter) (r t : Rule) (s : ByteArray) (h : ¬ ((cascX (traceR a [r, t] s)).2 = 0 ∧ (cascX (traceR a [t, r] s)).2 = 0)) :
    (commX (cascX (traceR a [r, t] s)) (cascX (traceR a [t, r] s))).1 = false ∧ ((commX (cascX (traceR a [r, t] s)) (cascX (traceR a [t, r] s))).2 = (cascX (traceR a [r, t] s)).2 ∨ (commX (cascX (traceR a [r, t] s)) (cascX (traceR a [t, r] s))).2 = (cascX (traceR a [t, r] s)).2) ∧ (commX (cascX (traceR a [r, t] s)) (cascX (traceR a [t, r] s))).2 ≠ 0 := by
  have h1 := casc_code a [r, t] s
  have h2 := casc_code a [t, r] s
  rw [okT_swap] at h1
  generalize cascX (traceR a [r, t] s) = x at *
  generalize cascX (traceR a [t, r] s) = y at *
  unfold commX
  by_cases hx : x.2 = 1
  · rw [if_pos hx]
    exact ⟨rfl, .inl hx.symm, by show (1 : Int) ≠ 0; omega⟩
  · rw [if_neg hx, if_neg h]
    refine ⟨rfl, ?_, by show (2 : Int) ≠ 0; omega⟩
    show (2 : Int) = x.2 ∨ (2 : Int) = y.2
    have hy : ¬ y.2 = 1 := fun hy => hx (h1.1.2 (h2.1.1 hy))
    have := h1.2
    have := h2.2
    omega
end Go.GH
namespace Go.GH
open Go
theorem resF_far {fr : Int} {tl : List Int} : ∀ (w : List Int) (i : Nat), resF fr tl w i [] = w
  | [], i => by rw [resF_nil, if_neg (by simp)]
  | c :: w, i => by
    rw [resF_cons, if_neg (by simp), if_neg (by simp), if_neg (by simp), resF_far w]
    simp
/-- Up to a site. -/
theorem resF_upto {fr : Int} {tl : List Int} {k : Nat} {ss : List Nat} : ∀ (n : Nat) (w : List Int) (i : Nat), i + n = k → n ≤ w.length → resF fr tl w i (k :: ss) = w.take n ++ resF fr tl (w.drop n) k (k :: ss)
  | 0, w, i, h, _ => by rw [List.take_zero, List.drop_zero, List.nil_append, show i = k by omega]
  | n + 1, [], i, h, hn => by simp at hn
  | n + 1, c :: w, i, h, hn => by
    have hne : ¬ (k :: ss).head? = some i := by simp only [List.head?_cons, Option.some.injEq]; omega
    rw [resF_cons, if_neg hne, if_neg (fun h => hne h.1), if_neg hne, resF_upto n w (i + 1) (by omega) (by simpa using hn)]
    simp
/-- At a site. -/
theorem resF_site {fr : Int} {tl : List Int} {k : Nat} {ss : List Nat} (hss : ∀ x ∈ ss, k < x) {u : List Int} (hk : k ≤ u.length) (hf : fr ≠ 0 → k < u.length) :
    resF fr tl (u.drop k) k (k :: ss) = tl ++ resF fr tl (u.drop (if fr = 0 then k else k + 1)) (if fr = 0 then k else k + 1) ss := by
  have hne : ¬ ss.head? = some k := fun h => by
    cases ss with
    | nil => simp at h
    | cons y ys => simp only [List.head?_cons, Option.some.injEq] at h; have := hss y (List.mem_cons_self ..); omega
  have hh : (k :: ss).head? = some k := rfl
  rcases Nat.lt_or_ge k u.length with hl | hl
  · rw [List.drop_eq_getElem_cons hl, resF_cons, if_pos hh, if_pos hh]
    by_cases h0 : fr = 0
    · rw [if_neg (fun h => h.2 h0), if_pos h0, List.drop_eq_getElem_cons hl, resF_cons, if_neg hne, if_neg (fun h => hne h.1), if_neg hne]
      simp
    · rw [if_pos ⟨hh, h0⟩, if_neg h0]
      simp
  · have : fr = 0 := by
      rcases Classical.em (fr = 0) with h | h
      · exact h
      · have := hf h; omega
    rw [if_pos this, List.drop_eq_nil_of_le hl, resF_nil, resF_nil, if_pos hh, if_neg hne, List.append_nil]
structure PieceOK (r : Rule) (u v : List Int) (ss : List Nat) (p q k : Nat) : Prop where
  qle : q ≤ u.length
  ple : p ≤ v.length
  eq : v.drop p = resF r.fr (runes r.«to») (u.drop q) q (ss.drop k)
  ge : ∀ x ∈ ss.drop k, q ≤ x
theorem pieces_site {a : List Letter} {r : Rule} {s : ByteArray} : (sitesR a r s).Pairwise (· < ·) ∧ ∀ k ∈ sitesR a r s, k ≤ (runes s).length ∧ (r.fr ≠ 0 → (runes s)[k]? = some r.fr) := by
  rw [sites_eq]
  unfold sitesQ
  split
  · refine ⟨List.Pairwise.filter _ List.pairwise_lt_range, fun k hk => ?_⟩
    obtain ⟨h1, h2⟩ := List.mem_filter.1 hk
    refine ⟨by have := List.mem_range.1 h1; omega, fun h => ?_⟩
    unfold siteQ at h2
    simp only [Bool.and_eq_true, Bool.or_eq_true, decide_eq_true_eq, beq_iff_eq] at h2
    exact h2.1.1.resolve_left h
  · exact ⟨.nil, fun k hk => by cases hk⟩
/-- The piece before the end of the word. -/
theorem PieceOK.last {r : Rule} {u v : List Int} {ss : List Nat} {p q k : Nat} (h : PieceOK r u v ss p q k) (hk : ss.length ≤ k) : v.drop p = u.drop q ∧ p + (u.length - q) = v.length := by
  have e := h.eq
  rw [List.drop_eq_nil_of_le hk, resF_far] at e
  refine ⟨e, ?_⟩
  have := congrArg List.length e
  rw [List.length_drop, List.length_drop] at this
  have := h.qle
  have := h.ple
  omega
/-- The piece before site k, and the site. -/
theorem PieceOK.next {r : Rule} {u v : List Int} {ss : List Nat} {p q k : Nat} (h : PieceOK r u v ss p q k) (hp : ss.Pairwise (· < ·)) (hs : ∀ k ∈ ss, k ≤ u.length ∧ (r.fr ≠ 0 → u[k]? = some r.fr)) (hk : k < ss.length) :
    q ≤ ss[k] ∧ ss[k] ≤ u.length ∧ p + (ss[k] - q) + (runes r.«to»).length ≤ v.length ∧ (u.drop q).take (ss[k] - q) = (v.drop p).take (ss[k] - q) ∧ (v.drop (p + (ss[k] - q))).take (runes r.«to»).length = runes r.«to» ∧
    (r.fr ≠ 0 → u[ss[k]]? = some r.fr) ∧ PieceOK r u v ss (p + (ss[k] - q) + (runes r.«to»).length) (if r.fr = 0 then ss[k] else ss[k] + 1) (k + 1) := by
  have hd : ss.drop k = ss[k] :: ss.drop (k + 1) := List.drop_eq_getElem_cons hk
  have hge := h.ge ss[k] (by rw [hd]; exact List.mem_cons_self ..)
  obtain ⟨hle, hfr⟩ := hs ss[k] (List.getElem_mem hk)
  have hlt : ∀ x ∈ ss.drop (k + 1), ss[k] < x := fun x hx => by
    obtain ⟨j, hj, rfl⟩ := List.mem_iff_getElem.1 hx
    rw [List.getElem_drop]
    exact List.pairwise_iff_getElem.1 hp k (k + 1 + j) hk (by simp at hj; omega) (by omega)
  have e := h.eq
  have hf : r.fr ≠ 0 → ss[k] < u.length := fun h0 => by
    have := hfr h0
    exact (List.getElem?_eq_some_iff.1 this).1
  rw [hd, resF_upto (ss[k] - q) (u.drop q) q (by omega) (by rw [List.length_drop]; omega), List.drop_drop, show q + (ss[k] - q) = ss[k] by omega, resF_site hlt hle hf] at e
  have hl1 : ((u.drop q).take (ss[k] - q)).length = ss[k] - q := by rw [List.length_take, List.length_drop]; omega
  have hlen := congrArg List.length e
  rw [List.length_drop, List.length_append, List.length_append, hl1] at hlen
  have hpv := h.ple
  have e2 : v.drop (p + (ss[k] - q)) = runes r.«to» ++ resF r.fr (runes r.«to») (u.drop (if r.fr = 0 then ss[k] else ss[k] + 1)) (if r.fr = 0 then ss[k] else ss[k] + 1) (ss.drop (k + 1)) := by
    rw [← List.drop_drop, e, List.drop_left' hl1]
  refine ⟨hge, hle, by omega, ?_, ?_, hfr, ?_, by omega, ?_, fun x hx => ?_⟩
  · rw [e, List.take_left' hl1]
  · rw [e2, List.take_left' rfl]
  · split
    · exact hle
    · rename_i h0; exact hf h0
  · rw [← List.drop_drop, e2, List.drop_left' rfl]
  · have := hlt x hx
    split <;> omega
/-- The beginning. -/
theorem PieceOK.start {a : List Letter} {r : Rule} {s : ByteArray} (h : (applyR a r s).2 = 0) : okR a r s = true ∧ PieceOK r (runes s) (runes (applyR a r s).1) (sitesR a r s) 0 0 0 := by
  have hw := resX_word h
  refine ⟨hw.1, Nat.zero_le _, Nat.zero_le _, ?_, fun x _ => Nat.zero_le _⟩
  have hok := hw.1
  rw [List.drop_zero, List.drop_zero, List.drop_zero]
  have h' := h
  unfold applyR resX at h' ⊢
  rw [if_pos hok] at h' ⊢
  split at h'
  · cases h'
  · rename_i h40
    rw [if_neg h40]
    obtain ⟨h1, h2⟩ := okR_all hok
    refine runes_encs (fun c hc => ?_)
    rcases resF_mem _ _ _ hc with hc | hc
    · exact runes_valid hc
    · exact runes_valid hc
end Go.GH
namespace Go.GH
open Go Go.RowKit
section
variable {C : Ctx} {E : Env} {base : Base} {F : Nat → Prop} {st : St} {a : Act} {w : World} {ops : Array Oper} {rest : List Oper} {R : St → Prop}
  {t : Tmp} {ty : TypeId} {pos : String} {aft : Array Edge} {g : Option (Nat × Bool)}
theorem SOps.insert (i : Nat) {T K V b : Nat} {d : TypeDesc} {xo ko yo : Operand} {es : List (Value × DV)} {k : Value} {v : DV} (hx : st.val xo = some (.mp b)) (hi : st.heap[i]? = some (b, .map es)) (hk : st.val ko = some (.v k)) (hy : st.val yo = some v) (hT : mapB C.P T K V d) (hkk : isKey d k = true) (hks : ∀ p ∈ es, isKey d p.1 = true)
    (hrest : SOps C ops rest ⟨st.n, st.slots, st.heap.set i (b, .map (updL es k v))⟩ R)
    (hg : st.wants ops g = some true := by rfl) : SOps C ops (⟨none, .insert T xo ko yo, ty, pos, aft, g⟩ :: rest) st R := by
  refine SOps.op (R1 := (· = ⟨st.n, st.slots, st.heap.set i (b, .map (updL es k v))⟩)) hg ?_ (fun st' e => e ▸ hrest)
  intro base ok a w F hs K' Q hK
  have h1 := hs.val hx
  have h2 := (hs.val hk).inv_v.1
  have h3 := hs.val hy
  generalize hv : a.eval xo = x at h1
  cases h1 with
  | mp =>
    obtain ⟨kk1, hbF, ents, clock, hb, hE⟩ := hs.heap _ (List.mem_of_getElem? hi)
    have hE : EntsRep w F ents es := hE
    simp only at hb
    have main : ∃ ents' clock', (execOp a.eval ⟨none, .insert T xo ko yo, ty, pos, aft, g⟩).run C.P w = .ok .skip (World.setObj' w b (.map ents' clock')) ∧ ∀ w', (∀ u d, Rep w F u d → Rep w' F u d) → EntsRep w' F ents' (updL es k v) := by
      rw [show execOp a.eval ⟨none, .insert T xo ko yo, ty, pos, aft, g⟩ = (do Instr.mapUpdate T (a.eval xo) (a.eval ko) (a.eval yo); pure .skip) from rfl, hv, h2]
      rcases hE.find (P := C.P) hT.2 hkk hks with ⟨k1, k2, k3⟩ | ⟨j, x, e, k2, k3, k4, k5, k6, k7, k8⟩
      · refine ⟨ents.push { key := k, val := a.eval yo, born := clock }, clock + 1, ?_, fun w' hm => ?_⟩
        · simp only [Instr.mapUpdate, Sem.run_bind, run_underlying hT.1, Result.andThen_ok, MapKept.run_getObj_map hb, MapKept.run_checkKey hT.2 (isKey_spec hkk), k2, MapKept.run_setObj_map _ hb, Sem.run_pure, pure_bind]
          rfl
        · rw [k3]
          refine ⟨by simp [hE.1], fun q p hp => ?_⟩
          rw [List.getElem?_append] at hp
          split at hp
          · rename_i hlt
            obtain ⟨e, he, hke, hr⟩ := hE.2 q p hp
            exact ⟨e, by rw [Array.getElem?_push, if_neg (by rw [hE.1]; omega)]; exact he, hke, hm _ _ hr⟩
          · rename_i hlt
            match hq : q - es.length, hp with
            | 0, hp =>
              simp at hp
              subst hp
              have : q = ents.size := by rw [hE.1]; omega
              exact ⟨_, by rw [Array.getElem?_push, if_pos this], rfl, hm _ _ h3⟩
            | m + 1, hp => simp at hp
      · refine ⟨ents.modify j fun e => { e with key := k, val := a.eval yo }, clock, ?_, fun w' hm => ?_⟩
        · simp only [Instr.mapUpdate, Sem.run_bind, run_underlying hT.1, Result.andThen_ok, MapKept.run_getObj_map hb, MapKept.run_checkKey hT.2 (isKey_spec hkk), k2, k3, Option.map_some, Option.getD_some, k4, MapKept.run_keyThatStays (isKey_spec hkk), MapKept.run_setObj_map _ hb, Sem.run_pure, pure_bind]
          rfl
        · rw [k8]
          refine ⟨by simp [hE.1], fun q p hp => ?_⟩
          rw [List.getElem?_set] at hp
          rw [Array.getElem?_modify]
          split at hp
          · rename_i hjq
            subst hjq
            split at hp
            · obtain rfl := Option.some.inj hp
              exact ⟨{ e with key := k, val := a.eval yo }, by simp [k3], rfl, hm _ _ h3⟩
            · cases hp
          · rename_i hjq
            obtain ⟨e', he', hke, hr⟩ := hE.2 q p hp
            exact ⟨e', by rw [if_neg hjq]; exact he', hke, hm _ _ hr⟩
    obtain ⟨ents', clock', m1, m2⟩ := main
    have hlt := (Array.getElem?_eq_some_iff.1 hb).1
    have hst : Step (· = b) w (World.setObj' w b (.map ents' clock')) := by
      refine ⟨rfl, rfl, rfl, by simp [World.setObj'], fun c _ hc => ?_, fun c q hq => ?_⟩
      · simp only [World.setObj', Array.getElem?_setIfInBounds]; rw [if_neg (fun e => hc e.symm)]
      · unfold World.shape? at *
        by_cases e : c = b
        · subst e; rw [hb] at hq; cases hq
        · simp only [World.setObj', Array.getElem?_setIfInBounds]; rw [if_neg (fun e' => e e'.symm)]; exact hq
    unfold Oper.wp
    rw [m1, Oper.upon_skip]
    refine hK _ _ _ rfl ⟨F, hs.write hi hst ⟨ents', clock', by simp [World.setObj', hlt], m2 _ (fun u d hr => hr.mono (fun c hc => hst.block c (hs.lt c hc).1 (fun e => hbF (e ▸ hc))) hst.shape (fun _ h => h))⟩⟩
end
end Go.GH
namespace Go.GH
open Go
variable {C : Ctx} {ops : Array Oper} {st : St} {rest : List Oper} {R : St → Prop} {t : Tmp} {ty : TypeId} {pos : String} {aft : Array Edge} {g : Option (Nat × Bool)}

theorem SOps.shr8 {T T2 : TypeId} {xo yo : Operand} {s : Nat} (hx : st.val xo = some (.v (.int .i64 (s : Int)))) (hy : st.val yo = some (.v (.int .u64 8))) (hs : s < 9223372036854775808)
    (hrest : SOps C ops rest (st.put t (.v (.int .i64 ((s >>> 8 : Nat) : Int)))) R)
    (hg : st.wants ops g = some true := by rfl) (ht : Nat.blt t st.n = true := by rfl) : SOps C ops (⟨some t, .binOp .shr T xo yo T2, ty, pos, aft, g⟩ :: rest) st R := by
  have e : ((s : Int)).fdiv (2 ^ min ((8 : Int)).toNat IntKind.i64.bits) = ((s >>> 8 : Nat) : Int) := by
    rw [show (2 : Int) ^ min ((8 : Int)).toNat IntKind.i64.bits = ((2 ^ 8 : Nat) : Int) from by decide, Int.fdiv_eq_ediv_of_nonneg _ (Int.natCast_nonneg _), Nat.shiftRight_eq_div_pow]
    exact (Int.natCast_ediv _ _).symm
  refine SOps.shrI hx hy (by decide) ?_ ?_ hg ht
  · rw [e]
    have : s >>> 8 ≤ s := by rw [Nat.shiftRight_eq_div_pow]; exact Nat.div_le_self ..
    exact has_i64 (by omega) (by omega)
  · rw [e]; exact hrest
theorem u8_wrap_nat (n : Nat) : IntKind.u8.wrap (n : Int) = (((UInt8.ofNat n).toNat : Nat) : Int) := by
  simp [IntKind.wrap, IntKind.bits, IntKind.signed]
theorem SOps.lowByte {src dst : TypeId} {xo : Operand} {k : IntKind} {n : Nat} (hx : st.val xo = some (.v (.int k (n : Int)))) (hs' : (C.P.underlying src).isSome = true) (hT : intB C.P dst .u8 = true) (hrest : SOps C ops rest (st.put t (.v (.int .u8 (((UInt8.ofNat n).toNat : Nat) : Int)))) R)
    (hg : st.wants ops g = some true := by rfl) (ht : Nat.blt t st.n = true := by rfl) : SOps C ops (⟨some t, .convert src dst xo, ty, pos, aft, g⟩ :: rest) st R :=
  SOps.convInt hx hs' hT (by rw [u8_wrap_nat]; exact hrest) hg ht
end Go.GH
namespace Go.GH
open Go

def pairV (p : Nat × Nat) : Value := .agg #[.int .u8 (p.1 : Int), .int .u8 (p.2 : Int)]
abbrev pairD (p : Nat × Nat) : DV := .agg [.v (.int .u8 (p.1 : Int)), .v (.int .u8 (p.2 : Int))]
def setE (ks : List (Nat × Nat)) : List (Value × DV) := ks.map (fun p => (pairV p, DV.v (.bool true)))
def SmP (p : Nat × Nat) : Prop := p.1 < 256 ∧ p.2 < 256
structure pairB (P : Program) (T K V : Nat) : Prop where
  map : P.underlying T = some (.map K V)
  law : WideMaps.KeyLaw P K
  key : ∀ p, SmP p → ∃ l, keyOf P K (pairV p) = some l
theorem u8_wf {n : Nat} (h : n < 256) : (Lit.int .u8 (n : Int)).wf = true := by
  simp [Lit.wf, IntKind.min, IntKind.max, IntKind.signed, IntKind.bits]
  omega
theorem pairB.of {P : Program} {T K V e k : Nat} (hm : P.underlying T = some (.map K V)) (hK : P.underlying K = some (.array 2 e)) (he : P.underlying e = some (.int .u8)) (hcK : P.cellsOf K = 2) (hce : P.cellsOf e = 1) (hk : P.keyType K = true)
    (h2 : P.keyTypeAt 2 K = true) (ht : P.tiled 2 K = true) (hs : P.types.size = k + 1) : pairB P T K V where
  map := hm
  law := deep_law (m := 2) (by decide) h2 ht (by rw [hK])
  key := fun p hp => by
    have h1 : P.keyLits (k + 1) e [.int .u8 (p.1 : Int)] = some [.int .u8 (p.1 : Int)] := by
      unfold Program.keyLits; simp only [he]; rw [if_pos ⟨trivial, u8_wf hp.1⟩]
    have h2 : P.keyLits (k + 1) e [.int .u8 (p.2 : Int)] = some [.int .u8 (p.2 : Int)] := by
      unfold Program.keyLits; simp only [he]; rw [if_pos ⟨trivial, u8_wf hp.2⟩]
    have h3 : P.keyLits (P.types.size + 1) K (pairV p).cells.toList = some [.int .u8 (p.1 : Int), .int .u8 (p.2 : Int)] := by
      rw [hs]
      unfold Program.keyLits
      simp only [hK, pairV, Value.cells, hcK, hce]
      rw [if_pos (by simp)]
      simp [List.range_succ, h1, h2]
    refine ⟨.string (keyBytes [.int .u8 (p.1 : Int), .int .u8 (p.2 : Int)]), ?_⟩
    unfold keyOf
    simp only [hK]
    rw [if_pos (by simp [hk, Value.formed, pairV, hK, hcK]), h3]
    rfl
theorem rep_pair {w : World} {F : Nat → Prop} {v : Value} {p : Nat × Nat} (h : Rep w F v (pairD p)) : v = pairV p := by
  cases h with
  | @agg us ds hl hr =>
    have hs : us.size = 2 := hl
    obtain ⟨l⟩ := us
    match l, hs with
    | [x, y], _ =>
      have h1 := (hr 0 x _ rfl rfl).inv_v.1
      have h2 := (hr 1 y _ rfl rfl).inv_v.1
      rw [h1, h2]; rfl
theorem pairV_inj {p q : Nat × Nat} (h : pairV p = pairV q) : p = q := by
  simp only [pairV, Value.agg.injEq, Array.mk.injEq, List.cons.injEq, Value.int.injEq, and_true, true_and] at h
  obtain ⟨a, b⟩ := p
  obtain ⟨c, d⟩ := q
  simp only [Prod.mk.injEq] at *
  omega
theorem setE_at {ks : List (Nat × Nat)} {i : Nat} {p : Nat × Nat} (h : ks[i]? = some p) : (setE ks)[i]? = some (pairV p, .v (.bool true)) := by
  rw [setE, List.getElem?_map, h]; rfl
theorem set_find {P : Program} {w : World} {F : Nat → Prop} {T K V : Nat} (hT : pairB P T K V) {ents : Array MapEntry} {ks : List (Nat × Nat)} (hE : EntsRep w F ents (setE ks)) (hks : ∀ q ∈ ks, SmP q) {p : Nat × Nat} (hp : SmP p) :
    (p ∉ ks ∧ (Instr.findKey K (pairV p) ents.toList).run P w = .ok none w) ∨ (p ∈ ks ∧ ∃ j, (Instr.findKey K (pairV p) ents.toList).run P w = .ok (some (j, .bool true)) w) := by
  obtain ⟨l, hl⟩ := hT.key p hp
  have hlen : ents.size = ks.length := by rw [hE.1, setE, List.length_map]
  have hall : ∀ (j : Nat) e, ents[j]? = some e → ∃ q, ks[j]? = some q ∧ e.key = pairV q ∧ e.val = .bool true := fun j e he => by
    have hj : j < ks.length := by rw [← hlen]; exact (Array.getElem?_eq_some_iff.1 he).1
    obtain ⟨e', h1, h2, h3⟩ := hE.2 j _ (setE_at (List.getElem?_eq_getElem hj))
    rw [he] at h1
    obtain rfl := Option.some.inj h1
    exact ⟨ks[j], List.getElem?_eq_getElem hj, h2, h3.inv_v.1⟩
  rcases hT.law.find w hl ents.toList (fun e he => by
    obtain ⟨j, hj⟩ := List.mem_iff_getElem?.1 he
    obtain ⟨q, h1, h2, _⟩ := hall j e (by simpa using hj)
    rw [h2]
    exact hT.key q (hks q (List.mem_of_getElem? h1))) with ⟨h1, h2⟩ | ⟨j, e, h1, h2, h3⟩
  · refine .inl ⟨fun hm => ?_, h1⟩
    obtain ⟨i, hi⟩ := List.mem_iff_getElem?.1 hm
    obtain ⟨e', g1, g2, _⟩ := hE.2 i _ (setE_at hi)
    exact h2 e' (by rw [Array.mem_toList_iff]; exact Array.mem_of_getElem? g1) g2
  · obtain ⟨q, g1, g2, g3⟩ := hall j e (by simpa using h2)
    rw [g2] at h3
    obtain rfl := pairV_inj h3
    exact .inr ⟨List.mem_of_getElem? g1, j, by rw [g3] at h1; exact h1⟩

variable {C : Ctx} {ops : Array Oper} {st : St} {rest : List Oper} {R : St → Prop} {t : Tmp} {ty : TypeId} {pos : String} {aft : Array Edge} {g : Option (Nat × Bool)}

theorem SOps.lookupPair (i : Nat) {T K V b : Nat} {xo ko : Operand} {ks : List (Nat × Nat)} {p : Nat × Nat} (hx : st.val xo = some (.mp b)) (hi : st.heap[i]? = some (b, .map (setE ks))) (hk : st.val ko = some (pairD p)) (hT : pairB C.P T K V) (hz : zeroIs C.P V (.bool false)) (hks : ∀ q ∈ ks, SmP q) (hp : SmP p)
    (hrest : SOps C ops rest (st.put t (.v (.bool (decide (p ∈ ks))))) R)
    (hg : st.wants ops g = some true := by rfl) (ht : Nat.blt t st.n = true := by rfl) : SOps C ops (⟨some t, .lookup T xo ko false, ty, pos, aft, g⟩ :: rest) st R :=
  SOps.val rfl hg ht (fun base a w F hs => by
    have h1 := hs.val hx
    have h2 := rep_pair (hs.val hk)
    generalize hv : a.eval xo = v at h1
    cases h1 with
    | mp =>
      obtain ⟨ents, clock, hb, hE⟩ := (hs.heap _ (List.mem_of_getElem? hi)).2.2
      simp only at hb
      obtain ⟨l, hl⟩ := hT.key p hp
      rcases set_find hT (show EntsRep w F ents (setE ks) from hE) hks hp with ⟨m, h3⟩ | ⟨m, j, h3⟩
      · refine ⟨.bool false, ?_, by rw [decide_eq_false m]; exact .v trivial⟩
        simp only [execOp, hv, h2, Instr.lookup, Sem.run_bind, run_underlying hT.map, Result.andThen_ok, MapKept.run_getObj_map hb, Sem.run_pure, hT.law.check w _ hl, h3, run_zeroValue hz, pure_bind]
        rfl
      · refine ⟨.bool true, ?_, by rw [decide_eq_true m]; exact .v trivial⟩
        simp only [execOp, hv, h2, Instr.lookup, Sem.run_bind, run_underlying hT.map, Result.andThen_ok, MapKept.run_getObj_map hb, Sem.run_pure, hT.law.check w _ hl, h3, pure_bind]
        rfl) hrest
theorem run_setNew {P : Program} {w : World} {F : Nat → Prop} {T K V b : Nat} (hT : pairB P T K V) {ents : Array MapEntry} {clock : Nat} (hb : w.heap[b]? = some (.map ents clock)) {ks : List (Nat × Nat)} (hE : EntsRep w F ents (setE ks)) (hks : ∀ q ∈ ks, SmP q) {p : Nat × Nat} (hp : SmP p) (hn : p ∉ ks) :
    ∃ ents' clock', (Instr.mapUpdate T (.map (some b)) (pairV p) (.bool true)).run P w = .ok () (World.setObj' w b (.map ents' clock')) ∧ ∀ w', (∀ u d, Rep w F u d → Rep w' F u d) → EntsRep w' F ents' (setE (ks ++ [p])) := by
  obtain ⟨l, hl⟩ := hT.key p hp
  rcases set_find hT hE hks hp with ⟨m, h3⟩ | ⟨m, _⟩
  · refine ⟨ents.push { key := pairV p, val := .bool true, born := clock }, clock + 1, ?_, fun w' hm => ?_⟩
    · simp only [Instr.mapUpdate, Sem.run_bind, run_underlying hT.map, Result.andThen_ok, MapKept.run_getObj_map hb, hT.law.check w _ hl, h3, MapKept.run_setObj_map _ hb, Sem.run_pure, pure_bind]
      rfl
    · have hlen : ents.size = (setE ks).length := hE.1
      rw [show setE (ks ++ [p]) = setE ks ++ [(pairV p, DV.v (.bool true))] from by simp [setE]]
      refine ⟨by simp [hlen], fun q x hq => ?_⟩
      rw [List.getElem?_append] at hq
      split at hq
      · rename_i hlt
        obtain ⟨e, he, hke, hr⟩ := hE.2 q x hq
        exact ⟨e, by rw [Array.getElem?_push, if_neg (by rw [hlen]; omega)]; exact he, hke, hm _ _ hr⟩
      · rename_i hlt
        match hqq : q - (setE ks).length, hq with
        | 0, hq =>
          simp at hq
          subst hq
          have : q = ents.size := by rw [hlen]; omega
          exact ⟨_, by rw [Array.getElem?_push, if_pos this], rfl, .v (x := .bool true) trivial⟩
        | m + 1, hq => simp at hq
  · exact absurd m hn
theorem set_write {base : Base} {a : Act} {w : World} {F : Nat → Prop} (hs : SimF C.E base F st a w) {i b : Nat} {ks : List (Nat × Nat)} (hi : st.heap[i]? = some (b, .map (setE ks))) {T K V : Nat} (hT : pairB C.P T K V) (hks : ∀ q ∈ ks, SmP q) {p : Nat × Nat} (hp : SmP p) (hn : p ∉ ks) :
    ∃ w', (Instr.mapUpdate T (.map (some b)) (pairV p) (.bool true)).run C.P w = .ok () w' ∧ SimF C.E base F ⟨st.n, st.slots, st.heap.set i (b, .map (setE (ks ++ [p])))⟩ a w' := by
  obtain ⟨kk1, hbF, ents, clock, hb, hE⟩ := hs.heap _ (List.mem_of_getElem? hi)
  have hE : EntsRep w F ents (setE ks) := hE
  simp only at hb
  obtain ⟨ents', clock', m1, m2⟩ := run_setNew hT hb hE hks hp hn
  have hlt := (Array.getElem?_eq_some_iff.1 hb).1
  have hst : Step (· = b) w (World.setObj' w b (.map ents' clock')) := by
    refine ⟨rfl, rfl, rfl, by simp [World.setObj'], fun c _ hc => ?_, fun c q hq => ?_⟩
    · simp only [World.setObj', Array.getElem?_setIfInBounds]; rw [if_neg (fun e => hc e.symm)]
    · unfold World.shape? at *
      by_cases e : c = b
      · subst e; rw [hb] at hq; cases hq
      · simp only [World.setObj', Array.getElem?_setIfInBounds]; rw [if_neg (fun e' => e e'.symm)]; exact hq
  exact ⟨_, m1, hs.write hi hst ⟨ents', clock', by simp [World.setObj', hlt], m2 _ (fun u d hr => hr.mono (fun c hc => hst.block c (hs.lt c hc).1 (fun e => hbF (e ▸ hc))) hst.shape (fun _ h => h))⟩⟩
theorem SOps.insertPair (i : Nat) {T K V b : Nat} {xo ko yo : Operand} {ks : List (Nat × Nat)} {p : Nat × Nat} (hx : st.val xo = some (.mp b)) (hi : st.heap[i]? = some (b, .map (setE ks))) (hk : st.val ko = some (pairD p)) (hy : st.val yo = some (.v (.bool true))) (hT : pairB C.P T K V) (hks : ∀ q ∈ ks, SmP q) (hp : SmP p) (hn : p ∉ ks)
    (hrest : SOps C ops rest ⟨st.n, st.slots, st.heap.set i (b, .map (setE (ks ++ [p])))⟩ R)
    (hg : st.wants ops g = some true := by rfl) : SOps C ops (⟨none, .insert T xo ko yo, ty, pos, aft, g⟩ :: rest) st R := by
  refine SOps.op (R1 := (· = ⟨st.n, st.slots, st.heap.set i (b, .map (setE (ks ++ [p])))⟩)) hg ?_ (fun st' e => e ▸ hrest)
  intro base ok a w F hs K' Q hK
  have h1 := hs.val hx
  have h2 := rep_pair (hs.val hk)
  have h3 := (hs.val hy).inv_v.1
  generalize hv : a.eval xo = x at h1
  cases h1 with
  | mp =>
    obtain ⟨w', m1, m2⟩ := set_write hs hi hT hks hp hn
    unfold Oper.wp
    rw [show (execOp a.eval ⟨none, .insert T xo ko yo, ty, pos, aft, g⟩).run C.P w = .ok .skip w' from by
      rw [show execOp a.eval ⟨none, .insert T xo ko yo, ty, pos, aft, g⟩ = (do Instr.mapUpdate T (a.eval xo) (a.eval ko) (a.eval yo); pure .skip) from rfl, hv, h2, h3]
      simp only [Sem.run_bind, m1, Result.andThen_ok, Sem.run_pure], Oper.upon_skip]
    exact hK _ _ _ rfl ⟨F, m2⟩
theorem SOps.updatePair (i : Nat) {T K V b : Nat} {xo ko yo : Operand} {ks : List (Nat × Nat)} {p : Nat × Nat} (hx : st.val xo = some (.mp b)) (hi : st.heap[i]? = some (b, .map (setE ks))) (hk : st.val ko = some (pairD p)) (hy : st.val yo = some (.v (.bool true))) (hT : pairB C.P T K V) (hks : ∀ q ∈ ks, SmP q) (hp : SmP p) (hn : p ∉ ks)
    (hrest : SOps C ops rest ⟨st.n, st.slots, st.heap.set i (b, .map (setE (ks ++ [p])))⟩ R)
    (hg : st.wants ops g = some true := by rfl) : SOps C ops (⟨none, .mapUpdate T xo ko yo, ty, pos, aft, g⟩ :: rest) st R := by
  refine SOps.op (R1 := (· = ⟨st.n, st.slots, st.heap.set i (b, .map (setE (ks ++ [p])))⟩)) hg ?_ (fun st' e => e ▸ hrest)
  intro base ok a w F hs K' Q hK
  have h1 := hs.val hx
  have h2 := rep_pair (hs.val hk)
  have h3 := (hs.val hy).inv_v.1
  generalize hv : a.eval xo = x at h1
  cases h1 with
  | mp =>
    obtain ⟨w', m1, m2⟩ := set_write hs hi hT hks hp hn
    unfold Oper.wp
    rw [show (execOp a.eval ⟨none, .mapUpdate T xo ko yo, ty, pos, aft, g⟩).run C.P w = .ok .skip w' from by
      rw [show execOp a.eval ⟨none, .mapUpdate T xo ko yo, ty, pos, aft, g⟩ = (do Instr.mapUpdate T (a.eval xo) (a.eval ko) (a.eval yo); pure .skip) from rfl, hv, h2, h3]
      simp only [Sem.run_bind, m1, Result.andThen_ok, Sem.run_pure], Oper.upon_skip]
    exact hK _ _ _ rfl ⟨F, m2⟩
end Go.GH
namespace Go.GH
open Go
variable {α : Type} {C : Ctx} {ops : Array Oper} {st : St} {rest : List Oper} {R : St → Prop} {t : Tmp} {ty : TypeId} {pos : String} {aft : Array Edge} {g : Option (Nat × Bool)}

theorem SOps.loadF (i k j : Nat) {T b o elem sz : Nat} {xo : Operand} {f : α → List DV} {xs : List α} {d : DV} (hx : st.val xo = some (.ref b o)) (hT : flatB C.P T = true)
    (hi : st.heap[i]? = some (b, .row elem sz (xs.map f))) (ho : o = k * sz + j) (hk : k < xs.length) (hd : (f (xs[k]))[j]? = some d) (hrest : SOps C ops rest (st.put t d) R)
    (hg : st.wants ops g = some true := by rfl) (ht : Nat.blt t st.n = true := by rfl) : SOps C ops (⟨some t, .load T xo, ty, pos, aft, g⟩ :: rest) st R :=
  SOps.loadRef i k j hx hT hi ho (by rw [List.getElem?_map, List.getElem?_eq_getElem hk]; rfl) hd hrest hg ht
theorem SOps.buildArrM {T n e sz : TypeId} {z : Value} {parts : Array (Nat × Operand)} {qs : List (Nat × Nat × DV)} {ds : List DV} (hT : arrayB C.P T n e sz = true) (hz : zeroIs C.P T z) (hq : st.parts ((List.range n).map (fun i => (i * sz, sz))) parts.toList = some qs)
    (hf : dfill (z.cells.toList.map DV.v) qs = some ds) (hrest : SOps C ops rest (st.put t (.agg ds)) R) (h1 : qs.all (fun q => (ecells q.2.2).all DV.one) = true := by rfl) (hb : zcellsB z = true := by rfl)
    (hg : st.wants ops g = some true := by rfl) (ht : Nat.blt t st.n = true := by rfl) : SOps C ops (⟨some t, .build T parts, ty, pos, aft, g⟩ :: rest) st R :=
  SOps.buildArr hT hz hq hf (fun q hq c hc => List.all_eq_true.1 (List.all_eq_true.1 h1 q hq) c hc) hrest hb hg ht
end Go.GH
namespace Go.GH
open Go

def inlB (n : Nat) (ss : List (Nat ⊕ Nat)) : Bool := ss.all (fun x => match x with | .inl j => Nat.blt j n | .inr _ => true)
inductive NeedIs (D s : List (Nat × DV)) : List (Nat ⊕ Nat) → List (Nat × DV) → Prop
  | nil : NeedIs D s [] []
  | inl {j : Nat} {ss : List (Nat ⊕ Nat)} {nd : List (Nat × DV)} (k t : Nat) (d : DV) (hk : k + j + 1 = D.length) (h : D[k]? = some (t, d)) (r : NeedIs D s ss nd) : NeedIs D s (.inl j :: ss) ((t, d) :: nd)
  | inr {t : Nat} {ss : List (Nat ⊕ Nat)} {nd : List (Nat × DV)} (d : DV) (h : getL s t = some d) (k : NeedIs D s ss nd) : NeedIs D s (.inr t :: ss) ((t, d) :: nd)
theorem NeedIs.eq {D s : List (Nat × DV)} : ∀ {ss : List (Nat ⊕ Nat)} {nd : List (Nat × DV)}, NeedIs D s ss nd → needOf D.reverse s ss = nd
  | _, _, .nil => rfl
  | _, _, .inl (j := j) k t d hk h r => by
    have e : D.reverse[j]? = some (t, d) := by rw [List.getElem?_reverse (by omega), show D.length - 1 - j = k by omega, h]
    simp only [needOf, e, r.eq]
  | _, _, .inr d h k => by simp only [needOf, h, k.eq]
inductive DOk (C : Ctx) (ops : Array Oper) (n : Nat) (H : DHeap) (s : List (Nat × DV)) : List (Nat × DV) → List Oper → List (List (Nat ⊕ Nat)) → List (Nat × DV) → Prop
  | nil {D : List (Nat × DV)} : DOk C ops n H s D [] [] []
  | cons {D E nd : List (Nat × DV)} {o : Oper} {os : List Oper} {ss : List (Nat ⊕ Nat)} {sss : List (List (Nat ⊕ Nat))} (t : Nat) (d : DV) (hj : inlB D.length ss = true) (hn : NeedIs D s ss nd)
      (h : ∀ rest, SOps C ops [o] ⟨n, nd ++ rest, H⟩ (fun st' => st' = ⟨n, (t, d) :: (nd ++ rest), H⟩)) (k : DOk C ops n H s ((t, d) :: D) os sss E) :
      DOk C ops n H s D (o :: os) (ss :: sss) ((t, d) :: E)
theorem needOf_more {D E s : List (Nat × DV)} : ∀ {ss : List (Nat ⊕ Nat)}, inlB D.length ss = true → needOf (D ++ E) s ss = needOf D s ss
  | [], _ => rfl
  | .inl j :: r, h => by
    simp only [inlB, List.all_cons, Bool.and_eq_true] at h
    have hj := Nat.le_of_ble_eq_true h.1
    simp only [needOf, List.getElem?_append_left (show j < D.length from hj), needOf_more (E := E) (s := s) (ss := r) h.2]
  | .inr t :: r, h => by
    simp only [inlB, List.all_cons, Bool.and_eq_true] at h
    simp only [needOf, needOf_more (E := E) (s := s) (ss := r) h.2]
theorem DOk.ops {C : Ctx} {ops : Array Oper} {n : Nat} {H : DHeap} {s : List (Nat × DV)} : ∀ {D E : List (Nat × DV)} {os : List Oper} {sss : List (List (Nat ⊕ Nat))}, DOk C ops n H s D os sss E → OpsOk C ops n H os (sss.map (needOf (D.reverse ++ E) s)) E
  | _, _, _, _, .nil => OpsOk.nil
  | D, _, _, _, .cons (E := E) t d hj hn h k => by
    rw [List.map_cons, needOf_more (by rw [List.length_reverse]; exact hj), hn.eq]
    have e : D.reverse ++ (t, d) :: E = ((t, d) :: D).reverse ++ E := by simp
    rw [e]
    exact OpsOk.cons h k.ops
theorem SCode.drawAuto {C : Ctx} {id : Nat} {l : List Oper} {n : Nat} {s : List (Nat × DV)} {H : DHeap} {Q : Exit → St → Prop} {E : List (Nat × DV)} (hm : C.P.follows .mixedOrders = true) (ts : List Nat) (srcs : List (List (Nat ⊕ Nat)))
    (hB : drawB l ts srcs = true) (hd : distB ts = true) (hops : DOk C l.toArray n H s [] l srcs E) (hts : E.map (·.1) = ts) (hQ : Q .normal ⟨n, E ++ s, H⟩) : SCode C (.region id l.toArray true) ⟨n, s, H⟩ Q :=
  SCode.drawPure hm E ts srcs _ hts hB hd rfl hops.ops hQ
end Go.GH
namespace Go.GH
open Go

theorem GCall.clean {P : Program} {E : Env} {f : FuncId} {ds : List DV} {R : DV → DHeap → Prop} {R' : DV → Prop} (h : GCall P E f ds [] R) (hc : ∀ d H, R d H → ∃ d', (∀ (w : World) (F : Nat → Prop) (v : Value), Rep w F v d → Rep w F v d') ∧ R' d') : GCall P E f ds [] (fun d H => R' d ∧ H = []) :=
  ⟨h.1, fun w F vs hE hF hl hr h1 h2 => (h.2 w F vs hE hF hl hr h1 h2).mono (fun e w' ⟨u, d, H', F', e1, e2, e3, e4, e5, e6, e7, e8⟩ => by
    obtain ⟨d', k1, k2⟩ := hc d H' e2
    exact ⟨u, d', [], F', e1, ⟨k2, rfl⟩, e3, e4, k1 _ _ _ e5, (fun p hp => by cases hp), List.nodup_nil, e8⟩)⟩
theorem rep_tup0 {w : World} {F : Nat → Prop} {v : Value} {d d' : DV} {ds : List DV} (hd : ∀ (w : World) (F : Nat → Prop) (v : Value), Rep w F v d → Rep w F v d') (h : Rep w F v (.tup (d :: ds))) : Rep w F v (.tup (d' :: ds)) := by
  cases h with
  | tup hl hr =>
    refine .tup (by simpa using hl) (fun j x e hj he => ?_)
    cases j with
    | zero => simp only [List.getElem?_cons_zero, Option.some.injEq] at he; subst he; exact hd _ _ _ (hr 0 x d hj rfl)
    | succ j => exact hr (j + 1) x e hj (by simpa using he)
end Go.GH
