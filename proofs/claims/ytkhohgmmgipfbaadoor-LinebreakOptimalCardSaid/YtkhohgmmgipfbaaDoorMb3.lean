/-
  Part 3 of the texts behind the walks of this claim: an own layer over the kit's wp, plain laws, and walks. No conditions.
-/
import Derived.Test.YtkhohgmmgipfbaaDoorMb2
import Derived.KernelRfl
set_option linter.unusedVariables false
set_option linter.unusedSimpArgs false
set_option linter.deprecated false
namespace Go.GH
open Go Go.Proofs
variable {E : Env}
theorem sCost (hV : VS E) (l : List Ln) (w p : Int) (hk : ∀ x ∈ l, LnOK x) : GCall Tryd.prog E 34 [DLns l, .v (.int .i64 w), .v (.int .i64 p)] [] (fun d H => d = tupC (costL l w p) ∧ H = []) := by
  refine GCall.body (C := ⟨Tryd.prog, E, true⟩) Tryd.func34 rfl (fun _ => rfl) (by kernel_rfl) rfl ?_
  refine SCode.seqR ?_
  refine SOps.assign rfl ?_
  refine SOps.assign rfl ?_
  refine SOps.nil ?_
  refine SCode.seq ?_
  refine SCode.seqR ?_
  refine SOps.move rfl ?_
  refine SOps.callP (wideW _) rfl ?_
  rintro _ rfl
  refine SOps.un rfl rfl ?_
  refine SOps.move rfl ?_
  refine SOps.caseB 17 rfl (fun hb1 => ?_) (fun hb1 => ?_)
  · try simp only [decide_eq_true_eq, decide_eq_false_iff_not, Bool.not_eq_true', Bool.not_eq_false', beq_iff_eq, bne_iff_ne, ne_eq, beq_eq_false_iff_ne, bne_eq_false_iff_eq, Int.not_lt, Int.not_le, Nat.not_lt, Nat.not_le, Int.ofNat_lt, Int.ofNat_le, Bool.not_eq_eq_eq_not, Bool.not_true, Bool.not_false] at hb1
    refine SOps.skip rfl ?_
    refine SOps.skip rfl ?_
    refine SOps.pick rfl rfl ?_
    refine SOps.move rfl ?_
    refine SOps.skip rfl ?_
    refine SOps.skip rfl ?_
    refine SOps.pick rfl rfl ?_
    refine SOps.move rfl ?_
    refine SOps.skip rfl ?_
    refine SOps.skip rfl ?_
    refine SOps.skip rfl ?_
    refine SOps.pick rfl rfl ?_
    refine SOps.nil ?_
    refine SCode.cond rfl (fun _ => ?_) (fun h => by cases h)
    refine SCode.seqR ?_
    refine SOps.assign rfl ?_
    refine SOps.assign rfl ?_
    refine SOps.nil ?_
    refine SCode.ret ?_
    exact ⟨_, Res.two (.tmp rfl) (.tmp rfl), (by first | (rw [show costL l w p = (0, 1) from by first | exact cost_bad (costBad_0 (by first | (left; assumption) | omega)) | exact cost_bad (costBad_4 (bads_at hkl (by first | exact badLn_1 (by omega) | exact badLn_2 (by assumption) (by omega) | exact badLn_3 (by assumption))))]; rfl) | (rw [cost_tight hcb (tight_at hkl (by omega))]; rfl) | (rw [cost_ok hcb (tight_none (all_of (by omega) hg)), sumL, show l.length = k by omega]; rfl)), rfl⟩
  · try simp only [decide_eq_true_eq, decide_eq_false_iff_not, Bool.not_eq_true', Bool.not_eq_false', beq_iff_eq, bne_iff_ne, ne_eq, beq_eq_false_iff_ne, bne_eq_false_iff_eq, Int.not_lt, Int.not_le, Nat.not_lt, Nat.not_le, Int.ofNat_lt, Int.ofNat_le, Bool.not_eq_eq_eq_not, Bool.not_true, Bool.not_false] at hb1
    refine SOps.move rfl ?_
    refine SOps.bin rfl rfl rfl ?_
    refine SOps.pick rfl rfl ?_
    refine SOps.move rfl ?_
    refine SOps.caseB 21 rfl (fun hb2 => ?_) (fun hb2 => ?_)
    · try simp only [decide_eq_true_eq, decide_eq_false_iff_not, Bool.not_eq_true', Bool.not_eq_false', beq_iff_eq, bne_iff_ne, ne_eq, beq_eq_false_iff_ne, bne_eq_false_iff_eq, Int.not_lt, Int.not_le, Nat.not_lt, Nat.not_le, Int.ofNat_lt, Int.ofNat_le, Bool.not_eq_eq_eq_not, Bool.not_true, Bool.not_false] at hb2
      refine SOps.skip rfl ?_
      refine SOps.skip rfl ?_
      refine SOps.pick rfl rfl ?_
      refine SOps.move rfl ?_
      refine SOps.skip rfl ?_
      refine SOps.skip rfl ?_
      refine SOps.skip rfl ?_
      refine SOps.pick rfl rfl ?_
      refine SOps.nil ?_
      refine SCode.cond rfl (fun _ => ?_) (fun h => by cases h)
      refine SCode.seqR ?_
      refine SOps.assign rfl ?_
      refine SOps.assign rfl ?_
      refine SOps.nil ?_
      refine SCode.ret ?_
      exact ⟨_, Res.two (.tmp rfl) (.tmp rfl), (by first | (rw [show costL l w p = (0, 1) from by first | exact cost_bad (costBad_0 (by first | (left; assumption) | omega)) | exact cost_bad (costBad_4 (bads_at hkl (by first | exact badLn_1 (by omega) | exact badLn_2 (by assumption) (by omega) | exact badLn_3 (by assumption))))]; rfl) | (rw [cost_tight hcb (tight_at hkl (by omega))]; rfl) | (rw [cost_ok hcb (tight_none (all_of (by omega) hg)), sumL, show l.length = k by omega]; rfl)), rfl⟩
    · try simp only [decide_eq_true_eq, decide_eq_false_iff_not, Bool.not_eq_true', Bool.not_eq_false', beq_iff_eq, bne_iff_ne, ne_eq, beq_eq_false_iff_ne, bne_eq_false_iff_eq, Int.not_lt, Int.not_le, Nat.not_lt, Nat.not_le, Int.ofNat_lt, Int.ofNat_le, Bool.not_eq_eq_eq_not, Bool.not_true, Bool.not_false] at hb2
      refine SOps.move rfl ?_
      refine SOps.bin rfl rfl rfl ?_
      refine SOps.pick rfl rfl ?_
      refine SOps.move rfl ?_
      refine SOps.caseB 25 rfl (fun hb3 => ?_) (fun hb3 => ?_)
      · try simp only [decide_eq_true_eq, decide_eq_false_iff_not, Bool.not_eq_true', Bool.not_eq_false', beq_iff_eq, bne_iff_ne, ne_eq, beq_eq_false_iff_ne, bne_eq_false_iff_eq, Int.not_lt, Int.not_le, Nat.not_lt, Nat.not_le, Int.ofNat_lt, Int.ofNat_le, Bool.not_eq_eq_eq_not, Bool.not_true, Bool.not_false] at hb3
        refine SOps.skip rfl ?_
        refine SOps.skip rfl ?_
        refine SOps.skip rfl ?_
        refine SOps.pick rfl rfl ?_
        refine SOps.nil ?_
        refine SCode.cond rfl (fun _ => ?_) (fun h => by cases h)
        refine SCode.seqR ?_
        refine SOps.assign rfl ?_
        refine SOps.assign rfl ?_
        refine SOps.nil ?_
        refine SCode.ret ?_
        exact ⟨_, Res.two (.tmp rfl) (.tmp rfl), (by first | (rw [show costL l w p = (0, 1) from by first | exact cost_bad (costBad_0 (by first | (left; assumption) | omega)) | exact cost_bad (costBad_4 (bads_at hkl (by first | exact badLn_1 (by omega) | exact badLn_2 (by assumption) (by omega) | exact badLn_3 (by assumption))))]; rfl) | (rw [cost_tight hcb (tight_at hkl (by omega))]; rfl) | (rw [cost_ok hcb (tight_none (all_of (by omega) hg)), sumL, show l.length = k by omega]; rfl)), rfl⟩
      · try simp only [decide_eq_true_eq, decide_eq_false_iff_not, Bool.not_eq_true', Bool.not_eq_false', beq_iff_eq, bne_iff_ne, ne_eq, beq_eq_false_iff_ne, bne_eq_false_iff_eq, Int.not_lt, Int.not_le, Nat.not_lt, Nat.not_le, Int.ofNat_lt, Int.ofNat_le, Bool.not_eq_eq_eq_not, Bool.not_true, Bool.not_false] at hb3
        refine SOps.move rfl ?_
        refine SOps.lenM rfl sliceB_25_48_2 ?_
        refine SOps.bin rfl rfl rfl ?_
        refine SOps.pick rfl rfl ?_
        refine SOps.nil ?_
        refine SCode.cond rfl (fun hc4 => ?_) (fun hc4 => ?_)
        · try simp only [decide_eq_true_eq, decide_eq_false_iff_not, Bool.not_eq_true', Bool.not_eq_false', beq_iff_eq, bne_iff_ne, ne_eq, beq_eq_false_iff_ne, bne_eq_false_iff_eq, Int.not_lt, Int.not_le, Nat.not_lt, Nat.not_le, Int.ofNat_lt, Int.ofNat_le, Bool.not_eq_eq_eq_not, Bool.not_true, Bool.not_false] at hc4
          refine SCode.seqR ?_
          refine SOps.assign rfl ?_
          refine SOps.assign rfl ?_
          refine SOps.nil ?_
          refine SCode.ret ?_
          exact ⟨_, Res.two (.tmp rfl) (.tmp rfl), (by first | (rw [show costL l w p = (0, 1) from by first | exact cost_bad (costBad_0 (by first | (left; assumption) | omega)) | exact cost_bad (costBad_4 (bads_at hkl (by first | exact badLn_1 (by omega) | exact badLn_2 (by assumption) (by omega) | exact badLn_3 (by assumption))))]; rfl) | (rw [cost_tight hcb (tight_at hkl (by omega))]; rfl) | (rw [cost_ok hcb (tight_none (all_of (by omega) hg)), sumL, show l.length = k by omega]; rfl)), rfl⟩
        · try simp only [decide_eq_true_eq, decide_eq_false_iff_not, Bool.not_eq_true', Bool.not_eq_false', beq_iff_eq, bne_iff_ne, ne_eq, beq_eq_false_iff_ne, bne_eq_false_iff_eq, Int.not_lt, Int.not_le, Nat.not_lt, Nat.not_le, Int.ofNat_lt, Int.ofNat_le, Bool.not_eq_eq_eq_not, Bool.not_true, Bool.not_false] at hc4
          refine SCode.skip ?_
          show SCode _ _ _ _
          refine SCode.seq ?_
          refine SCode.seqR ?_
          refine SOps.move rfl ?_
          refine SOps.lenM rfl sliceB_25_48_2 ?_
          refine SOps.move rfl ?_
          refine SOps.nil ?_
          refine SCode.block ?_
          refine SCode.loop1 (fun (k : Nat) => (⟨89, [(0, DLns l), (1, .v (.int .i64 w)), (2, .v (.int .i64 p)), (30, DLns l), (31, .v (.int .i64 (l.length : Int))), (32, .v (.int .i64 (k : Int)))], []⟩ : St)) (fun (k : Nat) => k ≤ l.length ∧ ∀ j, j < k → badLn l.length j (lnAt l j) = false) (fun (k : Nat) => l.length - k) (0) (by exact ⟨Nat.zero_le _, fun j hj => absurd hj (Nat.not_lt_zero _)⟩) (St.Le.of ⟨(by first | rfl | (show some _ = some _; simp)), (by first | rfl | (show some _ = some _; simp)), (by first | rfl | (show some _ = some _; simp)), (by first | rfl | (show some _ = some _; simp)), (by first | rfl | (show some _ = some _; simp)), (by first | rfl | (show some _ = some _; simp)), trivial⟩ rfl (by first | rfl | (simp))) ?_
          rintro k ⟨hkn, hf⟩
          refine SCode.seqR ?_
          refine SOps.bin rfl rfl rfl ?_
          refine SOps.nil ?_
          refine SCode.seq ?_
          refine SCode.cond rfl (fun hc5 => ?_) (fun hc5 => ?_)
          · try simp only [decide_eq_true_eq, decide_eq_false_iff_not, Bool.not_eq_true', Bool.not_eq_false', beq_iff_eq, bne_iff_ne, ne_eq, beq_eq_false_iff_ne, bne_eq_false_iff_eq, Int.not_lt, Int.not_le, Nat.not_lt, Nat.not_le, Int.ofNat_lt, Int.ofNat_le, Bool.not_eq_eq_eq_not, Bool.not_true, Bool.not_false] at hc5
            refine SCode.skip ?_
            show SCode _ _ _ _
            refine SCode.seq ?_
            refine SCode.block ?_
            refine SCode.seqR ?_
            refine SOps.move rfl ?_
            refine SOps.indexM (k) rfl rfl sliceB_25_48_2 (by first | omega | (simp only [lenB] <;> omega)) (by first | omega | (simp only [lenB] <;> omega)) ?_
            refine SOps.loadPinA rfl aggB_48_2 (Nat.le_of_ble_eq_true rfl) ?_
            refine SOps.alloc (sz := 2) zeroIs_48 (fun b0 hb_0 => ?_)
            refine SOps.assign rfl ?_
            refine SOps.storeAM 0 rfl rfl aggB_48_2 rfl ?_
            refine SOps.freezeRef (t := 9) 0 0 rfl rfl rfl rfl rfl ?_
            refine SOps.nil ?_
            refine SCode.seqR ?_
            have hkl : k < l.length := by omega
            have hkk := hk _ (List.getElem_mem hkl)
            refine SOps.fieldPin rfl fieldB_48_0_0 ?_
            refine SOps.loadPin rfl flatB_46 ?_
            refine SOps.lenM rfl sliceB_46_9_1 ?_
            refine SOps.bin rfl rfl rfl ?_
            refine SOps.move rfl ?_
            refine SOps.caseB 41 rfl (fun hb6 => ?_) (fun hb6 => ?_)
            · try simp only [decide_eq_true_eq, decide_eq_false_iff_not, Bool.not_eq_true', Bool.not_eq_false', beq_iff_eq, bne_iff_ne, ne_eq, beq_eq_false_iff_ne, bne_eq_false_iff_eq, Int.not_lt, Int.not_le, Nat.not_lt, Nat.not_le, Int.ofNat_lt, Int.ofNat_le, Bool.not_eq_eq_eq_not, Bool.not_true, Bool.not_false] at hb6
              refine SOps.skip rfl ?_
              refine SOps.skip rfl ?_
              refine SOps.skip rfl ?_
              refine SOps.skip rfl ?_
              refine SOps.skip rfl ?_
              refine SOps.skip rfl ?_
              refine SOps.skip rfl ?_
              refine SOps.skip rfl ?_
              refine SOps.skip rfl ?_
              refine SOps.pick rfl rfl ?_
              refine SOps.move rfl ?_
              refine SOps.skip rfl ?_
              refine SOps.skip rfl ?_
              refine SOps.skip rfl ?_
              refine SOps.pick rfl rfl ?_
              refine SOps.nil ?_
              refine SCode.cond rfl (fun _ => ?_) (fun h => by cases h)
              refine SCode.seqR ?_
              refine SOps.assign rfl ?_
              refine SOps.assign rfl ?_
              refine SOps.nil ?_
              refine SCode.ret ?_
              exact ⟨_, Res.two (.tmp rfl) (.tmp rfl), (by first | (rw [show costL l w p = (0, 1) from by first | exact cost_bad (costBad_0 (by first | (left; assumption) | omega)) | exact cost_bad (costBad_4 (bads_at hkl (by first | exact badLn_1 (by omega) | exact badLn_2 (by assumption) (by omega) | exact badLn_3 (by assumption))))]; rfl) | (rw [cost_tight hcb (tight_at hkl (by omega))]; rfl) | (rw [cost_ok hcb (tight_none (all_of (by omega) hg)), sumL, show l.length = k by omega]; rfl)), rfl⟩
            · try simp only [decide_eq_true_eq, decide_eq_false_iff_not, Bool.not_eq_true', Bool.not_eq_false', beq_iff_eq, bne_iff_ne, ne_eq, beq_eq_false_iff_ne, bne_eq_false_iff_eq, Int.not_lt, Int.not_le, Nat.not_lt, Nat.not_le, Int.ofNat_lt, Int.ofNat_le, Bool.not_eq_eq_eq_not, Bool.not_true, Bool.not_false] at hb6
              refine SOps.fieldPin rfl fieldB_48_1_1 ?_
              refine SOps.loadPin rfl flatB_4 ?_
              refine SOps.move rfl ?_
              refine SOps.caseB 44 rfl (fun hb7 => ?_) (fun hb7 => ?_)
              · try simp only [decide_eq_true_eq, decide_eq_false_iff_not, Bool.not_eq_true', Bool.not_eq_false', beq_iff_eq, bne_iff_ne, ne_eq, beq_eq_false_iff_ne, bne_eq_false_iff_eq, Int.not_lt, Int.not_le, Nat.not_lt, Nat.not_le, Int.ofNat_lt, Int.ofNat_le, Bool.not_eq_eq_eq_not, Bool.not_true, Bool.not_false] at hb7
                refine SOps.move rfl ?_
                refine SOps.move rfl ?_
                refine SOps.lenM rfl sliceB_25_48_2 ?_
                refine SOps.subI rfl rfl (by first | omega | (simp only [lenB] <;> omega)) (by first | omega | (simp only [lenB] <;> omega)) ?_
                refine SOps.bin rfl rfl rfl ?_
                refine SOps.pick rfl rfl ?_
                refine SOps.pick rfl rfl ?_
                refine SOps.move rfl ?_
                refine SOps.caseB 52 rfl (fun hb8 => ?_) (fun hb8 => ?_)
                · try simp only [decide_eq_true_eq, decide_eq_false_iff_not, Bool.not_eq_true', Bool.not_eq_false', beq_iff_eq, bne_iff_ne, ne_eq, beq_eq_false_iff_ne, bne_eq_false_iff_eq, Int.not_lt, Int.not_le, Nat.not_lt, Nat.not_le, Int.ofNat_lt, Int.ofNat_le, Bool.not_eq_eq_eq_not, Bool.not_true, Bool.not_false] at hb8
                  refine SOps.skip rfl ?_
                  refine SOps.skip rfl ?_
                  refine SOps.skip rfl ?_
                  refine SOps.pick rfl rfl ?_
                  refine SOps.nil ?_
                  refine SCode.cond rfl (fun _ => ?_) (fun h => by cases h)
                  refine SCode.seqR ?_
                  refine SOps.assign rfl ?_
                  refine SOps.assign rfl ?_
                  refine SOps.nil ?_
                  refine SCode.ret ?_
                  exact ⟨_, Res.two (.tmp rfl) (.tmp rfl), (by first | (rw [show costL l w p = (0, 1) from by first | exact cost_bad (costBad_0 (by first | (left; assumption) | omega)) | exact cost_bad (costBad_4 (bads_at hkl (by first | exact badLn_1 (by omega) | exact badLn_2 (by assumption) (by omega) | exact badLn_3 (by assumption))))]; rfl) | (rw [cost_tight hcb (tight_at hkl (by omega))]; rfl) | (rw [cost_ok hcb (tight_none (all_of (by omega) hg)), sumL, show l.length = k by omega]; rfl)), rfl⟩
                · try simp only [decide_eq_true_eq, decide_eq_false_iff_not, Bool.not_eq_true', Bool.not_eq_false', beq_iff_eq, bne_iff_ne, ne_eq, beq_eq_false_iff_ne, bne_eq_false_iff_eq, Int.not_lt, Int.not_le, Nat.not_lt, Nat.not_le, Int.ofNat_lt, Int.ofNat_le, Bool.not_eq_eq_eq_not, Bool.not_true, Bool.not_false] at hb8
                  refine SOps.fieldPin rfl fieldB_48_0_0 ?_
                  refine SOps.loadPin rfl flatB_46 ?_
                  refine SOps.callP (lContainsFuncS (fun s => !wordB s) _ (fun x hx => sCost1 hV x (hkk.words.1 x hx))) rfl ?_
                  rintro _ rfl
                  refine SOps.pick rfl rfl ?_
                  refine SOps.nil ?_
                  refine SCode.cond rfl (fun hc9 => ?_) (fun hc9 => ?_)
                  · try simp only [decide_eq_true_eq, decide_eq_false_iff_not, Bool.not_eq_true', Bool.not_eq_false', beq_iff_eq, bne_iff_ne, ne_eq, beq_eq_false_iff_ne, bne_eq_false_iff_eq, Int.not_lt, Int.not_le, Nat.not_lt, Nat.not_le, Int.ofNat_lt, Int.ofNat_le, Bool.not_eq_eq_eq_not, Bool.not_true, Bool.not_false] at hc9
                    refine SCode.seqR ?_
                    refine SOps.assign rfl ?_
                    refine SOps.assign rfl ?_
                    refine SOps.nil ?_
                    refine SCode.ret ?_
                    exact ⟨_, Res.two (.tmp rfl) (.tmp rfl), (by first | (rw [show costL l w p = (0, 1) from by first | exact cost_bad (costBad_0 (by first | (left; assumption) | omega)) | exact cost_bad (costBad_4 (bads_at hkl (by first | exact badLn_1 (by omega) | exact badLn_2 (by assumption) (by omega) | exact badLn_3 (by assumption))))]; rfl) | (rw [cost_tight hcb (tight_at hkl (by omega))]; rfl) | (rw [cost_ok hcb (tight_none (all_of (by omega) hg)), sumL, show l.length = k by omega]; rfl)), rfl⟩
                  · try simp only [decide_eq_true_eq, decide_eq_false_iff_not, Bool.not_eq_true', Bool.not_eq_false', beq_iff_eq, bne_iff_ne, ne_eq, beq_eq_false_iff_ne, bne_eq_false_iff_eq, Int.not_lt, Int.not_le, Nat.not_lt, Nat.not_le, Int.ofNat_lt, Int.ofNat_le, Bool.not_eq_eq_eq_not, Bool.not_true, Bool.not_false] at hc9
                    refine SCode.skip ?_
                    show SCode _ _ _ _
                    refine SCode.region ?_
                    refine SOps.addI rfl rfl (by first | omega | (simp only [lenB] <;> omega)) (by first | omega | (simp only [lenB] <;> omega)) ?_
                    refine SOps.move rfl ?_
                    refine SOps.nil ?_
                    have hbl : badLn l.length k l[k] = false := badLn_of (by omega) (by first | (left; assumption) | (right; omega)) (by assumption)
                    exact ⟨k + 1, ⟨by omega, bads_step hf hkl hbl⟩, by omega, St.Le.of ⟨rfl, rfl, rfl, rfl, rfl, rfl, trivial⟩⟩
              · try simp only [decide_eq_true_eq, decide_eq_false_iff_not, Bool.not_eq_true', Bool.not_eq_false', beq_iff_eq, bne_iff_ne, ne_eq, beq_eq_false_iff_ne, bne_eq_false_iff_eq, Int.not_lt, Int.not_le, Nat.not_lt, Nat.not_le, Int.ofNat_lt, Int.ofNat_le, Bool.not_eq_eq_eq_not, Bool.not_true, Bool.not_false] at hb7
                refine SOps.skip rfl ?_
                refine SOps.skip rfl ?_
                refine SOps.skip rfl ?_
                refine SOps.skip rfl ?_
                refine SOps.skip rfl ?_
                refine SOps.pick rfl rfl ?_
                refine SOps.pick rfl rfl ?_
                refine SOps.move rfl ?_
                refine SOps.fieldPin rfl fieldB_48_0_0 ?_
                refine SOps.loadPin rfl flatB_46 ?_
                refine SOps.callP (lContainsFuncS (fun s => !wordB s) _ (fun x hx => sCost1 hV x (hkk.words.1 x hx))) rfl ?_
                rintro _ rfl
                refine SOps.pick rfl rfl ?_
                refine SOps.nil ?_
                refine SCode.cond rfl (fun hc10 => ?_) (fun hc10 => ?_)
                · try simp only [decide_eq_true_eq, decide_eq_false_iff_not, Bool.not_eq_true', Bool.not_eq_false', beq_iff_eq, bne_iff_ne, ne_eq, beq_eq_false_iff_ne, bne_eq_false_iff_eq, Int.not_lt, Int.not_le, Nat.not_lt, Nat.not_le, Int.ofNat_lt, Int.ofNat_le, Bool.not_eq_eq_eq_not, Bool.not_true, Bool.not_false] at hc10
                  refine SCode.seqR ?_
                  refine SOps.assign rfl ?_
                  refine SOps.assign rfl ?_
                  refine SOps.nil ?_
                  refine SCode.ret ?_
                  exact ⟨_, Res.two (.tmp rfl) (.tmp rfl), (by first | (rw [show costL l w p = (0, 1) from by first | exact cost_bad (costBad_0 (by first | (left; assumption) | omega)) | exact cost_bad (costBad_4 (bads_at hkl (by first | exact badLn_1 (by omega) | exact badLn_2 (by assumption) (by omega) | exact badLn_3 (by assumption))))]; rfl) | (rw [cost_tight hcb (tight_at hkl (by omega))]; rfl) | (rw [cost_ok hcb (tight_none (all_of (by omega) hg)), sumL, show l.length = k by omega]; rfl)), rfl⟩
                · try simp only [decide_eq_true_eq, decide_eq_false_iff_not, Bool.not_eq_true', Bool.not_eq_false', beq_iff_eq, bne_iff_ne, ne_eq, beq_eq_false_iff_ne, bne_eq_false_iff_eq, Int.not_lt, Int.not_le, Nat.not_lt, Nat.not_le, Int.ofNat_lt, Int.ofNat_le, Bool.not_eq_eq_eq_not, Bool.not_true, Bool.not_false] at hc10
                  refine SCode.skip ?_
                  show SCode _ _ _ _
                  refine SCode.region ?_
                  refine SOps.addI rfl rfl (by first | omega | (simp only [lenB] <;> omega)) (by first | omega | (simp only [lenB] <;> omega)) ?_
                  refine SOps.move rfl ?_
                  refine SOps.nil ?_
                  have hbl : badLn l.length k l[k] = false := badLn_of (by omega) (by first | (left; assumption) | (right; omega)) (by assumption)
                  exact ⟨k + 1, ⟨by omega, bads_step hf hkl hbl⟩, by omega, St.Le.of ⟨rfl, rfl, rfl, rfl, rfl, rfl, trivial⟩⟩
          · try simp only [decide_eq_true_eq, decide_eq_false_iff_not, Bool.not_eq_true', Bool.not_eq_false', beq_iff_eq, bne_iff_ne, ne_eq, beq_eq_false_iff_ne, bne_eq_false_iff_eq, Int.not_lt, Int.not_le, Nat.not_lt, Nat.not_le, Int.ofNat_lt, Int.ofNat_le, Bool.not_eq_eq_eq_not, Bool.not_true, Bool.not_false] at hc5
            refine SCode.exit ?_
            show SCode _ _ _ _
            refine SCode.seqR ?_
            have hwd : wideB w = true := by assumption
            have hbn := bads_none (fun j hj => hf j (by omega))
            have hpn : penB p = true := penB_iff.2 (by omega)
            have hcb := costBad_of (l := l) (w := w) (p := p) hwd hpn (by omega) hbn
            obtain ⟨hw1, hw2⟩ := wideB_iff.1 hwd
            refine SOps.assign rfl ?_
            refine SOps.nil ?_
            refine SCode.seq ?_
            refine SCode.seqR ?_
            refine SOps.move rfl ?_
            refine SOps.lenM rfl sliceB_25_48_2 ?_
            refine SOps.move rfl ?_
            refine SOps.nil ?_
            refine SCode.block ?_
            refine SCode.loop1 (fun (k : Nat) => (⟨89, [(0, DLns l), (1, .v (.int .i64 w)), (2, .v (.int .i64 p)), (10, .v (.int .i64 (sumK l w p k))), (58, DLns l), (59, .v (.int .i64 (l.length : Int))), (60, .v (.int .i64 (k : Int)))], []⟩ : St)) (fun (k : Nat) => k ≤ l.length ∧ ∀ x ∈ l.take k, ¬ freeL w x < 0) (fun (k : Nat) => l.length - k) (0) (by exact ⟨Nat.zero_le _, by simp⟩) (St.Le.of ⟨(by first | rfl | (show some _ = some _; simp)), (by first | rfl | (show some _ = some _; simp)), (by first | rfl | (show some _ = some _; simp)), (by first | rfl | (show some _ = some _; simp)), (by first | rfl | (show some _ = some _; simp)), (by first | rfl | (show some _ = some _; simp)), (by first | rfl | (show some _ = some _; simp)), trivial⟩ rfl (by first | rfl | (simp))) ?_
            rintro k ⟨hkn, hg⟩
            refine SCode.seqR ?_
            refine SOps.bin rfl rfl rfl ?_
            refine SOps.nil ?_
            refine SCode.seq ?_
            refine SCode.cond rfl (fun hc11 => ?_) (fun hc11 => ?_)
            · try simp only [decide_eq_true_eq, decide_eq_false_iff_not, Bool.not_eq_true', Bool.not_eq_false', beq_iff_eq, bne_iff_ne, ne_eq, beq_eq_false_iff_ne, bne_eq_false_iff_eq, Int.not_lt, Int.not_le, Nat.not_lt, Nat.not_le, Int.ofNat_lt, Int.ofNat_le, Bool.not_eq_eq_eq_not, Bool.not_true, Bool.not_false] at hc11
              refine SCode.skip ?_
              show SCode _ _ _ _
              refine SCode.seq ?_
              refine SCode.block ?_
              refine SCode.seqR ?_
              refine SOps.move rfl ?_
              refine SOps.indexM (k) rfl rfl sliceB_25_48_2 (by first | omega | (simp only [lenB] <;> omega)) (by first | omega | (simp only [lenB] <;> omega)) ?_
              refine SOps.loadPinA rfl aggB_48_2 (Nat.le_of_ble_eq_true rfl) ?_
              refine SOps.alloc (sz := 2) zeroIs_48 (fun b1 hb_1 => ?_)
              refine SOps.assign rfl ?_
              refine SOps.storeAM 0 rfl rfl aggB_48_2 rfl ?_
              refine SOps.freezeRef (t := 12) 0 0 rfl rfl rfl rfl rfl ?_
              refine SOps.nil ?_
              refine SCode.seqR ?_
              have hkl : k < l.length := by omega
              have hkk := hk _ (List.getElem_mem hkl)
              have hfb := freeL_bound hkk (by omega) (show w ≤ 1000 by omega)
              have hsq := sq_bound hfb.1 hfb.2
              have hsb := sumK_bound hk (show 0 ≤ w by omega) (show w ≤ 1000 by omega) (show 0 ≤ p by omega) (by omega) k (by omega)
              have hat := lnAt_lt hkl
              have hsz := hkk.size
              have hsk : sumK l w p (k + 1) = sumK l w p k + costAt l w p k := rfl
              unfold costAt at hsk
              rw [hat] at hsk
              refine SOps.move rfl ?_
              refine SOps.loadPinA rfl aggB_48_2 (Nat.le_of_ble_eq_true rfl) ?_
              refine SOps.callP (sText _ hkk.words.1 hkk.words.2) rfl ?_
              rintro _ rfl
              refine SOps.callP (uRuneCount _) rfl ?_
              rintro _ rfl
              refine SOps.subI rfl rfl (by first | omega | (simp only [lenB] <;> omega)) (by first | omega | (simp only [lenB] <;> omega)) ?_
              refine SOps.reSlot (t := 69) rfl (show _ = DV.v (.int .i64 (freeL w (l[k]))) from rfl) ?_
              refine SOps.assign rfl ?_
              refine SOps.nil ?_
              refine SCode.seq ?_
              refine SCode.seqR ?_
              refine SOps.move rfl ?_
              refine SOps.bin rfl rfl rfl ?_
              refine SOps.nil ?_
              refine SCode.cond rfl (fun hc12 => ?_) (fun hc12 => ?_)
              · try simp only [decide_eq_true_eq, decide_eq_false_iff_not, Bool.not_eq_true', Bool.not_eq_false', beq_iff_eq, bne_iff_ne, ne_eq, beq_eq_false_iff_ne, bne_eq_false_iff_eq, Int.not_lt, Int.not_le, Nat.not_lt, Nat.not_le, Int.ofNat_lt, Int.ofNat_le, Bool.not_eq_eq_eq_not, Bool.not_true, Bool.not_false] at hc12
                refine SCode.seqR ?_
                refine SOps.assign rfl ?_
                refine SOps.assign rfl ?_
                refine SOps.nil ?_
                refine SCode.ret ?_
                exact ⟨_, Res.two (.tmp rfl) (.tmp rfl), (by first | (rw [show costL l w p = (0, 1) from by first | exact cost_bad (costBad_0 (by first | (left; assumption) | omega)) | exact cost_bad (costBad_4 (bads_at hkl (by first | exact badLn_1 (by omega) | exact badLn_2 (by assumption) (by omega) | exact badLn_3 (by assumption))))]; rfl) | (rw [cost_tight hcb (tight_at hkl (by omega))]; rfl) | (rw [cost_ok hcb (tight_none (all_of (by omega) hg)), sumL, show l.length = k by omega]; rfl)), rfl⟩
              · try simp only [decide_eq_true_eq, decide_eq_false_iff_not, Bool.not_eq_true', Bool.not_eq_false', beq_iff_eq, bne_iff_ne, ne_eq, beq_eq_false_iff_ne, bne_eq_false_iff_eq, Int.not_lt, Int.not_le, Nat.not_lt, Nat.not_le, Int.ofNat_lt, Int.ofNat_le, Bool.not_eq_eq_eq_not, Bool.not_true, Bool.not_false] at hc12
                refine SCode.skip ?_
                show SCode _ _ _ _
                refine SCode.seq ?_
                refine SCode.seqR ?_
                refine SOps.move rfl ?_
                refine SOps.move rfl ?_
                refine SOps.lenM rfl sliceB_25_48_2 ?_
                refine SOps.subI rfl rfl (by first | omega | (simp only [lenB] <;> omega)) (by first | omega | (simp only [lenB] <;> omega)) ?_
                refine SOps.bin rfl rfl rfl ?_
                refine SOps.nil ?_
                refine SCode.cond rfl (fun hc13 => ?_) (fun hc13 => ?_)
                · try simp only [decide_eq_true_eq, decide_eq_false_iff_not, Bool.not_eq_true', Bool.not_eq_false', beq_iff_eq, bne_iff_ne, ne_eq, beq_eq_false_iff_ne, bne_eq_false_iff_eq, Int.not_lt, Int.not_le, Nat.not_lt, Nat.not_le, Int.ofNat_lt, Int.ofNat_le, Bool.not_eq_eq_eq_not, Bool.not_true, Bool.not_false] at hc13
                  refine SCode.region ?_
                  refine SOps.move rfl ?_
                  refine SOps.move rfl ?_
                  refine SOps.move rfl ?_
                  refine SOps.bin rfl rfl rfl ?_
                  refine SOps.reSlot (t := 80) rfl (show _ = DV.v (.int .i64 ((freeL w (l[k])) * (freeL w (l[k])))) from congrArg (fun z => DV.v (.int .i64 z)) (wrap_id (has_i64 (by omega) (by omega)))) ?_
                  refine SOps.addI rfl rfl (by first | omega | (simp only [lenB] <;> omega)) (by first | omega | (simp only [lenB] <;> omega)) ?_
                  refine SOps.assign rfl ?_
                  refine SOps.nil ?_
                  show SCode _ _ _ _
                  refine SCode.seqR ?_
                  refine SOps.fieldPin rfl fieldB_48_1_1 ?_
                  refine SOps.loadPin rfl flatB_4 ?_
                  refine SOps.nil ?_
                  refine SCode.cond rfl (fun hc14 => ?_) (fun hc14 => ?_)
                  · try simp only [decide_eq_true_eq, decide_eq_false_iff_not, Bool.not_eq_true', Bool.not_eq_false', beq_iff_eq, bne_iff_ne, ne_eq, beq_eq_false_iff_ne, bne_eq_false_iff_eq, Int.not_lt, Int.not_le, Nat.not_lt, Nat.not_le, Int.ofNat_lt, Int.ofNat_le, Bool.not_eq_eq_eq_not, Bool.not_true, Bool.not_false] at hc14
                    refine SCode.region ?_
                    refine SOps.move rfl ?_
                    refine SOps.move rfl ?_
                    refine SOps.addI rfl rfl (by first | omega | (simp only [lenB] <;> omega)) (by first | omega | (simp only [lenB] <;> omega)) ?_
                    refine SOps.assign rfl ?_
                    refine SOps.nil ?_
                    show SCode _ _ _ _
                    refine SCode.region ?_
                    refine SOps.addI rfl rfl (by first | omega | (simp only [lenB] <;> omega)) (by first | omega | (simp only [lenB] <;> omega)) ?_
                    refine SOps.move rfl ?_
                    refine SOps.nil ?_
                    first
                      | (have hst : sumK l w p (k + 1) = sumK l w p k + (freeL w (l[k])) * (freeL w (l[k])) + p := by rw [hsk, if_pos (by omega), if_pos (by assumption)]; omega); exact ⟨k + 1, ⟨by omega, take_more hg hkl (by omega)⟩, by omega, St.Le.of ⟨rfl, rfl, rfl, congrArg (fun z => some (DV.v (.int .i64 z))) hst.symm, rfl, rfl, rfl, trivial⟩⟩
                      | (have hst : sumK l w p (k + 1) = sumK l w p k + (freeL w (l[k])) * (freeL w (l[k])) := by rw [hsk, if_pos (by omega), if_neg (by simp_all)]; omega); exact ⟨k + 1, ⟨by omega, take_more hg hkl (by omega)⟩, by omega, St.Le.of ⟨rfl, rfl, rfl, congrArg (fun z => some (DV.v (.int .i64 z))) hst.symm, rfl, rfl, rfl, trivial⟩⟩
                      | (have hst : sumK l w p (k + 1) = sumK l w p k + p := by rw [hsk, if_neg (by omega), if_pos (by assumption)]; omega); exact ⟨k + 1, ⟨by omega, take_more hg hkl (by omega)⟩, by omega, St.Le.of ⟨rfl, rfl, rfl, congrArg (fun z => some (DV.v (.int .i64 z))) hst.symm, rfl, rfl, rfl, trivial⟩⟩
                      | (have hst : sumK l w p (k + 1) = sumK l w p k := by rw [hsk, if_neg (by omega), if_neg (by simp_all)]; omega); exact ⟨k + 1, ⟨by omega, take_more hg hkl (by omega)⟩, by omega, St.Le.of ⟨rfl, rfl, rfl, congrArg (fun z => some (DV.v (.int .i64 z))) hst.symm, rfl, rfl, rfl, trivial⟩⟩
                  · try simp only [decide_eq_true_eq, decide_eq_false_iff_not, Bool.not_eq_true', Bool.not_eq_false', beq_iff_eq, bne_iff_ne, ne_eq, beq_eq_false_iff_ne, bne_eq_false_iff_eq, Int.not_lt, Int.not_le, Nat.not_lt, Nat.not_le, Int.ofNat_lt, Int.ofNat_le, Bool.not_eq_eq_eq_not, Bool.not_true, Bool.not_false] at hc14
                    refine SCode.skip ?_
                    show SCode _ _ _ _
                    refine SCode.region ?_
                    refine SOps.addI rfl rfl (by first | omega | (simp only [lenB] <;> omega)) (by first | omega | (simp only [lenB] <;> omega)) ?_
                    refine SOps.move rfl ?_
                    refine SOps.nil ?_
                    first
                      | (have hst : sumK l w p (k + 1) = sumK l w p k + (freeL w (l[k])) * (freeL w (l[k])) + p := by rw [hsk, if_pos (by omega), if_pos (by assumption)]; omega); exact ⟨k + 1, ⟨by omega, take_more hg hkl (by omega)⟩, by omega, St.Le.of ⟨rfl, rfl, rfl, congrArg (fun z => some (DV.v (.int .i64 z))) hst.symm, rfl, rfl, rfl, trivial⟩⟩
                      | (have hst : sumK l w p (k + 1) = sumK l w p k + (freeL w (l[k])) * (freeL w (l[k])) := by rw [hsk, if_pos (by omega), if_neg (by simp_all)]; omega); exact ⟨k + 1, ⟨by omega, take_more hg hkl (by omega)⟩, by omega, St.Le.of ⟨rfl, rfl, rfl, congrArg (fun z => some (DV.v (.int .i64 z))) hst.symm, rfl, rfl, rfl, trivial⟩⟩
                      | (have hst : sumK l w p (k + 1) = sumK l w p k + p := by rw [hsk, if_neg (by omega), if_pos (by assumption)]; omega); exact ⟨k + 1, ⟨by omega, take_more hg hkl (by omega)⟩, by omega, St.Le.of ⟨rfl, rfl, rfl, congrArg (fun z => some (DV.v (.int .i64 z))) hst.symm, rfl, rfl, rfl, trivial⟩⟩
                      | (have hst : sumK l w p (k + 1) = sumK l w p k := by rw [hsk, if_neg (by omega), if_neg (by simp_all)]; omega); exact ⟨k + 1, ⟨by omega, take_more hg hkl (by omega)⟩, by omega, St.Le.of ⟨rfl, rfl, rfl, congrArg (fun z => some (DV.v (.int .i64 z))) hst.symm, rfl, rfl, rfl, trivial⟩⟩
                · try simp only [decide_eq_true_eq, decide_eq_false_iff_not, Bool.not_eq_true', Bool.not_eq_false', beq_iff_eq, bne_iff_ne, ne_eq, beq_eq_false_iff_ne, bne_eq_false_iff_eq, Int.not_lt, Int.not_le, Nat.not_lt, Nat.not_le, Int.ofNat_lt, Int.ofNat_le, Bool.not_eq_eq_eq_not, Bool.not_true, Bool.not_false] at hc13
                  refine SCode.skip ?_
                  show SCode _ _ _ _
                  refine SCode.seqR ?_
                  refine SOps.fieldPin rfl fieldB_48_1_1 ?_
                  refine SOps.loadPin rfl flatB_4 ?_
                  refine SOps.nil ?_
                  refine SCode.cond rfl (fun hc15 => ?_) (fun hc15 => ?_)
                  · try simp only [decide_eq_true_eq, decide_eq_false_iff_not, Bool.not_eq_true', Bool.not_eq_false', beq_iff_eq, bne_iff_ne, ne_eq, beq_eq_false_iff_ne, bne_eq_false_iff_eq, Int.not_lt, Int.not_le, Nat.not_lt, Nat.not_le, Int.ofNat_lt, Int.ofNat_le, Bool.not_eq_eq_eq_not, Bool.not_true, Bool.not_false] at hc15
                    refine SCode.region ?_
                    refine SOps.move rfl ?_
                    refine SOps.move rfl ?_
                    refine SOps.addI rfl rfl (by first | omega | (simp only [lenB] <;> omega)) (by first | omega | (simp only [lenB] <;> omega)) ?_
                    refine SOps.assign rfl ?_
                    refine SOps.nil ?_
                    show SCode _ _ _ _
                    refine SCode.region ?_
                    refine SOps.addI rfl rfl (by first | omega | (simp only [lenB] <;> omega)) (by first | omega | (simp only [lenB] <;> omega)) ?_
                    refine SOps.move rfl ?_
                    refine SOps.nil ?_
                    first
                      | (have hst : sumK l w p (k + 1) = sumK l w p k + (freeL w (l[k])) * (freeL w (l[k])) + p := by rw [hsk, if_pos (by omega), if_pos (by assumption)]; omega); exact ⟨k + 1, ⟨by omega, take_more hg hkl (by omega)⟩, by omega, St.Le.of ⟨rfl, rfl, rfl, congrArg (fun z => some (DV.v (.int .i64 z))) hst.symm, rfl, rfl, rfl, trivial⟩⟩
                      | (have hst : sumK l w p (k + 1) = sumK l w p k + (freeL w (l[k])) * (freeL w (l[k])) := by rw [hsk, if_pos (by omega), if_neg (by simp_all)]; omega); exact ⟨k + 1, ⟨by omega, take_more hg hkl (by omega)⟩, by omega, St.Le.of ⟨rfl, rfl, rfl, congrArg (fun z => some (DV.v (.int .i64 z))) hst.symm, rfl, rfl, rfl, trivial⟩⟩
                      | (have hst : sumK l w p (k + 1) = sumK l w p k + p := by rw [hsk, if_neg (by omega), if_pos (by assumption)]; omega); exact ⟨k + 1, ⟨by omega, take_more hg hkl (by omega)⟩, by omega, St.Le.of ⟨rfl, rfl, rfl, congrArg (fun z => some (DV.v (.int .i64 z))) hst.symm, rfl, rfl, rfl, trivial⟩⟩
                      | (have hst : sumK l w p (k + 1) = sumK l w p k := by rw [hsk, if_neg (by omega), if_neg (by simp_all)]; omega); exact ⟨k + 1, ⟨by omega, take_more hg hkl (by omega)⟩, by omega, St.Le.of ⟨rfl, rfl, rfl, congrArg (fun z => some (DV.v (.int .i64 z))) hst.symm, rfl, rfl, rfl, trivial⟩⟩
                  · try simp only [decide_eq_true_eq, decide_eq_false_iff_not, Bool.not_eq_true', Bool.not_eq_false', beq_iff_eq, bne_iff_ne, ne_eq, beq_eq_false_iff_ne, bne_eq_false_iff_eq, Int.not_lt, Int.not_le, Nat.not_lt, Nat.not_le, Int.ofNat_lt, Int.ofNat_le, Bool.not_eq_eq_eq_not, Bool.not_true, Bool.not_false] at hc15
                    refine SCode.skip ?_
                    show SCode _ _ _ _
                    refine SCode.region ?_
                    refine SOps.addI rfl rfl (by first | omega | (simp only [lenB] <;> omega)) (by first | omega | (simp only [lenB] <;> omega)) ?_
                    refine SOps.move rfl ?_
                    refine SOps.nil ?_
                    first
                      | (have hst : sumK l w p (k + 1) = sumK l w p k + (freeL w (l[k])) * (freeL w (l[k])) + p := by rw [hsk, if_pos (by omega), if_pos (by assumption)]; omega); exact ⟨k + 1, ⟨by omega, take_more hg hkl (by omega)⟩, by omega, St.Le.of ⟨rfl, rfl, rfl, congrArg (fun z => some (DV.v (.int .i64 z))) hst.symm, rfl, rfl, rfl, trivial⟩⟩
                      | (have hst : sumK l w p (k + 1) = sumK l w p k + (freeL w (l[k])) * (freeL w (l[k])) := by rw [hsk, if_pos (by omega), if_neg (by simp_all)]; omega); exact ⟨k + 1, ⟨by omega, take_more hg hkl (by omega)⟩, by omega, St.Le.of ⟨rfl, rfl, rfl, congrArg (fun z => some (DV.v (.int .i64 z))) hst.symm, rfl, rfl, rfl, trivial⟩⟩
                      | (have hst : sumK l w p (k + 1) = sumK l w p k + p := by rw [hsk, if_neg (by omega), if_pos (by assumption)]; omega); exact ⟨k + 1, ⟨by omega, take_more hg hkl (by omega)⟩, by omega, St.Le.of ⟨rfl, rfl, rfl, congrArg (fun z => some (DV.v (.int .i64 z))) hst.symm, rfl, rfl, rfl, trivial⟩⟩
                      | (have hst : sumK l w p (k + 1) = sumK l w p k := by rw [hsk, if_neg (by omega), if_neg (by simp_all)]; omega); exact ⟨k + 1, ⟨by omega, take_more hg hkl (by omega)⟩, by omega, St.Le.of ⟨rfl, rfl, rfl, congrArg (fun z => some (DV.v (.int .i64 z))) hst.symm, rfl, rfl, rfl, trivial⟩⟩
            · try simp only [decide_eq_true_eq, decide_eq_false_iff_not, Bool.not_eq_true', Bool.not_eq_false', beq_iff_eq, bne_iff_ne, ne_eq, beq_eq_false_iff_ne, bne_eq_false_iff_eq, Int.not_lt, Int.not_le, Nat.not_lt, Nat.not_le, Int.ofNat_lt, Int.ofNat_le, Bool.not_eq_eq_eq_not, Bool.not_true, Bool.not_false] at hc11
              refine SCode.exit ?_
              show SCode _ _ _ _
              refine SCode.seqR ?_
              refine SOps.move rfl ?_
              refine SOps.assign rfl ?_
              refine SOps.assign rfl ?_
              refine SOps.nil ?_
              refine SCode.ret ?_
              exact ⟨_, Res.two (.tmp rfl) (.tmp rfl), (by first | (rw [show costL l w p = (0, 1) from by first | exact cost_bad (costBad_0 (by first | (left; assumption) | omega)) | exact cost_bad (costBad_4 (bads_at hkl (by first | exact badLn_1 (by omega) | exact badLn_2 (by assumption) (by omega) | exact badLn_3 (by assumption))))]; rfl) | (rw [cost_tight hcb (tight_at hkl (by omega))]; rfl) | (rw [cost_ok hcb (tight_none (all_of (by omega) hg)), sumL, show l.length = k by omega]; rfl)), rfl⟩
end Go.GH
namespace Go.GH
open Go Go.Proofs
variable {E : Env}
end Go.GH
namespace Go.GH
open Go Go.Lib
def plainB (w : ByteArray) : Bx := ⟨w, []⟩
def ptsF (l : List Bx) : List (Nat × Int) := (l.zipIdx.map (fun p => (p.2, 0) :: p.1.pts.map (fun q => (p.2, q)))).flatten
def pointsL (l : List Bx) : List (Nat × Int) := ptsF l ++ [(l.length, 0)]
theorem ptsF_take {l : List Bx} {k : Nat} (h : k < l.length) : ptsF (l.take (k + 1)) = ptsF (l.take k) ++ (k, 0) :: (l[k]).pts.map (fun q => (k, q)) := by
  unfold ptsF
  rw [List.take_add_one, List.getElem?_eq_getElem h, List.zipIdx_append, List.map_append, List.flatten_append]
  have : (l.take k).length = k := by simp; omega
  simp [this]
theorem ptsF_len (l : List Bx) : ∀ k, k ≤ l.length → (∀ b ∈ l, b.pts.length ≤ 1000) → (ptsF (l.take k)).length ≤ 1001 * k
  | 0, _, _ => by rw [List.take_zero]; exact Nat.zero_le _
  | k + 1, hk, h => by
    have ih := ptsF_len l k (by omega) h
    have hb := h _ (List.getElem_mem (show k < l.length by omega))
    rw [ptsF_take (by omega)]
    simp only [List.length_append, List.length_cons, List.length_map]
    omega
end Go.GH
namespace Go.GH
open Go Go.Proofs
variable {E : Env}
theorem elemB_43_2_40 : elemB Tryd.prog 43 2 40 = true := by kernel_rfl
theorem placesB_43 : placesB Tryd.prog 43 [(0, 1), (1, 1)] = true := by kernel_rfl
theorem lBoxes (ws : List ByteArray) (hl : ws.length ≤ 1000000) : GCall Tryd.prog E 37 [DStrs ws] [] (fun d H => d = DBxs (ws.map plainB) ∧ H = []) := by
  refine GCall.body (C := ⟨Tryd.prog, E, true⟩) Tryd.func37 rfl (fun _ => rfl) (by kernel_rfl) rfl ?_
  refine SCode.seqR ?_
  refine SOps.assign rfl ?_
  refine SOps.nil ?_
  refine SCode.seqR ?_
  refine SOps.assign rfl ?_
  refine SOps.nil ?_
  refine SCode.seq ?_
  refine SCode.seqR ?_
  refine SOps.move rfl ?_
  refine SOps.lenM rfl sliceB_46_9_1 ?_
  refine SOps.move rfl ?_
  refine SOps.nil ?_
  refine SCode.block ?_
  refine SCode.loop2 (fun (i : Nat) (b : Nat) => (⟨19, [(3, accD 2 b ((ws.take i).map (fun w => encBx (plainB w)))), (6, DStrs ws), (7, .v (.int .i64 (ws.length : Int))), (8, .v (.int .i64 (i : Int)))], accH 43 2 b ((ws.take i).map (fun w => encBx (plainB w))) ++ []⟩ : St)) (fun (i : Nat) (b : Nat) => i ≤ ws.length) (fun (i : Nat) (b : Nat) => ws.length - i) (0) (0) (by exact Nat.zero_le _) (St.Le.of ⟨(by first | rfl | (show some _ = some _; simp)), (by first | rfl | (show some _ = some _; simp)), (by first | rfl | (show some _ = some _; simp)), (by first | rfl | (show some _ = some _; simp)), trivial⟩ rfl (by first | rfl | (simp))) ?_
  rintro i b hi
  refine SCode.seqR ?_
  refine SOps.bin rfl rfl rfl ?_
  refine SOps.nil ?_
  refine SCode.seq ?_
  refine SCode.cond rfl (fun hc1 => ?_) (fun hc1 => ?_)
  · try simp only [decide_eq_true_eq, decide_eq_false_iff_not, Bool.not_eq_true', Bool.not_eq_false', beq_iff_eq, bne_iff_ne, ne_eq, beq_eq_false_iff_ne, bne_eq_false_iff_eq, Int.not_lt, Int.not_le, Nat.not_lt, Nat.not_le, Int.ofNat_lt, Int.ofNat_le, Bool.not_eq_eq_eq_not, Bool.not_true, Bool.not_false] at hc1
    refine SCode.skip ?_
    show SCode _ _ _ _
    refine SCode.seq ?_
    refine SCode.block ?_
    refine SCode.seqR ?_
    have hil : i < ws.length := by omega
    have htl : (ws.take i).length = i := by simp; omega
    refine SOps.indexM (i) rfl rfl sliceB_46_9_1 (by first | omega | (simp only [lenB] <;> omega)) (by first | omega | (simp only [lenB] <;> omega)) ?_
    refine SOps.loadPin rfl flatB_9 ?_
    refine SOps.assign rfl ?_
    refine SOps.nil ?_
    refine SCode.region ?_
    refine SOps.move rfl ?_
    refine SOps.move rfl ?_
    refine SOps.buildM placesB_43 zeroIs_43 rfl rfl ?_
    refine SOps.relab (t := 14) (d' := .agg (encBx (plainB (ws[i])))) rfl (fun w F v hv => rep_aggNil (sz := 1) 1 hv rfl) ?_
    refine SOps.litF rfl sliceB_22_43_2 zeroIs_43 rfl ?_
    refine SOps.appendAcc [] [] sliceB_22_43_2 elemB_43_2_40 rfl rfl rfl SrcD.isl (by simp) (by first | (simp [lenB] <;> (first | omega | (simp only [lenB] <;> omega))) | (simp only [lenB]; (first | omega | (simp only [lenB] <;> omega)))) (by first | (simp <;> (first | omega | (simp only [lenB] <;> omega))) | (first | omega | (simp only [lenB] <;> omega))) (fun b0 => ?_)
    refine SOps.assign rfl ?_
    refine SOps.nil ?_
    show SCode _ _ _ _
    refine SCode.region ?_
    refine SOps.addI rfl rfl (by first | omega | (simp only [lenB] <;> omega)) (by first | omega | (simp only [lenB] <;> omega)) ?_
    refine SOps.move rfl ?_
    refine SOps.nil ?_
    have hte : ((ws.take (i + 1)).map (fun w => encBx (plainB w))) = ((ws.take i).map (fun w => encBx (plainB w))) ++ [encBx (plainB (ws[i]))] := by rw [List.take_add_one, List.getElem?_eq_getElem hil, List.map_append]; rfl
    exact ⟨i + 1, b0, by omega, by omega, St.Le.of ⟨(by show some _ = some _; rw [hte] <;> rfl), rfl, rfl, rfl, trivial⟩ rfl (by rw [hte] <;> rfl)⟩
  · try simp only [decide_eq_true_eq, decide_eq_false_iff_not, Bool.not_eq_true', Bool.not_eq_false', beq_iff_eq, bne_iff_ne, ne_eq, beq_eq_false_iff_ne, bne_eq_false_iff_eq, Int.not_lt, Int.not_le, Nat.not_lt, Nat.not_le, Int.ofNat_lt, Int.ofNat_le, Bool.not_eq_eq_eq_not, Bool.not_true, Bool.not_false] at hc1
    refine SCode.exit ?_
    show SCode _ _ _ _
    refine SCode.seqR ?_
    refine SOps.freezeAcc (t := 3) [] [] rfl rfl rfl ?_
    have hti : ws.take i = ws := List.take_of_length_le (by omega)
    refine SOps.move rfl ?_
    refine SOps.assign rfl ?_
    refine SOps.nil ?_
    refine SCode.ret ?_
    exact ⟨_, Res.one (.tmp rfl), by rw [hti]; simp [List.map_map, Function.comp_def], rfl⟩
end Go.GH
namespace Go.GH
open Go Go.Lib
def stB (l : List Bx) (k : Nat) : Nat := ((l.take k).map (fun b => wlen b.word + 1)).sum
def up3 (l : List Bx) (k : Nat × Int) : Nat × Int × Int := (k.1, k.2, (stB l k.1 : Int) + k.2)
def pts3 (l : List Bx) : List (Nat × Int × Int) := (pointsL l).map (up3 l)
def encP3 (x : Nat × Int × Int) : List DV := [.v (.int .i64 (x.1 : Int)), .v (.int .i64 x.2.1), .v (.int .i64 x.2.2)]
def encRw (b : Bx) : List DV := [DRunes (runes b.word)]
def encPar (l : List Bx) (w : Int) : List DV := [.isl false 1 (l.map encRw), .isl false 3 ((pts3 l).map encP3), .v (.int .i64 w)]
def ptN (l : List Bx) : Nat := (pts3 l).length
def pt3 (l : List Bx) (i : Nat) : Nat × Int × Int := (pts3 l).getD i (0, 0, 0)
theorem pt3_lt {l : List Bx} {i : Nat} (h : i < (pts3 l).length) : pt3 l i = (pts3 l)[i] := by
  unfold pt3; rw [List.getD_eq_getElem?_getD, List.getElem?_eq_getElem h]; rfl
def lenP (l : List Bx) (i j : Nat) : Int := (pt3 l j).2.2 - (pt3 l i).2.2 + (if 0 < (pt3 l j).2.1 then 1 else -1)
/-- No break point lies far. -/
def Near (l : List Bx) : Prop := ptN l ≤ 1000000 ∧ 0 < ptN l ∧ ∀ x ∈ pts3 l, -1000000000 ≤ x.2.2 ∧ x.2.2 ≤ 1000000000
theorem Near.at {l : List Bx} (h : Near l) {i : Nat} (hi : i < ptN l) : -1000000000 ≤ (pt3 l i).2.2 ∧ (pt3 l i).2.2 ≤ 1000000000 := by
  rw [pt3_lt hi]; exact h.2.2 _ (List.getElem_mem hi)
end Go.GH
namespace Go.GH
open Go Go.Proofs
variable {E : Env}
theorem fieldB_62_1_1 : fieldB Tryd.prog 62 1 1 = true := by kernel_rfl
theorem fieldB_67_1_1 : fieldB Tryd.prog 67 1 1 = true := by kernel_rfl
theorem fieldB_67_2_2 : fieldB Tryd.prog 67 2 2 = true := by kernel_rfl
theorem flatB_60 : flatB Tryd.prog 60 = true := by kernel_rfl
theorem sliceB_60_67_3 : sliceB Tryd.prog 60 67 3 = true := by kernel_rfl
theorem sLast (l : List Bx) (w : Int) (hn : Near l) : GCall Tryd.prog E 39 [.ipin (encPar l w)] [] (fun d H => d = .v (.int .i64 ((ptN l - 1 : Nat) : Int)) ∧ H = []) := by
  obtain ⟨hn1, hn2, hn3⟩ := hn
  unfold ptN at *
  refine GCall.body (C := ⟨Tryd.prog, E, true⟩) Tryd.func39 rfl (fun _ => rfl) (by kernel_rfl) rfl ?_
  refine SCode.seqR ?_
  refine SOps.assign rfl ?_
  refine SOps.nil ?_
  refine SCode.seqR ?_
  refine SOps.move rfl ?_
  refine SOps.nilCheck rfl rfl ?_
  refine SOps.fieldPin rfl fieldB_62_1_1 ?_
  refine SOps.loadPin rfl flatB_60 ?_
  refine SOps.lenM rfl sliceB_60_67_3 ?_
  refine SOps.subI rfl rfl (by first | omega | (simp only [lenB] <;> omega)) (by first | omega | (simp only [lenB] <;> omega)) ?_
  refine SOps.assign rfl ?_
  refine SOps.nil ?_
  refine SCode.ret ?_
  exact ⟨_, Res.one (.tmp rfl), congrArg (fun z => DV.v (.int .i64 z)) (by omega), rfl⟩
theorem sLength (l : List Bx) (w : Int) (i j : Nat) (hn : Near l) (hi : i < ptN l) (hj : j < ptN l) : GCall Tryd.prog E 42 [.ipin (encPar l w), .v (.int .i64 ((i : Nat) : Int)), .v (.int .i64 ((j : Nat) : Int))] [] (fun d H => d = .v (.int .i64 (lenP l i j)) ∧ H = []) := by
  have hbi := hn.at hi
  have hbj := hn.at hj
  have hni := pt3_lt hi
  have hnj := pt3_lt hj
  have hi2 : i < (pts3 l).length := hi
  have hj2 : j < (pts3 l).length := hj
  rw [hni] at hbi
  rw [hnj] at hbj
  refine GCall.body (C := ⟨Tryd.prog, E, true⟩) Tryd.func42 rfl (fun _ => rfl) (by kernel_rfl) rfl ?_
  refine SCode.seqR ?_
  refine SOps.assign rfl ?_
  refine SOps.nil ?_
  refine SCode.seq ?_
  apply SCode.drawAuto mixed_ [8, 9, 10, 11, 12, 13, 14, 15, 16, 17, 18, 19, 20, 21, 22, 23, 24, 7] [[.inr 0], [.inl 0], [.inl 1], [.inl 2], [.inr 2], [.inl 3, .inl 4], [.inl 5], [.inl 6], [.inr 0], [.inl 8], [.inl 9], [.inl 10], [.inr 1], [.inl 11, .inl 12], [.inl 13], [.inl 14], [.inl 7, .inl 15], [.inl 16]]
  · kernel_rfl
  · kernel_rfl
  · apply DOk.cons 8 
    · rfl
    · exact (NeedIs.inr _ rfl NeedIs.nil)
    · intro rest
      refine SOps.move rfl ?_
      exact SOps.nil rfl
    apply DOk.cons 9 
    · rfl
    · exact (NeedIs.inl 0 _ _ rfl rfl NeedIs.nil)
    · intro rest
      refine SOps.nilCheck rfl rfl ?_
      exact SOps.nil rfl
    apply DOk.cons 10 
    · rfl
    · exact (NeedIs.inl 0 _ _ rfl rfl NeedIs.nil)
    · intro rest
      refine SOps.fieldPin rfl fieldB_62_1_1 ?_
      exact SOps.nil rfl
    apply DOk.cons 11 
    · rfl
    · exact (NeedIs.inl 0 _ _ rfl rfl NeedIs.nil)
    · intro rest
      refine SOps.loadPin rfl flatB_60 ?_
      exact SOps.nil rfl
    apply DOk.cons 12 
    · rfl
    · exact (NeedIs.inr _ rfl NeedIs.nil)
    · intro rest
      refine SOps.move rfl ?_
      exact SOps.nil rfl
    apply DOk.cons 13 
    · rfl
    · exact (NeedIs.inl 1 _ _ rfl rfl (NeedIs.inl 0 _ _ rfl rfl NeedIs.nil))
    · intro rest
      refine SOps.indexM (j) rfl rfl sliceB_60_67_3 (by first | omega | (simp only [lenB] <;> omega)) (by first | omega | (simp only [lenB] <;> omega)) ?_
      exact SOps.nil rfl
    apply DOk.cons 14 
    · rfl
    · exact (NeedIs.inl 0 _ _ rfl rfl NeedIs.nil)
    · intro rest
      refine SOps.fieldPin rfl fieldB_67_2_2 ?_
      exact SOps.nil rfl
    apply DOk.cons 15 
    · rfl
    · exact (NeedIs.inl 0 _ _ rfl rfl NeedIs.nil)
    · intro rest
      refine SOps.loadPin rfl flatB_3 ?_
      exact SOps.nil rfl
    apply DOk.cons 16 
    · rfl
    · exact (NeedIs.inr _ rfl NeedIs.nil)
    · intro rest
      refine SOps.move rfl ?_
      exact SOps.nil rfl
    apply DOk.cons 17 
    · rfl
    · exact (NeedIs.inl 0 _ _ rfl rfl NeedIs.nil)
    · intro rest
      refine SOps.nilCheck rfl rfl ?_
      exact SOps.nil rfl
    apply DOk.cons 18 
    · rfl
    · exact (NeedIs.inl 0 _ _ rfl rfl NeedIs.nil)
    · intro rest
      refine SOps.fieldPin rfl fieldB_62_1_1 ?_
      exact SOps.nil rfl
    apply DOk.cons 19 
    · rfl
    · exact (NeedIs.inl 0 _ _ rfl rfl NeedIs.nil)
    · intro rest
      refine SOps.loadPin rfl flatB_60 ?_
      exact SOps.nil rfl
    apply DOk.cons 20 
    · rfl
    · exact (NeedIs.inr _ rfl NeedIs.nil)
    · intro rest
      refine SOps.move rfl ?_
      exact SOps.nil rfl
    apply DOk.cons 21 
    · rfl
    · exact (NeedIs.inl 1 _ _ rfl rfl (NeedIs.inl 0 _ _ rfl rfl NeedIs.nil))
    · intro rest
      refine SOps.indexM (i) rfl rfl sliceB_60_67_3 (by first | omega | (simp only [lenB] <;> omega)) (by first | omega | (simp only [lenB] <;> omega)) ?_
      exact SOps.nil rfl
    apply DOk.cons 22 
    · rfl
    · exact (NeedIs.inl 0 _ _ rfl rfl NeedIs.nil)
    · intro rest
      refine SOps.fieldPin rfl fieldB_67_2_2 ?_
      exact SOps.nil rfl
    apply DOk.cons 23 
    · rfl
    · exact (NeedIs.inl 0 _ _ rfl rfl NeedIs.nil)
    · intro rest
      refine SOps.loadPin rfl flatB_3 ?_
      exact SOps.nil rfl
    apply DOk.cons 24 
    · rfl
    · exact (NeedIs.inl 8 _ _ rfl rfl (NeedIs.inl 0 _ _ rfl rfl NeedIs.nil))
    · intro rest
      refine SOps.subI rfl rfl (by first | omega | (simp only [lenB] <;> omega)) (by first | omega | (simp only [lenB] <;> omega)) ?_
      exact SOps.nil rfl
    apply DOk.cons 7 
    · rfl
    · exact (NeedIs.inl 0 _ _ rfl rfl NeedIs.nil)
    · intro rest
      refine SOps.assign rfl ?_
      exact SOps.nil rfl
    exact DOk.nil
  · rfl
  · show SCode _ _ _ _
    refine SCode.seq ?_
    refine SCode.seqR ?_
    refine SOps.move rfl ?_
    refine SOps.nilCheck rfl rfl ?_
    refine SOps.fieldPin rfl fieldB_62_1_1 ?_
    refine SOps.loadPin rfl flatB_60 ?_
    refine SOps.move rfl ?_
    refine SOps.indexM (j) rfl rfl sliceB_60_67_3 (by first | omega | (simp only [lenB] <;> omega)) (by first | omega | (simp only [lenB] <;> omega)) ?_
    refine SOps.fieldPin rfl fieldB_67_1_1 ?_
    refine SOps.loadPin rfl flatB_3 ?_
    refine SOps.bin rfl rfl rfl ?_
    refine SOps.nil ?_
    refine SCode.cond rfl (fun hc1 => ?_) (fun hc1 => ?_)
    · try simp only [decide_eq_true_eq, decide_eq_false_iff_not, Bool.not_eq_true', Bool.not_eq_false', beq_iff_eq, bne_iff_ne, ne_eq, beq_eq_false_iff_ne, bne_eq_false_iff_eq, Int.not_lt, Int.not_le, Nat.not_lt, Nat.not_le, Int.ofNat_lt, Int.ofNat_le, Bool.not_eq_eq_eq_not, Bool.not_true, Bool.not_false] at hc1
      refine SCode.seqR ?_
      refine SOps.move rfl ?_
      refine SOps.addI rfl rfl (by first | omega | (simp only [lenB] <;> omega)) (by first | omega | (simp only [lenB] <;> omega)) ?_
      refine SOps.assign rfl ?_
      refine SOps.nil ?_
      refine SCode.ret ?_
      exact ⟨_, Res.one (.tmp rfl), by rw [lenP, hni, hnj, if_pos (by assumption)] <;> rfl, rfl⟩
    · try simp only [decide_eq_true_eq, decide_eq_false_iff_not, Bool.not_eq_true', Bool.not_eq_false', beq_iff_eq, bne_iff_ne, ne_eq, beq_eq_false_iff_ne, bne_eq_false_iff_eq, Int.not_lt, Int.not_le, Nat.not_lt, Nat.not_le, Int.ofNat_lt, Int.ofNat_le, Bool.not_eq_eq_eq_not, Bool.not_true, Bool.not_false] at hc1
      refine SCode.skip ?_
      show SCode _ _ _ _
      refine SCode.seqR ?_
      refine SOps.move rfl ?_
      refine SOps.subI rfl rfl (by first | omega | (simp only [lenB] <;> omega)) (by first | omega | (simp only [lenB] <;> omega)) ?_
      refine SOps.assign rfl ?_
      refine SOps.nil ?_
      refine SCode.ret ?_
      exact ⟨_, Res.one (.tmp rfl), congrArg (fun z => DV.v (.int .i64 z)) (by rw [lenP, hni, hnj, if_neg (by omega)]; omega), rfl⟩
end Go.GH
namespace Go.GH
open Go Go.Proofs
variable {E : Env}
theorem fieldB_62_2_2 : fieldB Tryd.prog 62 2 2 = true := by kernel_rfl
theorem sEnds (l : List Bx) (w : Int) (i m : Nat) {f : FuncId} {cap : List DV} (S : Nat → DHeap) (hn : Near l) (him : i < m) (hm : m ≤ ptN l) (hfit : ∀ n, i < n → n < m → lenP l i n ≤ w) (hstop : m = ptN l ∨ (m < ptN l ∧ ¬ lenP l i m ≤ w)) (hf : ∀ n, i < n → n < m → GCall Tryd.prog E f ([.v (.int .i64 ((n : Nat) : Int))] ++ cap) (S n) (fun d H => H = S (n + 1))) : GCall Tryd.prog E 40 [.ipin (encPar l w), .v (.int .i64 ((i : Nat) : Int)), .fn f cap] (S (i + 1)) (fun d H => H = S m) := by
  have hn1 := hn.1
  have hp3 : (pts3 l).length = ptN l := rfl
  refine GCall.body (C := ⟨Tryd.prog, E, false⟩) Tryd.func40 rfl (fun h => by cases h) (by kernel_rfl) rfl ?_
  refine SCode.seqR ?_
  refine SOps.move rfl ?_
  refine SOps.addI rfl rfl (by first | omega | (simp only [lenB] <;> omega)) (by first | omega | (simp only [lenB] <;> omega)) ?_
  refine SOps.assign rfl ?_
  refine SOps.nil ?_
  refine SCode.block ?_
  refine SCode.loop1 (fun (n : Nat) => (⟨32, [(0, .ipin (encPar l w)), (1, .v (.int .i64 ((i : Nat) : Int))), (2, .fn f cap), (6, .v (.int .i64 ((n : Nat) : Int)))], S n⟩ : St)) (fun (n : Nat) => i < n ∧ n ≤ m) (fun (n : Nat) => m - n) ((i + 1)) (by exact ⟨by omega, by omega⟩) (St.Le.of ⟨(by first | rfl | (show some _ = some _; simp)), (by first | rfl | (show some _ = some _; simp)), (by first | rfl | (show some _ = some _; simp)), (by first | rfl | (show some _ = some _; simp)), trivial⟩ rfl (by first | rfl | (simp))) ?_
  rintro n ⟨hin, hnm0⟩
  refine SCode.seq ?_
  refine SCode.seq ?_
  rcases (show (n < m) ∨ (n = m ∧ m = ptN l) ∨ (n = m ∧ m < ptN l ∧ ¬ lenP l i m ≤ w) from by rcases Nat.lt_or_ge n m with h | h; exact .inl h; exact .inr (hstop.imp (fun h2 => ⟨by omega, h2⟩) (fun h2 => ⟨by omega, h2⟩))) with hnm | ⟨hnm, hst⟩ | ⟨hnm, hst, hst2⟩
  · apply SCode.drawAuto mixed_ [9, 10, 11, 12, 13, 14, 15, 16, 17, 18, 19, 20, 21, 22, 23, 24, 25, 26] [[.inr 6], [.inr 0], [.inl 1], [.inl 2], [.inl 3], [.inl 4], [.inl 0, .inl 5], [.inl 6], [.inl 7, .inr 0], [.inl 7, .inr 1], [.inl 7, .inr 6], [.inl 7, .inl 8, .inl 9, .inl 10], [.inl 7, .inr 0], [.inl 7, .inl 12], [.inl 7, .inl 13], [.inl 7, .inl 14], [.inl 7, .inl 11, .inl 15], [.inl 7, .inl 16]]
    · kernel_rfl
    · kernel_rfl
    · apply DOk.cons 9 
      · rfl
      · exact (NeedIs.inr _ rfl NeedIs.nil)
      · intro rest
        refine SOps.move rfl ?_
        exact SOps.nil rfl
      apply DOk.cons 10 
      · rfl
      · exact (NeedIs.inr _ rfl NeedIs.nil)
      · intro rest
        refine SOps.move rfl ?_
        exact SOps.nil rfl
      apply DOk.cons 11 
      · rfl
      · exact (NeedIs.inl 0 _ _ rfl rfl NeedIs.nil)
      · intro rest
        refine SOps.nilCheck rfl rfl ?_
        exact SOps.nil rfl
      apply DOk.cons 12 
      · rfl
      · exact (NeedIs.inl 0 _ _ rfl rfl NeedIs.nil)
      · intro rest
        refine SOps.fieldPin rfl fieldB_62_1_1 ?_
        exact SOps.nil rfl
      apply DOk.cons 13 
      · rfl
      · exact (NeedIs.inl 0 _ _ rfl rfl NeedIs.nil)
      · intro rest
        refine SOps.loadPin rfl flatB_60 ?_
        exact SOps.nil rfl
      apply DOk.cons 14 
      · rfl
      · exact (NeedIs.inl 0 _ _ rfl rfl NeedIs.nil)
      · intro rest
        refine SOps.lenM rfl sliceB_60_67_3 ?_
        exact SOps.nil rfl
      apply DOk.cons 15 (.v (.bool true))
      · rfl
      · exact (NeedIs.inl 5 _ _ rfl rfl (NeedIs.inl 0 _ _ rfl rfl NeedIs.nil))
      · intro rest
        refine SOps.bin rfl rfl rfl ?_
        exact SOps.nil (congrArg (fun b => St.put _ 15 (.v (.bool b))) (decide_eq_true (by omega)))
      apply DOk.cons 16 
      · rfl
      · exact (NeedIs.inl 0 _ _ rfl rfl NeedIs.nil)
      · intro rest
        refine SOps.move rfl ?_
        exact SOps.nil rfl
      apply DOk.cons 17 
      · rfl
      · exact (NeedIs.inl 0 _ _ rfl rfl (NeedIs.inr _ rfl NeedIs.nil))
      · intro rest
        refine SOps.move rfl ?_
        exact SOps.nil rfl
      apply DOk.cons 18 
      · rfl
      · exact (NeedIs.inl 1 _ _ rfl rfl (NeedIs.inr _ rfl NeedIs.nil))
      · intro rest
        refine SOps.move rfl ?_
        exact SOps.nil rfl
      apply DOk.cons 19 
      · rfl
      · exact (NeedIs.inl 2 _ _ rfl rfl (NeedIs.inr _ rfl NeedIs.nil))
      · intro rest
        refine SOps.move rfl ?_
        exact SOps.nil rfl
      apply DOk.cons 20 
      · rfl
      · exact (NeedIs.inl 3 _ _ rfl rfl (NeedIs.inl 2 _ _ rfl rfl (NeedIs.inl 1 _ _ rfl rfl (NeedIs.inl 0 _ _ rfl rfl NeedIs.nil))))
      · intro rest
        refine SOps.callP (sLength l w i n hn (by omega) (by omega)) rfl ?_
        rintro _ rfl
        exact SOps.nil rfl
      apply DOk.cons 21 
      · rfl
      · exact (NeedIs.inl 4 _ _ rfl rfl (NeedIs.inr _ rfl NeedIs.nil))
      · intro rest
        refine SOps.move rfl ?_
        exact SOps.nil rfl
      apply DOk.cons 22 
      · rfl
      · exact (NeedIs.inl 5 _ _ rfl rfl (NeedIs.inl 0 _ _ rfl rfl NeedIs.nil))
      · intro rest
        refine SOps.nilCheck rfl rfl ?_
        exact SOps.nil rfl
      apply DOk.cons 23 
      · rfl
      · exact (NeedIs.inl 6 _ _ rfl rfl (NeedIs.inl 0 _ _ rfl rfl NeedIs.nil))
      · intro rest
        refine SOps.fieldPin rfl fieldB_62_2_2 ?_
        exact SOps.nil rfl
      apply DOk.cons 24 
      · rfl
      · exact (NeedIs.inl 7 _ _ rfl rfl (NeedIs.inl 0 _ _ rfl rfl NeedIs.nil))
      · intro rest
        refine SOps.loadPin rfl flatB_3 ?_
        exact SOps.nil rfl
      apply DOk.cons 25 (.v (.bool true))
      · rfl
      · exact (NeedIs.inl 8 _ _ rfl rfl (NeedIs.inl 4 _ _ rfl rfl (NeedIs.inl 0 _ _ rfl rfl NeedIs.nil)))
      · intro rest
        refine SOps.bin rfl rfl rfl ?_
        exact SOps.nil (congrArg (fun b => St.put _ 25 (.v (.bool b))) (decide_eq_true (hfit n hin hnm)))
      apply DOk.cons 26 
      · rfl
      · exact (NeedIs.inl 9 _ _ rfl rfl (NeedIs.inl 0 _ _ rfl rfl NeedIs.nil))
      · intro rest
        refine SOps.pick rfl rfl ?_
        exact SOps.nil rfl
      exact DOk.nil
    · rfl
    · show SCode _ _ _ _
      refine SCode.cond rfl (fun _ => ?_) (fun h => by cases h)
      refine SCode.skip ?_
      show SCode _ _ _ _
      refine SCode.seq ?_
      refine SCode.block ?_
      refine SCode.region ?_
      refine SOps.move rfl ?_
      refine SOps.move rfl ?_
      refine SOps.callV (H := S n) (G := []) rfl rfl (hf n hin hnm) (List.append_nil _).symm (fun d H h => ?_)
      subst h
      rw [List.append_nil]
      refine SOps.nil ?_
      show SCode _ _ _ _
      refine SCode.region ?_
      refine SOps.move rfl ?_
      refine SOps.addI rfl rfl (by first | omega | (simp only [lenB] <;> omega)) (by first | omega | (simp only [lenB] <;> omega)) ?_
      refine SOps.assign rfl ?_
      refine SOps.nil ?_
      exact ⟨n + 1, ⟨by omega, by omega⟩, by omega, St.Le.of ⟨rfl, rfl, rfl, rfl, trivial⟩⟩
  · apply SCode.drawAuto mixed_ [9, 10, 11, 12, 13, 14, 15, 16, 17, 18, 19, 20, 21, 22, 23, 24, 25, 26] [[.inr 6], [.inr 0], [.inl 1], [.inl 2], [.inl 3], [.inl 4], [.inl 0, .inl 5], [.inl 6], [.inl 7], [.inl 7], [.inl 7], [.inl 7], [.inl 7], [.inl 7], [.inl 7], [.inl 7], [.inl 7], [.inl 7, .inl 16]]
    · kernel_rfl
    · kernel_rfl
    · apply DOk.cons 9 
      · rfl
      · exact (NeedIs.inr _ rfl NeedIs.nil)
      · intro rest
        refine SOps.move rfl ?_
        exact SOps.nil rfl
      apply DOk.cons 10 
      · rfl
      · exact (NeedIs.inr _ rfl NeedIs.nil)
      · intro rest
        refine SOps.move rfl ?_
        exact SOps.nil rfl
      apply DOk.cons 11 
      · rfl
      · exact (NeedIs.inl 0 _ _ rfl rfl NeedIs.nil)
      · intro rest
        refine SOps.nilCheck rfl rfl ?_
        exact SOps.nil rfl
      apply DOk.cons 12 
      · rfl
      · exact (NeedIs.inl 0 _ _ rfl rfl NeedIs.nil)
      · intro rest
        refine SOps.fieldPin rfl fieldB_62_1_1 ?_
        exact SOps.nil rfl
      apply DOk.cons 13 
      · rfl
      · exact (NeedIs.inl 0 _ _ rfl rfl NeedIs.nil)
      · intro rest
        refine SOps.loadPin rfl flatB_60 ?_
        exact SOps.nil rfl
      apply DOk.cons 14 
      · rfl
      · exact (NeedIs.inl 0 _ _ rfl rfl NeedIs.nil)
      · intro rest
        refine SOps.lenM rfl sliceB_60_67_3 ?_
        exact SOps.nil rfl
      apply DOk.cons 15 (.v (.bool false))
      · rfl
      · exact (NeedIs.inl 5 _ _ rfl rfl (NeedIs.inl 0 _ _ rfl rfl NeedIs.nil))
      · intro rest
        refine SOps.bin rfl rfl rfl ?_
        exact SOps.nil (congrArg (fun b => St.put _ 15 (.v (.bool b))) (decide_eq_false (by omega)))
      apply DOk.cons 16 
      · rfl
      · exact (NeedIs.inl 0 _ _ rfl rfl NeedIs.nil)
      · intro rest
        refine SOps.move rfl ?_
        exact SOps.nil rfl
      apply DOk.cons 17 
      · rfl
      · exact (NeedIs.inl 0 _ _ rfl rfl NeedIs.nil)
      · intro rest
        refine SOps.skip rfl ?_
        exact SOps.nil rfl
      apply DOk.cons 18 
      · rfl
      · exact (NeedIs.inl 1 _ _ rfl rfl NeedIs.nil)
      · intro rest
        refine SOps.skip rfl ?_
        exact SOps.nil rfl
      apply DOk.cons 19 
      · rfl
      · exact (NeedIs.inl 2 _ _ rfl rfl NeedIs.nil)
      · intro rest
        refine SOps.skip rfl ?_
        exact SOps.nil rfl
      apply DOk.cons 20 
      · rfl
      · exact (NeedIs.inl 3 _ _ rfl rfl NeedIs.nil)
      · intro rest
        refine SOps.skip rfl ?_
        exact SOps.nil rfl
      apply DOk.cons 21 
      · rfl
      · exact (NeedIs.inl 4 _ _ rfl rfl NeedIs.nil)
      · intro rest
        refine SOps.skip rfl ?_
        exact SOps.nil rfl
      apply DOk.cons 22 
      · rfl
      · exact (NeedIs.inl 5 _ _ rfl rfl NeedIs.nil)
      · intro rest
        refine SOps.skip rfl ?_
        exact SOps.nil rfl
      apply DOk.cons 23 
      · rfl
      · exact (NeedIs.inl 6 _ _ rfl rfl NeedIs.nil)
      · intro rest
        refine SOps.skip rfl ?_
        exact SOps.nil rfl
      apply DOk.cons 24 
      · rfl
      · exact (NeedIs.inl 7 _ _ rfl rfl NeedIs.nil)
      · intro rest
        refine SOps.skip rfl ?_
        exact SOps.nil rfl
      apply DOk.cons 25 
      · rfl
      · exact (NeedIs.inl 8 _ _ rfl rfl NeedIs.nil)
      · intro rest
        refine SOps.skip rfl ?_
        exact SOps.nil rfl
      apply DOk.cons 26 
      · rfl
      · exact (NeedIs.inl 9 _ _ rfl rfl (NeedIs.inl 0 _ _ rfl rfl NeedIs.nil))
      · intro rest
        refine SOps.pick rfl rfl ?_
        exact SOps.nil rfl
      exact DOk.nil
    · rfl
    · show SCode _ _ _ _
      refine SCode.cond rfl (fun h => by cases h) (fun _ => ?_)
      refine SCode.exit ?_
      exact ⟨_, Res.none, by rw [hnm]⟩
  · apply SCode.drawAuto mixed_ [9, 10, 11, 12, 13, 14, 15, 16, 17, 18, 19, 20, 21, 22, 23, 24, 25, 26] [[.inr 6], [.inr 0], [.inl 1], [.inl 2], [.inl 3], [.inl 4], [.inl 0, .inl 5], [.inl 6], [.inl 7, .inr 0], [.inl 7, .inr 1], [.inl 7, .inr 6], [.inl 7, .inl 8, .inl 9, .inl 10], [.inl 7, .inr 0], [.inl 7, .inl 12], [.inl 7, .inl 13], [.inl 7, .inl 14], [.inl 7, .inl 11, .inl 15], [.inl 7, .inl 16]]
    · kernel_rfl
    · kernel_rfl
    · apply DOk.cons 9 
      · rfl
      · exact (NeedIs.inr _ rfl NeedIs.nil)
      · intro rest
        refine SOps.move rfl ?_
        exact SOps.nil rfl
      apply DOk.cons 10 
      · rfl
      · exact (NeedIs.inr _ rfl NeedIs.nil)
      · intro rest
        refine SOps.move rfl ?_
        exact SOps.nil rfl
      apply DOk.cons 11 
      · rfl
      · exact (NeedIs.inl 0 _ _ rfl rfl NeedIs.nil)
      · intro rest
        refine SOps.nilCheck rfl rfl ?_
        exact SOps.nil rfl
      apply DOk.cons 12 
      · rfl
      · exact (NeedIs.inl 0 _ _ rfl rfl NeedIs.nil)
      · intro rest
        refine SOps.fieldPin rfl fieldB_62_1_1 ?_
        exact SOps.nil rfl
      apply DOk.cons 13 
      · rfl
      · exact (NeedIs.inl 0 _ _ rfl rfl NeedIs.nil)
      · intro rest
        refine SOps.loadPin rfl flatB_60 ?_
        exact SOps.nil rfl
      apply DOk.cons 14 
      · rfl
      · exact (NeedIs.inl 0 _ _ rfl rfl NeedIs.nil)
      · intro rest
        refine SOps.lenM rfl sliceB_60_67_3 ?_
        exact SOps.nil rfl
      apply DOk.cons 15 (.v (.bool true))
      · rfl
      · exact (NeedIs.inl 5 _ _ rfl rfl (NeedIs.inl 0 _ _ rfl rfl NeedIs.nil))
      · intro rest
        refine SOps.bin rfl rfl rfl ?_
        exact SOps.nil (congrArg (fun b => St.put _ 15 (.v (.bool b))) (decide_eq_true (by omega)))
      apply DOk.cons 16 
      · rfl
      · exact (NeedIs.inl 0 _ _ rfl rfl NeedIs.nil)
      · intro rest
        refine SOps.move rfl ?_
        exact SOps.nil rfl
      apply DOk.cons 17 
      · rfl
      · exact (NeedIs.inl 0 _ _ rfl rfl (NeedIs.inr _ rfl NeedIs.nil))
      · intro rest
        refine SOps.move rfl ?_
        exact SOps.nil rfl
      apply DOk.cons 18 
      · rfl
      · exact (NeedIs.inl 1 _ _ rfl rfl (NeedIs.inr _ rfl NeedIs.nil))
      · intro rest
        refine SOps.move rfl ?_
        exact SOps.nil rfl
      apply DOk.cons 19 
      · rfl
      · exact (NeedIs.inl 2 _ _ rfl rfl (NeedIs.inr _ rfl NeedIs.nil))
      · intro rest
        refine SOps.move rfl ?_
        exact SOps.nil rfl
      apply DOk.cons 20 
      · rfl
      · exact (NeedIs.inl 3 _ _ rfl rfl (NeedIs.inl 2 _ _ rfl rfl (NeedIs.inl 1 _ _ rfl rfl (NeedIs.inl 0 _ _ rfl rfl NeedIs.nil))))
      · intro rest
        refine SOps.callP (sLength l w i n hn (by omega) (by omega)) rfl ?_
        rintro _ rfl
        exact SOps.nil rfl
      apply DOk.cons 21 
      · rfl
      · exact (NeedIs.inl 4 _ _ rfl rfl (NeedIs.inr _ rfl NeedIs.nil))
      · intro rest
        refine SOps.move rfl ?_
        exact SOps.nil rfl
      apply DOk.cons 22 
      · rfl
      · exact (NeedIs.inl 5 _ _ rfl rfl (NeedIs.inl 0 _ _ rfl rfl NeedIs.nil))
      · intro rest
        refine SOps.nilCheck rfl rfl ?_
        exact SOps.nil rfl
      apply DOk.cons 23 
      · rfl
      · exact (NeedIs.inl 6 _ _ rfl rfl (NeedIs.inl 0 _ _ rfl rfl NeedIs.nil))
      · intro rest
        refine SOps.fieldPin rfl fieldB_62_2_2 ?_
        exact SOps.nil rfl
      apply DOk.cons 24 
      · rfl
      · exact (NeedIs.inl 7 _ _ rfl rfl (NeedIs.inl 0 _ _ rfl rfl NeedIs.nil))
      · intro rest
        refine SOps.loadPin rfl flatB_3 ?_
        exact SOps.nil rfl
      apply DOk.cons 25 (.v (.bool false))
      · rfl
      · exact (NeedIs.inl 8 _ _ rfl rfl (NeedIs.inl 4 _ _ rfl rfl (NeedIs.inl 0 _ _ rfl rfl NeedIs.nil)))
      · intro rest
        refine SOps.bin rfl rfl rfl ?_
        exact SOps.nil (congrArg (fun b => St.put _ 25 (.v (.bool b))) (decide_eq_false (by rw [hnm]; exact hst2)))
      apply DOk.cons 26 
      · rfl
      · exact (NeedIs.inl 9 _ _ rfl rfl (NeedIs.inl 0 _ _ rfl rfl NeedIs.nil))
      · intro rest
        refine SOps.pick rfl rfl ?_
        exact SOps.nil rfl
      exact DOk.nil
    · rfl
    · show SCode _ _ _ _
      refine SCode.cond rfl (fun h => by cases h) (fun _ => ?_)
      refine SCode.exit ?_
      exact ⟨_, Res.none, by rw [hnm]⟩
end Go.GH
namespace Go.GH
open Go Go.RowKit
section
variable {C : Ctx} {E : Env} {base : Base} {F : Nat → Prop} {st : St} {a : Act} {w : World} {ops : Array Oper} {rest : List Oper} {R : St → Prop}
  {t : Tmp} {ty : TypeId} {pos : String} {aft : Array Edge} {g : Option (Nat × Bool)}
theorem SOps.minI {T U : TypeId} {xo yo : Operand} {k k' : IntKind} {x y : Int} (hx : st.val xo = some (.v (.int k x))) (hy : st.val yo = some (.v (.int k' y))) (hk : k.has (if y < x then y else x))
    (hrest : SOps C ops rest (st.put t (.v (.int k (if y < x then y else x)))) R)
    (hg : st.wants ops g = some true := by rfl) (ht : Nat.blt t st.n = true := by rfl) : SOps C ops (⟨some t, .call { callee := .builtin .min, args := #[xo, yo], argTypes := #[T, U] }, ty, pos, aft, g⟩ :: rest) st R :=
  SOps.val rfl hg ht (fun base a w F hs => by
    obtain ⟨h1, _⟩ := (hs.val hx).inv_v
    obtain ⟨h2, _⟩ := (hs.val hy).inv_v
    refine ⟨.int k (if y < x then y else x), ?_, .v hk⟩
    simp [execOp, resolve, invoke, builtin, h1, h2, Builtin.min_, Builtin.min2]) hrest
end
theorem SCode.drawAuto1 {C : Ctx} {id : Nat} {l : List Oper} {n : Nat} {s : List (Nat × DV)} {H : DHeap} {Q : Exit → St → Prop} {E : List (Nat × DV)} {o : Oper} (m f : Nat) (hm : C.P.follows .mixedOrders = true) (ts : List Nat) (srcs : List (List (Nat ⊕ Nat)))
    (hB : drawB (l.take m) ts srcs = true) (hd : distB ts = true) (hord : ordB l = true) (hseq : seqB l m f = true) (hml : (l.take m).length = m) (hl : l.drop m = [o]) (hops : DOk C l.toArray n H s [] (l.take m) srcs E) (hts : E.map (·.1) = ts)
    (hQ : SOps C l.toArray [o] ⟨n, E ++ s, H⟩ (fun st => Q .normal st)) : SCode C (.region id l.toArray true) ⟨n, s, H⟩ Q :=
  SCode.drawSeqAt m (fun st => Q .normal st) f hm E ts srcs _ hts hB hd hord hseq hml rfl hops.ops
    (by rw [hl]; exact .cons (fun st hle => SOps.weaken hle hQ) .nil) (fun st h => ⟨st, ⟨rfl, fun t d h => .inl h, _, .refl _, List.Sublist.refl _⟩, h⟩)
end Go.GH
namespace Go.GH
open Go Go.Proofs
variable {E : Env}
theorem oneB_3 : oneB Tryd.prog 3 = true := by kernel_rfl
theorem sGreedy1 (nx : List Int) (b i : Nat) (n : Int) (hi : i < nx.length) : GCall Tryd.prog E 50 [.v (.int .i64 n), .ipin [.sl b 1 0 nx.length], .ipin [.v (.int .i64 ((i : Nat) : Int))]] [(b, .row 3 1 (nx.map encI))] (fun d H => H = [(b, .row 3 1 ((nx.set i n).map encI))]) := by
  refine GCall.body (C := ⟨Tryd.prog, E, false⟩) Tryd.func50 rfl (fun h => by cases h) (by kernel_rfl) rfl ?_
  refine SCode.region ?_
  refine SOps.loadPin rfl flatB_41 ?_
  refine SOps.loadPin rfl flatB_3 ?_
  refine SOps.move rfl ?_
  refine SOps.indexS (i) rfl rfl sliceB_41_3_1 (by first | omega | (simp only [lenB] <;> omega)) (by first | omega | (simp only [lenB] <;> omega)) ?_
  refine SOps.storeK 0 (i) rfl rfl oneB_3 rfl (by first | omega | (simp only [lenB] <;> omega)) (by first | omega | (simp; done) | (simp; omega)) rfl (fun _ => rfl) ?_
  refine SOps.nil ?_
  exact ⟨_, Res.none, by rw [List.map_set] <;> rfl⟩
theorem sBreaks1 (bs : List Int) (b i n : Nat) (hi : i < bs.length) (hn : n < bs.length) (hb : ∀ x ∈ bs, 0 ≤ x ∧ x ≤ 1099511627776) : GCall Tryd.prog E 51 [.v (.int .i64 ((n : Nat) : Int)), .ipin [.sl b 1 0 bs.length], .ipin [.v (.int .i64 ((i : Nat) : Int))]] [(b, .row 3 1 (bs.map encI))] (fun d H => H = [(b, .row 3 1 ((bs.set i (if (1099511627776 : Int) < bs[i] + bs[n] then 1099511627776 else bs[i] + bs[n])).map encI))]) := by
  have hbi := hb _ (List.getElem_mem hi)
  have hbn := hb _ (List.getElem_mem hn)
  refine GCall.body (C := ⟨Tryd.prog, E, false⟩) Tryd.func51 rfl (fun h => by cases h) (by kernel_rfl) rfl ?_
  apply SCode.drawAuto1 13 15 mixed_ [4, 5, 6, 7, 8, 9, 10, 11, 12, 13, 14, 15, 16] [[.inr 1], [.inr 2], [.inr 1], [.inr 2], [.inl 2, .inl 3], [.inl 4], [.inr 1], [.inr 0], [.inl 6, .inl 7], [.inl 8], [.inl 5, .inl 9], [.inl 10], [.inl 0, .inl 1]]
  · kernel_rfl
  · kernel_rfl
  · kernel_rfl
  · kernel_rfl
  · rfl
  · rfl
  · apply DOk.cons 4 
    · rfl
    · exact (NeedIs.inr _ rfl NeedIs.nil)
    · intro rest
      refine SOps.loadPin rfl flatB_41 ?_
      exact SOps.nil rfl
    apply DOk.cons 5 
    · rfl
    · exact (NeedIs.inr _ rfl NeedIs.nil)
    · intro rest
      refine SOps.loadPin rfl flatB_3 ?_
      exact SOps.nil rfl
    apply DOk.cons 6 
    · rfl
    · exact (NeedIs.inr _ rfl NeedIs.nil)
    · intro rest
      refine SOps.loadPin rfl flatB_41 ?_
      exact SOps.nil rfl
    apply DOk.cons 7 
    · rfl
    · exact (NeedIs.inr _ rfl NeedIs.nil)
    · intro rest
      refine SOps.loadPin rfl flatB_3 ?_
      exact SOps.nil rfl
    apply DOk.cons 8 
    · rfl
    · exact (NeedIs.inl 1 _ _ rfl rfl (NeedIs.inl 0 _ _ rfl rfl NeedIs.nil))
    · intro rest
      refine SOps.indexS (i) rfl rfl sliceB_41_3_1 (by first | omega | (simp only [lenB] <;> omega)) (by first | omega | (simp only [lenB] <;> omega)) ?_
      exact SOps.nil rfl
    apply DOk.cons 9 
    · rfl
    · exact (NeedIs.inl 0 _ _ rfl rfl NeedIs.nil)
    · intro rest
      refine SOps.loadK 0 (i) rfl flatB_3 rfl (by first | omega | (simp only [lenB] <;> omega)) (by first | omega | (simp; done) | (simp; omega)) rfl ?_
      exact SOps.nil rfl
    apply DOk.cons 10 
    · rfl
    · exact (NeedIs.inr _ rfl NeedIs.nil)
    · intro rest
      refine SOps.loadPin rfl flatB_41 ?_
      exact SOps.nil rfl
    apply DOk.cons 11 
    · rfl
    · exact (NeedIs.inr _ rfl NeedIs.nil)
    · intro rest
      refine SOps.move rfl ?_
      exact SOps.nil rfl
    apply DOk.cons 12 
    · rfl
    · exact (NeedIs.inl 1 _ _ rfl rfl (NeedIs.inl 0 _ _ rfl rfl NeedIs.nil))
    · intro rest
      refine SOps.indexS (n) rfl rfl sliceB_41_3_1 (by first | omega | (simp only [lenB] <;> omega)) (by first | omega | (simp only [lenB] <;> omega)) ?_
      exact SOps.nil rfl
    apply DOk.cons 13 
    · rfl
    · exact (NeedIs.inl 0 _ _ rfl rfl NeedIs.nil)
    · intro rest
      refine SOps.loadK 0 (n) rfl flatB_3 rfl (by first | omega | (simp only [lenB] <;> omega)) (by first | omega | (simp; done) | (simp; omega)) rfl ?_
      exact SOps.nil rfl
    apply DOk.cons 14 
    · rfl
    · exact (NeedIs.inl 4 _ _ rfl rfl (NeedIs.inl 0 _ _ rfl rfl NeedIs.nil))
    · intro rest
      refine SOps.addI rfl rfl (by first | omega | (simp only [lenB] <;> omega)) (by first | omega | (simp only [lenB] <;> omega)) ?_
      exact SOps.nil rfl
    apply DOk.cons 15 
    · rfl
    · exact (NeedIs.inl 0 _ _ rfl rfl NeedIs.nil)
    · intro rest
      refine SOps.minI rfl rfl (by split <;> exact has_i64 (by first | omega | (simp only [lenB] <;> omega)) (by first | omega | (simp only [lenB] <;> omega))) ?_
      exact SOps.nil rfl
    apply DOk.cons 16 
    · rfl
    · exact (NeedIs.inl 11 _ _ rfl rfl (NeedIs.inl 10 _ _ rfl rfl NeedIs.nil))
    · intro rest
      refine SOps.indexS (i) rfl rfl sliceB_41_3_1 (by first | omega | (simp only [lenB] <;> omega)) (by first | omega | (simp only [lenB] <;> omega)) ?_
      exact SOps.nil rfl
    exact DOk.nil
  · rfl
  · refine SOps.storeK 0 (i) rfl rfl oneB_3 rfl (by first | omega | (simp only [lenB] <;> omega)) (by first | omega | (simp; done) | (simp; omega)) rfl (fun _ => rfl) ?_
    refine SOps.nil ?_
    exact ⟨_, Res.none, by rw [List.map_set] <;> rfl⟩
end Go.GH
namespace Go.GH
open Go Go.Lib
def lineC (l : List Bx) (w pen : Int) (i n : Nat) (bn : Int) : Int := bn + (if n < ptN l - 1 then (w - lenP l i n) * (w - lenP l i n) else 0) + (if 0 < (pt3 l n).2.1 then pen else 0)
def lineStep (l : List Bx) (w pen : Int) (i : Nat) (x : List Int × List Int) (n : Nat) : List Int × List Int :=
  if x.1.getD n 0 < 0 then x else if x.1.getD i 0 < 0 ∨ lineC l w pen i n (x.1.getD n 0) ≤ x.1.getD i 0 then (x.1.set i (lineC l w pen i n (x.1.getD n 0)), x.2.set i (n : Int)) else x
end Go.GH
namespace Go.GH
open Go Go.Proofs
variable {E : Env}
theorem flatB_57 : flatB Tryd.prog 57 = true := by kernel_rfl
theorem sLines1 (l : List Bx) (w pen : Int) (bs nx : List Int) (bB bN i n : Nat) (hN : Near l) (hin : i < n) (hn : n < ptN l) (hlb : bs.length = ptN l) (hln : nx.length = ptN l) (hw0 : 0 ≤ w) (hw1 : w ≤ 1000) (hp0 : 0 ≤ pen) (hp1 : pen ≤ 1000000) (hd1 : -1000000 ≤ lenP l i n) (hd2 : lenP l i n ≤ w) (hb : bs[n]'(by omega) ≤ 1000000000000000000) : GCall Tryd.prog E 41 [.v (.int .i64 ((n : Nat) : Int)), .ipin [.sl bB 1 0 bs.length], .ipin [.ipin (encPar l w)], .ipin [.v (.int .i64 ((i : Nat) : Int))], .ipin [.v (.int .i64 pen)], .ipin [.sl bN 1 0 nx.length]] [(bB, .row 3 1 (bs.map encI)), (bN, .row 3 1 (nx.map encI))] (fun d H => H = [(bB, .row 3 1 ((lineStep l w pen i (bs, nx) n).1.map encI)), (bN, .row 3 1 ((lineStep l w pen i (bs, nx) n).2.map encI))]) := by
  have hi : i < bs.length := by omega
  have hnb : n < bs.length := by omega
  have hsq := sq_bound (x := (w - lenP l i n)) (by omega) (by omega)
  have hn1 := hN.1
  have hp3 : (pts3 l).length = ptN l := rfl
  have hpt := pt3_lt (l := l) (i := n) hn
  refine GCall.body (C := ⟨Tryd.prog, E, false⟩) Tryd.func41 rfl (fun h => by cases h) (by kernel_rfl) rfl ?_
  refine SCode.seq ?_
  refine SCode.seqR ?_
  refine SOps.loadPin rfl flatB_41 ?_
  refine SOps.move rfl ?_
  refine SOps.indexS (n) rfl rfl sliceB_41_3_1 (by first | omega | (simp only [lenB] <;> omega)) (by first | omega | (simp only [lenB] <;> omega)) ?_
  refine SOps.loadK 0 (n) rfl flatB_3 rfl (by first | omega | (simp only [lenB] <;> omega)) (by first | omega | (simp; done) | (simp; omega)) rfl ?_
  refine SOps.bin rfl rfl rfl ?_
  refine SOps.nil ?_
  refine SCode.cond rfl (fun hc1 => ?_) (fun hc1 => ?_)
  · try simp only [decide_eq_true_eq, decide_eq_false_iff_not, Bool.not_eq_true', Bool.not_eq_false', beq_iff_eq, bne_iff_ne, ne_eq, beq_eq_false_iff_ne, bne_eq_false_iff_eq, Int.not_lt, Int.not_le, Nat.not_lt, Nat.not_le, Int.ofNat_lt, Int.ofNat_le, Bool.not_eq_eq_eq_not, Bool.not_true, Bool.not_false] at hc1
    refine SCode.ret ?_
    exact ⟨_, Res.none, (by have e9 : (lineStep l w pen i (bs, nx) n) = (bs, nx) := (by unfold lineStep; rw [show (bs, nx).1.getD n 0 = bs[n] from getD_int hnb, if_pos (by omega)]); rw [e9]; exact rfl)⟩
  · try simp only [decide_eq_true_eq, decide_eq_false_iff_not, Bool.not_eq_true', Bool.not_eq_false', beq_iff_eq, bne_iff_ne, ne_eq, beq_eq_false_iff_ne, bne_eq_false_iff_eq, Int.not_lt, Int.not_le, Nat.not_lt, Nat.not_le, Int.ofNat_lt, Int.ofNat_le, Bool.not_eq_eq_eq_not, Bool.not_true, Bool.not_false] at hc1
    refine SCode.skip ?_
    show SCode _ _ _ _
    refine SCode.seqR ?_
    refine SOps.loadPin rfl flatB_41 ?_
    refine SOps.move rfl ?_
    refine SOps.indexS (n) rfl rfl sliceB_41_3_1 (by first | omega | (simp only [lenB] <;> omega)) (by first | omega | (simp only [lenB] <;> omega)) ?_
    refine SOps.loadK 0 (n) rfl flatB_3 rfl (by first | omega | (simp only [lenB] <;> omega)) (by first | omega | (simp; done) | (simp; omega)) rfl ?_
    refine SOps.assign rfl ?_
    refine SOps.nil ?_
    refine SCode.seq ?_
    refine SCode.seqR ?_
    refine SOps.move rfl ?_
    refine SOps.loadPin rfl flatB_57 ?_
    refine SOps.callP (sLast l w hN) rfl ?_
    rintro _ rfl
    refine SOps.bin rfl rfl rfl ?_
    refine SOps.nil ?_
    refine SCode.cond rfl (fun hc2 => ?_) (fun hc2 => ?_)
    · try simp only [decide_eq_true_eq, decide_eq_false_iff_not, Bool.not_eq_true', Bool.not_eq_false', beq_iff_eq, bne_iff_ne, ne_eq, beq_eq_false_iff_ne, bne_eq_false_iff_eq, Int.not_lt, Int.not_le, Nat.not_lt, Nat.not_le, Int.ofNat_lt, Int.ofNat_le, Bool.not_eq_eq_eq_not, Bool.not_true, Bool.not_false] at hc2
      refine SCode.seq ?_
      apply SCode.drawAuto mixed_ [22, 23, 24, 25, 26, 27, 28, 29, 30, 8] [[.inr 2], [.inl 0], [.inl 1], [.inl 2], [.inr 2], [.inr 3], [.inr 0], [.inl 4, .inl 5, .inl 6], [.inl 3, .inl 7], [.inl 8]]
      · kernel_rfl
      · kernel_rfl
      · apply DOk.cons 22 
        · rfl
        · exact (NeedIs.inr _ rfl NeedIs.nil)
        · intro rest
          refine SOps.loadPin rfl flatB_57 ?_
          exact SOps.nil rfl
        apply DOk.cons 23 
        · rfl
        · exact (NeedIs.inl 0 _ _ rfl rfl NeedIs.nil)
        · intro rest
          refine SOps.nilCheck rfl rfl ?_
          exact SOps.nil rfl
        apply DOk.cons 24 
        · rfl
        · exact (NeedIs.inl 0 _ _ rfl rfl NeedIs.nil)
        · intro rest
          refine SOps.fieldPin rfl fieldB_62_2_2 ?_
          exact SOps.nil rfl
        apply DOk.cons 25 
        · rfl
        · exact (NeedIs.inl 0 _ _ rfl rfl NeedIs.nil)
        · intro rest
          refine SOps.loadPin rfl flatB_3 ?_
          exact SOps.nil rfl
        apply DOk.cons 26 
        · rfl
        · exact (NeedIs.inr _ rfl NeedIs.nil)
        · intro rest
          refine SOps.loadPin rfl flatB_57 ?_
          exact SOps.nil rfl
        apply DOk.cons 27 
        · rfl
        · exact (NeedIs.inr _ rfl NeedIs.nil)
        · intro rest
          refine SOps.loadPin rfl flatB_3 ?_
          exact SOps.nil rfl
        apply DOk.cons 28 
        · rfl
        · exact (NeedIs.inr _ rfl NeedIs.nil)
        · intro rest
          refine SOps.move rfl ?_
          exact SOps.nil rfl
        apply DOk.cons 29 
        · rfl
        · exact (NeedIs.inl 2 _ _ rfl rfl (NeedIs.inl 1 _ _ rfl rfl (NeedIs.inl 0 _ _ rfl rfl NeedIs.nil)))
        · intro rest
          refine SOps.callP (sLength l w i n hN (by omega) hn) rfl ?_
          rintro _ rfl
          exact SOps.nil rfl
        apply DOk.cons 30 
        · rfl
        · exact (NeedIs.inl 4 _ _ rfl rfl (NeedIs.inl 0 _ _ rfl rfl NeedIs.nil))
        · intro rest
          refine SOps.subI rfl rfl (by first | omega | (simp only [lenB] <;> omega)) (by first | omega | (simp only [lenB] <;> omega)) ?_
          exact SOps.nil rfl
        apply DOk.cons 8 
        · rfl
        · exact (NeedIs.inl 0 _ _ rfl rfl NeedIs.nil)
        · intro rest
          refine SOps.assign rfl ?_
          exact SOps.nil rfl
        exact DOk.nil
      · rfl
      · show SCode _ _ _ _
        refine SCode.region ?_
        refine SOps.move rfl ?_
        refine SOps.move rfl ?_
        refine SOps.move rfl ?_
        refine SOps.bin rfl rfl rfl ?_
        refine SOps.reSlot (t := 34) rfl (show _ = DV.v (.int .i64 ((w - lenP l i n) * (w - lenP l i n))) from congrArg (fun z => DV.v (.int .i64 z)) (wrap_id (has_i64 (by omega) (by omega)))) ?_
        refine SOps.addI rfl rfl (by first | omega | (simp only [lenB] <;> omega)) (by first | omega | (simp only [lenB] <;> omega)) ?_
        refine SOps.assign rfl ?_
        refine SOps.nil ?_
        show SCode _ _ _ _
        refine SCode.seq ?_
        refine SCode.seqR ?_
        refine SOps.loadPin rfl flatB_57 ?_
        refine SOps.nilCheck rfl rfl ?_
        refine SOps.fieldPin rfl fieldB_62_1_1 ?_
        refine SOps.loadPin rfl flatB_60 ?_
        refine SOps.move rfl ?_
        refine SOps.indexM (n) rfl rfl sliceB_60_67_3 (by first | omega | (simp only [lenB] <;> omega)) (by first | omega | (simp only [lenB] <;> omega)) ?_
        refine SOps.fieldPin rfl fieldB_67_1_1 ?_
        refine SOps.loadPin rfl flatB_3 ?_
        refine SOps.bin rfl rfl rfl ?_
        refine SOps.nil ?_
        refine SCode.cond rfl (fun hc3 => ?_) (fun hc3 => ?_)
        · try simp only [decide_eq_true_eq, decide_eq_false_iff_not, Bool.not_eq_true', Bool.not_eq_false', beq_iff_eq, bne_iff_ne, ne_eq, beq_eq_false_iff_ne, bne_eq_false_iff_eq, Int.not_lt, Int.not_le, Nat.not_lt, Nat.not_le, Int.ofNat_lt, Int.ofNat_le, Bool.not_eq_eq_eq_not, Bool.not_true, Bool.not_false] at hc3
          refine SCode.region ?_
          refine SOps.move rfl ?_
          refine SOps.loadPin rfl flatB_3 ?_
          refine SOps.addI rfl rfl (by first | omega | (simp only [lenB] <;> omega)) (by first | omega | (simp only [lenB] <;> omega)) ?_
          refine SOps.assign rfl ?_
          refine SOps.nil ?_
          show SCode _ _ _ _
          refine SCode.seqR ?_
          have hlc : (lineC l w pen i n bs[n]) = _ := rfl
          refine SOps.reSlot (t := 7) rfl (show _ = DV.v (.int .i64 (lineC l w pen i n bs[n])) from congrArg (fun z => DV.v (.int .i64 z)) (by unfold lineC; rw [hpt]; first | rw [if_pos (by omega), if_pos (by omega)] | (rw [if_pos (by omega), if_neg (by omega)]; omega) | (rw [if_neg (by omega), if_pos (by omega)]; omega) | (rw [if_neg (by omega), if_neg (by omega)]; omega))) ?_
          have hgi : bs.getD i 0 = bs[i] := getD_int hi
          have hgn : bs.getD n 0 = bs[n] := getD_int hnb
          refine SOps.loadPin rfl flatB_41 ?_
          refine SOps.loadPin rfl flatB_3 ?_
          refine SOps.indexS (i) rfl rfl sliceB_41_3_1 (by first | omega | (simp only [lenB] <;> omega)) (by first | omega | (simp only [lenB] <;> omega)) ?_
          refine SOps.loadK 0 (i) rfl flatB_3 rfl (by first | omega | (simp only [lenB] <;> omega)) (by first | omega | (simp; done) | (simp; omega)) rfl ?_
          refine SOps.bin rfl rfl rfl ?_
          refine SOps.move rfl ?_
          refine SOps.caseB 53 rfl (fun hb4 => ?_) (fun hb4 => ?_)
          · try simp only [decide_eq_true_eq, decide_eq_false_iff_not, Bool.not_eq_true', Bool.not_eq_false', beq_iff_eq, bne_iff_ne, ne_eq, beq_eq_false_iff_ne, bne_eq_false_iff_eq, Int.not_lt, Int.not_le, Nat.not_lt, Nat.not_le, Int.ofNat_lt, Int.ofNat_le, Bool.not_eq_eq_eq_not, Bool.not_true, Bool.not_false] at hb4
            refine SOps.skip rfl ?_
            refine SOps.skip rfl ?_
            refine SOps.skip rfl ?_
            refine SOps.skip rfl ?_
            refine SOps.skip rfl ?_
            refine SOps.skip rfl ?_
            refine SOps.pick rfl rfl ?_
            refine SOps.nil ?_
            refine SCode.cond rfl (fun _ => ?_) (fun h => by cases h)
            apply SCode.drawG 11 [some 61, some 62, some 63, some 64, some 65, some 66, some 67, none, some 68, none] [[.inr 1], [.inr 3], [.inr 5], [.inr 3], [.inr 7], [.inr 0], [.inl 0, .inl 1], [.inl 6, .inl 4], [.inl 2, .inl 3], [.inl 8, .inl 5]] [[7], [9]] [none, none, none, none, none, none, none, some (0, 0), none, some (1, 0)] [[], [], [], [], [], [], [], [], [], []] ([]) [⟨[7], fun ids c => match c with | 0 => [(bB, .row 3 1 (bs.map encI))] | _ => [(bB, .row 3 1 ((bs.set i (lineC l w pen i n bs[n])).map encI))]⟩, ⟨[9], fun ids c => match c with | 0 => [(bN, .row 3 1 (nx.map encI))] | _ => [(bN, .row 3 1 ((nx.set i (n : Int)).map encI))]⟩] mixed_
            · kernel_rfl
            · rfl
            · exact fun _ => .refl _
            · apply GOk.rd 61
              · rfl
              · exact fun b => (NeedG.inr _ rfl NeedG.nil)
              · intro b rest ext
                refine SOps.loadPin rfl flatB_41 ?_
                exact SOps.nil rfl
              apply GOk.rd 62
              · rfl
              · exact fun b => (NeedG.inr _ rfl NeedG.nil)
              · intro b rest ext
                refine SOps.loadPin rfl flatB_3 ?_
                exact SOps.nil rfl
              apply GOk.rd 63
              · rfl
              · exact fun b => (NeedG.inr _ rfl NeedG.nil)
              · intro b rest ext
                refine SOps.loadPin rfl flatB_41 ?_
                exact SOps.nil rfl
              apply GOk.rd 64
              · rfl
              · exact fun b => (NeedG.inr _ rfl NeedG.nil)
              · intro b rest ext
                refine SOps.loadPin rfl flatB_3 ?_
                exact SOps.nil rfl
              apply GOk.rd 65
              · rfl
              · exact fun b => (NeedG.inr _ rfl NeedG.nil)
              · intro b rest ext
                refine SOps.move rfl ?_
                exact SOps.nil rfl
              apply GOk.rd 66
              · rfl
              · exact fun b => (NeedG.inr _ rfl NeedG.nil)
              · intro b rest ext
                refine SOps.move rfl ?_
                exact SOps.nil rfl
              apply GOk.rd 67
              · rfl
              · exact fun b => (NeedG.inl 5 _ _ rfl rfl rfl (NeedG.inl 4 _ _ rfl rfl rfl NeedG.nil))
              · intro b rest ext
                refine SOps.indexS (i) rfl rfl sliceB_41_3_1 (by first | omega | (simp only [lenB] <;> omega)) (by first | omega | (simp only [lenB] <;> omega)) ?_
                exact SOps.nil rfl
              apply GOk.act [] (fun _ => none)
              · rfl
              · rfl
              · rfl
              · exact fun b => (NeedG.inl 0 _ _ rfl rfl rfl (NeedG.inl 2 _ _ rfl rfl rfl NeedG.nil))
              · intro b rest ext
                refine SOps.storeK 0 (i) rfl rfl oneB_3 rfl (by first | omega | (simp only [lenB] <;> omega)) (by first | omega | (simp; done) | (simp; omega)) rfl (fun _ => rfl) ?_
                exact SOps.nil ⟨b, fun _ _ => rfl, ⟨rfl, fun t d h => .inl h, _, .refl _, .refl _⟩⟩
              apply GOk.rd 68
              · rfl
              · exact fun b => (NeedG.inl 5 _ _ rfl rfl rfl (NeedG.inl 4 _ _ rfl rfl rfl NeedG.nil))
              · intro b rest ext
                refine SOps.indexS (i) rfl rfl sliceB_41_3_1 (by first | omega | (simp only [lenB] <;> omega)) (by first | omega | (simp only [lenB] <;> omega)) ?_
                exact SOps.nil rfl
              apply GOk.act [] (fun _ => none)
              · rfl
              · rfl
              · rfl
              · exact fun b => (NeedG.inl 0 _ _ rfl rfl rfl (NeedG.inl 3 _ _ rfl rfl rfl NeedG.nil))
              · intro b rest ext
                refine SOps.storeK 0 (i) rfl rfl oneB_3 rfl (by first | omega | (simp only [lenB] <;> omega)) (by first | omega | (simp; done) | (simp; omega)) rfl (fun _ => rfl) ?_
                exact SOps.nil ⟨b, fun _ _ => rfl, ⟨rfl, fun t d h => .inl h, _, .refl _, .refl _⟩⟩
              exact GOk.nil
            · exact fun _ => rfl
            · intro ids
              exact ⟨_, Res.none, by unfold lineStep; dsimp only; rw [hgn, hgi, if_neg (by omega)]; first | (rw [if_pos (by omega)] <;> rfl) | (rw [if_neg (by omega)] <;> rfl)⟩
          · try simp only [decide_eq_true_eq, decide_eq_false_iff_not, Bool.not_eq_true', Bool.not_eq_false', beq_iff_eq, bne_iff_ne, ne_eq, beq_eq_false_iff_ne, bne_eq_false_iff_eq, Int.not_lt, Int.not_le, Nat.not_lt, Nat.not_le, Int.ofNat_lt, Int.ofNat_le, Bool.not_eq_eq_eq_not, Bool.not_true, Bool.not_false] at hb4
            refine SOps.move rfl ?_
            refine SOps.loadPin rfl flatB_41 ?_
            refine SOps.loadPin rfl flatB_3 ?_
            refine SOps.indexS (i) rfl rfl sliceB_41_3_1 (by first | omega | (simp only [lenB] <;> omega)) (by first | omega | (simp only [lenB] <;> omega)) ?_
            refine SOps.loadK 0 (i) rfl flatB_3 rfl (by first | omega | (simp only [lenB] <;> omega)) (by first | omega | (simp; done) | (simp; omega)) rfl ?_
            refine SOps.bin rfl rfl rfl ?_
            refine SOps.pick rfl rfl ?_
            refine SOps.nil ?_
            refine SCode.cond rfl (fun hc5 => ?_) (fun hc5 => ?_)
            · try simp only [decide_eq_true_eq, decide_eq_false_iff_not, Bool.not_eq_true', Bool.not_eq_false', beq_iff_eq, bne_iff_ne, ne_eq, beq_eq_false_iff_ne, bne_eq_false_iff_eq, Int.not_lt, Int.not_le, Nat.not_lt, Nat.not_le, Int.ofNat_lt, Int.ofNat_le, Bool.not_eq_eq_eq_not, Bool.not_true, Bool.not_false] at hc5
              apply SCode.drawG 11 [some 61, some 62, some 63, some 64, some 65, some 66, some 67, none, some 68, none] [[.inr 1], [.inr 3], [.inr 5], [.inr 3], [.inr 7], [.inr 0], [.inl 0, .inl 1], [.inl 6, .inl 4], [.inl 2, .inl 3], [.inl 8, .inl 5]] [[7], [9]] [none, none, none, none, none, none, none, some (0, 0), none, some (1, 0)] [[], [], [], [], [], [], [], [], [], []] ([]) [⟨[7], fun ids c => match c with | 0 => [(bB, .row 3 1 (bs.map encI))] | _ => [(bB, .row 3 1 ((bs.set i (lineC l w pen i n bs[n])).map encI))]⟩, ⟨[9], fun ids c => match c with | 0 => [(bN, .row 3 1 (nx.map encI))] | _ => [(bN, .row 3 1 ((nx.set i (n : Int)).map encI))]⟩] mixed_
              · kernel_rfl
              · rfl
              · exact fun _ => .refl _
              · apply GOk.rd 61
                · rfl
                · exact fun b => (NeedG.inr _ rfl NeedG.nil)
                · intro b rest ext
                  refine SOps.loadPin rfl flatB_41 ?_
                  exact SOps.nil rfl
                apply GOk.rd 62
                · rfl
                · exact fun b => (NeedG.inr _ rfl NeedG.nil)
                · intro b rest ext
                  refine SOps.loadPin rfl flatB_3 ?_
                  exact SOps.nil rfl
                apply GOk.rd 63
                · rfl
                · exact fun b => (NeedG.inr _ rfl NeedG.nil)
                · intro b rest ext
                  refine SOps.loadPin rfl flatB_41 ?_
                  exact SOps.nil rfl
                apply GOk.rd 64
                · rfl
                · exact fun b => (NeedG.inr _ rfl NeedG.nil)
                · intro b rest ext
                  refine SOps.loadPin rfl flatB_3 ?_
                  exact SOps.nil rfl
                apply GOk.rd 65
                · rfl
                · exact fun b => (NeedG.inr _ rfl NeedG.nil)
                · intro b rest ext
                  refine SOps.move rfl ?_
                  exact SOps.nil rfl
                apply GOk.rd 66
                · rfl
                · exact fun b => (NeedG.inr _ rfl NeedG.nil)
                · intro b rest ext
                  refine SOps.move rfl ?_
                  exact SOps.nil rfl
                apply GOk.rd 67
                · rfl
                · exact fun b => (NeedG.inl 5 _ _ rfl rfl rfl (NeedG.inl 4 _ _ rfl rfl rfl NeedG.nil))
                · intro b rest ext
                  refine SOps.indexS (i) rfl rfl sliceB_41_3_1 (by first | omega | (simp only [lenB] <;> omega)) (by first | omega | (simp only [lenB] <;> omega)) ?_
                  exact SOps.nil rfl
                apply GOk.act [] (fun _ => none)
                · rfl
                · rfl
                · rfl
                · exact fun b => (NeedG.inl 0 _ _ rfl rfl rfl (NeedG.inl 2 _ _ rfl rfl rfl NeedG.nil))
                · intro b rest ext
                  refine SOps.storeK 0 (i) rfl rfl oneB_3 rfl (by first | omega | (simp only [lenB] <;> omega)) (by first | omega | (simp; done) | (simp; omega)) rfl (fun _ => rfl) ?_
                  exact SOps.nil ⟨b, fun _ _ => rfl, ⟨rfl, fun t d h => .inl h, _, .refl _, .refl _⟩⟩
                apply GOk.rd 68
                · rfl
                · exact fun b => (NeedG.inl 5 _ _ rfl rfl rfl (NeedG.inl 4 _ _ rfl rfl rfl NeedG.nil))
                · intro b rest ext
                  refine SOps.indexS (i) rfl rfl sliceB_41_3_1 (by first | omega | (simp only [lenB] <;> omega)) (by first | omega | (simp only [lenB] <;> omega)) ?_
                  exact SOps.nil rfl
                apply GOk.act [] (fun _ => none)
                · rfl
                · rfl
                · rfl
                · exact fun b => (NeedG.inl 0 _ _ rfl rfl rfl (NeedG.inl 3 _ _ rfl rfl rfl NeedG.nil))
                · intro b rest ext
                  refine SOps.storeK 0 (i) rfl rfl oneB_3 rfl (by first | omega | (simp only [lenB] <;> omega)) (by first | omega | (simp; done) | (simp; omega)) rfl (fun _ => rfl) ?_
                  exact SOps.nil ⟨b, fun _ _ => rfl, ⟨rfl, fun t d h => .inl h, _, .refl _, .refl _⟩⟩
                exact GOk.nil
              · exact fun _ => rfl
              · intro ids
                exact ⟨_, Res.none, by unfold lineStep; dsimp only; rw [hgn, hgi, if_neg (by omega)]; first | (rw [if_pos (by omega)] <;> rfl) | (rw [if_neg (by omega)] <;> rfl)⟩
            · try simp only [decide_eq_true_eq, decide_eq_false_iff_not, Bool.not_eq_true', Bool.not_eq_false', beq_iff_eq, bne_iff_ne, ne_eq, beq_eq_false_iff_ne, bne_eq_false_iff_eq, Int.not_lt, Int.not_le, Nat.not_lt, Nat.not_le, Int.ofNat_lt, Int.ofNat_le, Bool.not_eq_eq_eq_not, Bool.not_true, Bool.not_false] at hc5
              refine SCode.skip ?_
              exact ⟨_, Res.none, by unfold lineStep; dsimp only; rw [hgn, hgi, if_neg (by omega)]; first | (rw [if_pos (by omega)] <;> rfl) | (rw [if_neg (by omega)] <;> rfl)⟩
        · try simp only [decide_eq_true_eq, decide_eq_false_iff_not, Bool.not_eq_true', Bool.not_eq_false', beq_iff_eq, bne_iff_ne, ne_eq, beq_eq_false_iff_ne, bne_eq_false_iff_eq, Int.not_lt, Int.not_le, Nat.not_lt, Nat.not_le, Int.ofNat_lt, Int.ofNat_le, Bool.not_eq_eq_eq_not, Bool.not_true, Bool.not_false] at hc3
          refine SCode.skip ?_
          show SCode _ _ _ _
          refine SCode.seqR ?_
          have hlc : (lineC l w pen i n bs[n]) = _ := rfl
          refine SOps.reSlot (t := 7) rfl (show _ = DV.v (.int .i64 (lineC l w pen i n bs[n])) from congrArg (fun z => DV.v (.int .i64 z)) (by unfold lineC; rw [hpt]; first | rw [if_pos (by omega), if_pos (by omega)] | (rw [if_pos (by omega), if_neg (by omega)]; omega) | (rw [if_neg (by omega), if_pos (by omega)]; omega) | (rw [if_neg (by omega), if_neg (by omega)]; omega))) ?_
          have hgi : bs.getD i 0 = bs[i] := getD_int hi
          have hgn : bs.getD n 0 = bs[n] := getD_int hnb
          refine SOps.loadPin rfl flatB_41 ?_
          refine SOps.loadPin rfl flatB_3 ?_
          refine SOps.indexS (i) rfl rfl sliceB_41_3_1 (by first | omega | (simp only [lenB] <;> omega)) (by first | omega | (simp only [lenB] <;> omega)) ?_
          refine SOps.loadK 0 (i) rfl flatB_3 rfl (by first | omega | (simp only [lenB] <;> omega)) (by first | omega | (simp; done) | (simp; omega)) rfl ?_
          refine SOps.bin rfl rfl rfl ?_
          refine SOps.move rfl ?_
          refine SOps.caseB 53 rfl (fun hb6 => ?_) (fun hb6 => ?_)
          · try simp only [decide_eq_true_eq, decide_eq_false_iff_not, Bool.not_eq_true', Bool.not_eq_false', beq_iff_eq, bne_iff_ne, ne_eq, beq_eq_false_iff_ne, bne_eq_false_iff_eq, Int.not_lt, Int.not_le, Nat.not_lt, Nat.not_le, Int.ofNat_lt, Int.ofNat_le, Bool.not_eq_eq_eq_not, Bool.not_true, Bool.not_false] at hb6
            refine SOps.skip rfl ?_
            refine SOps.skip rfl ?_
            refine SOps.skip rfl ?_
            refine SOps.skip rfl ?_
            refine SOps.skip rfl ?_
            refine SOps.skip rfl ?_
            refine SOps.pick rfl rfl ?_
            refine SOps.nil ?_
            refine SCode.cond rfl (fun _ => ?_) (fun h => by cases h)
            apply SCode.drawG 11 [some 61, some 62, some 63, some 64, some 65, some 66, some 67, none, some 68, none] [[.inr 1], [.inr 3], [.inr 5], [.inr 3], [.inr 7], [.inr 0], [.inl 0, .inl 1], [.inl 6, .inl 4], [.inl 2, .inl 3], [.inl 8, .inl 5]] [[7], [9]] [none, none, none, none, none, none, none, some (0, 0), none, some (1, 0)] [[], [], [], [], [], [], [], [], [], []] ([]) [⟨[7], fun ids c => match c with | 0 => [(bB, .row 3 1 (bs.map encI))] | _ => [(bB, .row 3 1 ((bs.set i (lineC l w pen i n bs[n])).map encI))]⟩, ⟨[9], fun ids c => match c with | 0 => [(bN, .row 3 1 (nx.map encI))] | _ => [(bN, .row 3 1 ((nx.set i (n : Int)).map encI))]⟩] mixed_
            · kernel_rfl
            · rfl
            · exact fun _ => .refl _
            · apply GOk.rd 61
              · rfl
              · exact fun b => (NeedG.inr _ rfl NeedG.nil)
              · intro b rest ext
                refine SOps.loadPin rfl flatB_41 ?_
                exact SOps.nil rfl
              apply GOk.rd 62
              · rfl
              · exact fun b => (NeedG.inr _ rfl NeedG.nil)
              · intro b rest ext
                refine SOps.loadPin rfl flatB_3 ?_
                exact SOps.nil rfl
              apply GOk.rd 63
              · rfl
              · exact fun b => (NeedG.inr _ rfl NeedG.nil)
              · intro b rest ext
                refine SOps.loadPin rfl flatB_41 ?_
                exact SOps.nil rfl
              apply GOk.rd 64
              · rfl
              · exact fun b => (NeedG.inr _ rfl NeedG.nil)
              · intro b rest ext
                refine SOps.loadPin rfl flatB_3 ?_
                exact SOps.nil rfl
              apply GOk.rd 65
              · rfl
              · exact fun b => (NeedG.inr _ rfl NeedG.nil)
              · intro b rest ext
                refine SOps.move rfl ?_
                exact SOps.nil rfl
              apply GOk.rd 66
              · rfl
              · exact fun b => (NeedG.inr _ rfl NeedG.nil)
              · intro b rest ext
                refine SOps.move rfl ?_
                exact SOps.nil rfl
              apply GOk.rd 67
              · rfl
              · exact fun b => (NeedG.inl 5 _ _ rfl rfl rfl (NeedG.inl 4 _ _ rfl rfl rfl NeedG.nil))
              · intro b rest ext
                refine SOps.indexS (i) rfl rfl sliceB_41_3_1 (by first | omega | (simp only [lenB] <;> omega)) (by first | omega | (simp only [lenB] <;> omega)) ?_
                exact SOps.nil rfl
              apply GOk.act [] (fun _ => none)
              · rfl
              · rfl
              · rfl
              · exact fun b => (NeedG.inl 0 _ _ rfl rfl rfl (NeedG.inl 2 _ _ rfl rfl rfl NeedG.nil))
              · intro b rest ext
                refine SOps.storeK 0 (i) rfl rfl oneB_3 rfl (by first | omega | (simp only [lenB] <;> omega)) (by first | omega | (simp; done) | (simp; omega)) rfl (fun _ => rfl) ?_
                exact SOps.nil ⟨b, fun _ _ => rfl, ⟨rfl, fun t d h => .inl h, _, .refl _, .refl _⟩⟩
              apply GOk.rd 68
              · rfl
              · exact fun b => (NeedG.inl 5 _ _ rfl rfl rfl (NeedG.inl 4 _ _ rfl rfl rfl NeedG.nil))
              · intro b rest ext
                refine SOps.indexS (i) rfl rfl sliceB_41_3_1 (by first | omega | (simp only [lenB] <;> omega)) (by first | omega | (simp only [lenB] <;> omega)) ?_
                exact SOps.nil rfl
              apply GOk.act [] (fun _ => none)
              · rfl
              · rfl
              · rfl
              · exact fun b => (NeedG.inl 0 _ _ rfl rfl rfl (NeedG.inl 3 _ _ rfl rfl rfl NeedG.nil))
              · intro b rest ext
                refine SOps.storeK 0 (i) rfl rfl oneB_3 rfl (by first | omega | (simp only [lenB] <;> omega)) (by first | omega | (simp; done) | (simp; omega)) rfl (fun _ => rfl) ?_
                exact SOps.nil ⟨b, fun _ _ => rfl, ⟨rfl, fun t d h => .inl h, _, .refl _, .refl _⟩⟩
              exact GOk.nil
            · exact fun _ => rfl
            · intro ids
              exact ⟨_, Res.none, by unfold lineStep; dsimp only; rw [hgn, hgi, if_neg (by omega)]; first | (rw [if_pos (by omega)] <;> rfl) | (rw [if_neg (by omega)] <;> rfl)⟩
          · try simp only [decide_eq_true_eq, decide_eq_false_iff_not, Bool.not_eq_true', Bool.not_eq_false', beq_iff_eq, bne_iff_ne, ne_eq, beq_eq_false_iff_ne, bne_eq_false_iff_eq, Int.not_lt, Int.not_le, Nat.not_lt, Nat.not_le, Int.ofNat_lt, Int.ofNat_le, Bool.not_eq_eq_eq_not, Bool.not_true, Bool.not_false] at hb6
            refine SOps.move rfl ?_
            refine SOps.loadPin rfl flatB_41 ?_
            refine SOps.loadPin rfl flatB_3 ?_
            refine SOps.indexS (i) rfl rfl sliceB_41_3_1 (by first | omega | (simp only [lenB] <;> omega)) (by first | omega | (simp only [lenB] <;> omega)) ?_
            refine SOps.loadK 0 (i) rfl flatB_3 rfl (by first | omega | (simp only [lenB] <;> omega)) (by first | omega | (simp; done) | (simp; omega)) rfl ?_
            refine SOps.bin rfl rfl rfl ?_
            refine SOps.pick rfl rfl ?_
            refine SOps.nil ?_
            refine SCode.cond rfl (fun hc7 => ?_) (fun hc7 => ?_)
            · try simp only [decide_eq_true_eq, decide_eq_false_iff_not, Bool.not_eq_true', Bool.not_eq_false', beq_iff_eq, bne_iff_ne, ne_eq, beq_eq_false_iff_ne, bne_eq_false_iff_eq, Int.not_lt, Int.not_le, Nat.not_lt, Nat.not_le, Int.ofNat_lt, Int.ofNat_le, Bool.not_eq_eq_eq_not, Bool.not_true, Bool.not_false] at hc7
              apply SCode.drawG 11 [some 61, some 62, some 63, some 64, some 65, some 66, some 67, none, some 68, none] [[.inr 1], [.inr 3], [.inr 5], [.inr 3], [.inr 7], [.inr 0], [.inl 0, .inl 1], [.inl 6, .inl 4], [.inl 2, .inl 3], [.inl 8, .inl 5]] [[7], [9]] [none, none, none, none, none, none, none, some (0, 0), none, some (1, 0)] [[], [], [], [], [], [], [], [], [], []] ([]) [⟨[7], fun ids c => match c with | 0 => [(bB, .row 3 1 (bs.map encI))] | _ => [(bB, .row 3 1 ((bs.set i (lineC l w pen i n bs[n])).map encI))]⟩, ⟨[9], fun ids c => match c with | 0 => [(bN, .row 3 1 (nx.map encI))] | _ => [(bN, .row 3 1 ((nx.set i (n : Int)).map encI))]⟩] mixed_
              · kernel_rfl
              · rfl
              · exact fun _ => .refl _
              · apply GOk.rd 61
                · rfl
                · exact fun b => (NeedG.inr _ rfl NeedG.nil)
                · intro b rest ext
                  refine SOps.loadPin rfl flatB_41 ?_
                  exact SOps.nil rfl
                apply GOk.rd 62
                · rfl
                · exact fun b => (NeedG.inr _ rfl NeedG.nil)
                · intro b rest ext
                  refine SOps.loadPin rfl flatB_3 ?_
                  exact SOps.nil rfl
                apply GOk.rd 63
                · rfl
                · exact fun b => (NeedG.inr _ rfl NeedG.nil)
                · intro b rest ext
                  refine SOps.loadPin rfl flatB_41 ?_
                  exact SOps.nil rfl
                apply GOk.rd 64
                · rfl
                · exact fun b => (NeedG.inr _ rfl NeedG.nil)
                · intro b rest ext
                  refine SOps.loadPin rfl flatB_3 ?_
                  exact SOps.nil rfl
                apply GOk.rd 65
                · rfl
                · exact fun b => (NeedG.inr _ rfl NeedG.nil)
                · intro b rest ext
                  refine SOps.move rfl ?_
                  exact SOps.nil rfl
                apply GOk.rd 66
                · rfl
                · exact fun b => (NeedG.inr _ rfl NeedG.nil)
                · intro b rest ext
                  refine SOps.move rfl ?_
                  exact SOps.nil rfl
                apply GOk.rd 67
                · rfl
                · exact fun b => (NeedG.inl 5 _ _ rfl rfl rfl (NeedG.inl 4 _ _ rfl rfl rfl NeedG.nil))
                · intro b rest ext
                  refine SOps.indexS (i) rfl rfl sliceB_41_3_1 (by first | omega | (simp only [lenB] <;> omega)) (by first | omega | (simp only [lenB] <;> omega)) ?_
                  exact SOps.nil rfl
                apply GOk.act [] (fun _ => none)
                · rfl
                · rfl
                · rfl
                · exact fun b => (NeedG.inl 0 _ _ rfl rfl rfl (NeedG.inl 2 _ _ rfl rfl rfl NeedG.nil))
                · intro b rest ext
                  refine SOps.storeK 0 (i) rfl rfl oneB_3 rfl (by first | omega | (simp only [lenB] <;> omega)) (by first | omega | (simp; done) | (simp; omega)) rfl (fun _ => rfl) ?_
                  exact SOps.nil ⟨b, fun _ _ => rfl, ⟨rfl, fun t d h => .inl h, _, .refl _, .refl _⟩⟩
                apply GOk.rd 68
                · rfl
                · exact fun b => (NeedG.inl 5 _ _ rfl rfl rfl (NeedG.inl 4 _ _ rfl rfl rfl NeedG.nil))
                · intro b rest ext
                  refine SOps.indexS (i) rfl rfl sliceB_41_3_1 (by first | omega | (simp only [lenB] <;> omega)) (by first | omega | (simp only [lenB] <;> omega)) ?_
                  exact SOps.nil rfl
                apply GOk.act [] (fun _ => none)
                · rfl
                · rfl
                · rfl
                · exact fun b => (NeedG.inl 0 _ _ rfl rfl rfl (NeedG.inl 3 _ _ rfl rfl rfl NeedG.nil))
                · intro b rest ext
                  refine SOps.storeK 0 (i) rfl rfl oneB_3 rfl (by first | omega | (simp only [lenB] <;> omega)) (by first | omega | (simp; done) | (simp; omega)) rfl (fun _ => rfl) ?_
                  exact SOps.nil ⟨b, fun _ _ => rfl, ⟨rfl, fun t d h => .inl h, _, .refl _, .refl _⟩⟩
                exact GOk.nil
              · exact fun _ => rfl
              · intro ids
                exact ⟨_, Res.none, by unfold lineStep; dsimp only; rw [hgn, hgi, if_neg (by omega)]; first | (rw [if_pos (by omega)] <;> rfl) | (rw [if_neg (by omega)] <;> rfl)⟩
            · try simp only [decide_eq_true_eq, decide_eq_false_iff_not, Bool.not_eq_true', Bool.not_eq_false', beq_iff_eq, bne_iff_ne, ne_eq, beq_eq_false_iff_ne, bne_eq_false_iff_eq, Int.not_lt, Int.not_le, Nat.not_lt, Nat.not_le, Int.ofNat_lt, Int.ofNat_le, Bool.not_eq_eq_eq_not, Bool.not_true, Bool.not_false] at hc7
              refine SCode.skip ?_
              exact ⟨_, Res.none, by unfold lineStep; dsimp only; rw [hgn, hgi, if_neg (by omega)]; first | (rw [if_pos (by omega)] <;> rfl) | (rw [if_neg (by omega)] <;> rfl)⟩
    · try simp only [decide_eq_true_eq, decide_eq_false_iff_not, Bool.not_eq_true', Bool.not_eq_false', beq_iff_eq, bne_iff_ne, ne_eq, beq_eq_false_iff_ne, bne_eq_false_iff_eq, Int.not_lt, Int.not_le, Nat.not_lt, Nat.not_le, Int.ofNat_lt, Int.ofNat_le, Bool.not_eq_eq_eq_not, Bool.not_true, Bool.not_false] at hc2
      refine SCode.skip ?_
      show SCode _ _ _ _
      refine SCode.seq ?_
      refine SCode.seqR ?_
      refine SOps.loadPin rfl flatB_57 ?_
      refine SOps.nilCheck rfl rfl ?_
      refine SOps.fieldPin rfl fieldB_62_1_1 ?_
      refine SOps.loadPin rfl flatB_60 ?_
      refine SOps.move rfl ?_
      refine SOps.indexM (n) rfl rfl sliceB_60_67_3 (by first | omega | (simp only [lenB] <;> omega)) (by first | omega | (simp only [lenB] <;> omega)) ?_
      refine SOps.fieldPin rfl fieldB_67_1_1 ?_
      refine SOps.loadPin rfl flatB_3 ?_
      refine SOps.bin rfl rfl rfl ?_
      refine SOps.nil ?_
      refine SCode.cond rfl (fun hc8 => ?_) (fun hc8 => ?_)
      · try simp only [decide_eq_true_eq, decide_eq_false_iff_not, Bool.not_eq_true', Bool.not_eq_false', beq_iff_eq, bne_iff_ne, ne_eq, beq_eq_false_iff_ne, bne_eq_false_iff_eq, Int.not_lt, Int.not_le, Nat.not_lt, Nat.not_le, Int.ofNat_lt, Int.ofNat_le, Bool.not_eq_eq_eq_not, Bool.not_true, Bool.not_false] at hc8
        refine SCode.region ?_
        refine SOps.move rfl ?_
        refine SOps.loadPin rfl flatB_3 ?_
        refine SOps.addI rfl rfl (by first | omega | (simp only [lenB] <;> omega)) (by first | omega | (simp only [lenB] <;> omega)) ?_
        refine SOps.assign rfl ?_
        refine SOps.nil ?_
        show SCode _ _ _ _
        refine SCode.seqR ?_
        have hlc : (lineC l w pen i n bs[n]) = _ := rfl
        refine SOps.reSlot (t := 7) rfl (show _ = DV.v (.int .i64 (lineC l w pen i n bs[n])) from congrArg (fun z => DV.v (.int .i64 z)) (by unfold lineC; rw [hpt]; first | rw [if_pos (by omega), if_pos (by omega)] | (rw [if_pos (by omega), if_neg (by omega)]; omega) | (rw [if_neg (by omega), if_pos (by omega)]; omega) | (rw [if_neg (by omega), if_neg (by omega)]; omega))) ?_
        have hgi : bs.getD i 0 = bs[i] := getD_int hi
        have hgn : bs.getD n 0 = bs[n] := getD_int hnb
        refine SOps.loadPin rfl flatB_41 ?_
        refine SOps.loadPin rfl flatB_3 ?_
        refine SOps.indexS (i) rfl rfl sliceB_41_3_1 (by first | omega | (simp only [lenB] <;> omega)) (by first | omega | (simp only [lenB] <;> omega)) ?_
        refine SOps.loadK 0 (i) rfl flatB_3 rfl (by first | omega | (simp only [lenB] <;> omega)) (by first | omega | (simp; done) | (simp; omega)) rfl ?_
        refine SOps.bin rfl rfl rfl ?_
        refine SOps.move rfl ?_
        refine SOps.caseB 53 rfl (fun hb9 => ?_) (fun hb9 => ?_)
        · try simp only [decide_eq_true_eq, decide_eq_false_iff_not, Bool.not_eq_true', Bool.not_eq_false', beq_iff_eq, bne_iff_ne, ne_eq, beq_eq_false_iff_ne, bne_eq_false_iff_eq, Int.not_lt, Int.not_le, Nat.not_lt, Nat.not_le, Int.ofNat_lt, Int.ofNat_le, Bool.not_eq_eq_eq_not, Bool.not_true, Bool.not_false] at hb9
          refine SOps.skip rfl ?_
          refine SOps.skip rfl ?_
          refine SOps.skip rfl ?_
          refine SOps.skip rfl ?_
          refine SOps.skip rfl ?_
          refine SOps.skip rfl ?_
          refine SOps.pick rfl rfl ?_
          refine SOps.nil ?_
          refine SCode.cond rfl (fun _ => ?_) (fun h => by cases h)
          apply SCode.drawG 11 [some 61, some 62, some 63, some 64, some 65, some 66, some 67, none, some 68, none] [[.inr 1], [.inr 3], [.inr 5], [.inr 3], [.inr 7], [.inr 0], [.inl 0, .inl 1], [.inl 6, .inl 4], [.inl 2, .inl 3], [.inl 8, .inl 5]] [[7], [9]] [none, none, none, none, none, none, none, some (0, 0), none, some (1, 0)] [[], [], [], [], [], [], [], [], [], []] ([]) [⟨[7], fun ids c => match c with | 0 => [(bB, .row 3 1 (bs.map encI))] | _ => [(bB, .row 3 1 ((bs.set i (lineC l w pen i n bs[n])).map encI))]⟩, ⟨[9], fun ids c => match c with | 0 => [(bN, .row 3 1 (nx.map encI))] | _ => [(bN, .row 3 1 ((nx.set i (n : Int)).map encI))]⟩] mixed_
          · kernel_rfl
          · rfl
          · exact fun _ => .refl _
          · apply GOk.rd 61
            · rfl
            · exact fun b => (NeedG.inr _ rfl NeedG.nil)
            · intro b rest ext
              refine SOps.loadPin rfl flatB_41 ?_
              exact SOps.nil rfl
            apply GOk.rd 62
            · rfl
            · exact fun b => (NeedG.inr _ rfl NeedG.nil)
            · intro b rest ext
              refine SOps.loadPin rfl flatB_3 ?_
              exact SOps.nil rfl
            apply GOk.rd 63
            · rfl
            · exact fun b => (NeedG.inr _ rfl NeedG.nil)
            · intro b rest ext
              refine SOps.loadPin rfl flatB_41 ?_
              exact SOps.nil rfl
            apply GOk.rd 64
            · rfl
            · exact fun b => (NeedG.inr _ rfl NeedG.nil)
            · intro b rest ext
              refine SOps.loadPin rfl flatB_3 ?_
              exact SOps.nil rfl
            apply GOk.rd 65
            · rfl
            · exact fun b => (NeedG.inr _ rfl NeedG.nil)
            · intro b rest ext
              refine SOps.move rfl ?_
              exact SOps.nil rfl
            apply GOk.rd 66
            · rfl
            · exact fun b => (NeedG.inr _ rfl NeedG.nil)
            · intro b rest ext
              refine SOps.move rfl ?_
              exact SOps.nil rfl
            apply GOk.rd 67
            · rfl
            · exact fun b => (NeedG.inl 5 _ _ rfl rfl rfl (NeedG.inl 4 _ _ rfl rfl rfl NeedG.nil))
            · intro b rest ext
              refine SOps.indexS (i) rfl rfl sliceB_41_3_1 (by first | omega | (simp only [lenB] <;> omega)) (by first | omega | (simp only [lenB] <;> omega)) ?_
              exact SOps.nil rfl
            apply GOk.act [] (fun _ => none)
            · rfl
            · rfl
            · rfl
            · exact fun b => (NeedG.inl 0 _ _ rfl rfl rfl (NeedG.inl 2 _ _ rfl rfl rfl NeedG.nil))
            · intro b rest ext
              refine SOps.storeK 0 (i) rfl rfl oneB_3 rfl (by first | omega | (simp only [lenB] <;> omega)) (by first | omega | (simp; done) | (simp; omega)) rfl (fun _ => rfl) ?_
              exact SOps.nil ⟨b, fun _ _ => rfl, ⟨rfl, fun t d h => .inl h, _, .refl _, .refl _⟩⟩
            apply GOk.rd 68
            · rfl
            · exact fun b => (NeedG.inl 5 _ _ rfl rfl rfl (NeedG.inl 4 _ _ rfl rfl rfl NeedG.nil))
            · intro b rest ext
              refine SOps.indexS (i) rfl rfl sliceB_41_3_1 (by first | omega | (simp only [lenB] <;> omega)) (by first | omega | (simp only [lenB] <;> omega)) ?_
              exact SOps.nil rfl
            apply GOk.act [] (fun _ => none)
            · rfl
            · rfl
            · rfl
            · exact fun b => (NeedG.inl 0 _ _ rfl rfl rfl (NeedG.inl 3 _ _ rfl rfl rfl NeedG.nil))
            · intro b rest ext
              refine SOps.storeK 0 (i) rfl rfl oneB_3 rfl (by first | omega | (simp only [lenB] <;> omega)) (by first | omega | (simp; done) | (simp; omega)) rfl (fun _ => rfl) ?_
              exact SOps.nil ⟨b, fun _ _ => rfl, ⟨rfl, fun t d h => .inl h, _, .refl _, .refl _⟩⟩
            exact GOk.nil
          · exact fun _ => rfl
          · intro ids
            exact ⟨_, Res.none, by unfold lineStep; dsimp only; rw [hgn, hgi, if_neg (by omega)]; first | (rw [if_pos (by omega)] <;> rfl) | (rw [if_neg (by omega)] <;> rfl)⟩
        · try simp only [decide_eq_true_eq, decide_eq_false_iff_not, Bool.not_eq_true', Bool.not_eq_false', beq_iff_eq, bne_iff_ne, ne_eq, beq_eq_false_iff_ne, bne_eq_false_iff_eq, Int.not_lt, Int.not_le, Nat.not_lt, Nat.not_le, Int.ofNat_lt, Int.ofNat_le, Bool.not_eq_eq_eq_not, Bool.not_true, Bool.not_false] at hb9
          refine SOps.move rfl ?_
          refine SOps.loadPin rfl flatB_41 ?_
          refine SOps.loadPin rfl flatB_3 ?_
          refine SOps.indexS (i) rfl rfl sliceB_41_3_1 (by first | omega | (simp only [lenB] <;> omega)) (by first | omega | (simp only [lenB] <;> omega)) ?_
          refine SOps.loadK 0 (i) rfl flatB_3 rfl (by first | omega | (simp only [lenB] <;> omega)) (by first | omega | (simp; done) | (simp; omega)) rfl ?_
          refine SOps.bin rfl rfl rfl ?_
          refine SOps.pick rfl rfl ?_
          refine SOps.nil ?_
          refine SCode.cond rfl (fun hc10 => ?_) (fun hc10 => ?_)
          · try simp only [decide_eq_true_eq, decide_eq_false_iff_not, Bool.not_eq_true', Bool.not_eq_false', beq_iff_eq, bne_iff_ne, ne_eq, beq_eq_false_iff_ne, bne_eq_false_iff_eq, Int.not_lt, Int.not_le, Nat.not_lt, Nat.not_le, Int.ofNat_lt, Int.ofNat_le, Bool.not_eq_eq_eq_not, Bool.not_true, Bool.not_false] at hc10
            apply SCode.drawG 11 [some 61, some 62, some 63, some 64, some 65, some 66, some 67, none, some 68, none] [[.inr 1], [.inr 3], [.inr 5], [.inr 3], [.inr 7], [.inr 0], [.inl 0, .inl 1], [.inl 6, .inl 4], [.inl 2, .inl 3], [.inl 8, .inl 5]] [[7], [9]] [none, none, none, none, none, none, none, some (0, 0), none, some (1, 0)] [[], [], [], [], [], [], [], [], [], []] ([]) [⟨[7], fun ids c => match c with | 0 => [(bB, .row 3 1 (bs.map encI))] | _ => [(bB, .row 3 1 ((bs.set i (lineC l w pen i n bs[n])).map encI))]⟩, ⟨[9], fun ids c => match c with | 0 => [(bN, .row 3 1 (nx.map encI))] | _ => [(bN, .row 3 1 ((nx.set i (n : Int)).map encI))]⟩] mixed_
            · kernel_rfl
            · rfl
            · exact fun _ => .refl _
            · apply GOk.rd 61
              · rfl
              · exact fun b => (NeedG.inr _ rfl NeedG.nil)
              · intro b rest ext
                refine SOps.loadPin rfl flatB_41 ?_
                exact SOps.nil rfl
              apply GOk.rd 62
              · rfl
              · exact fun b => (NeedG.inr _ rfl NeedG.nil)
              · intro b rest ext
                refine SOps.loadPin rfl flatB_3 ?_
                exact SOps.nil rfl
              apply GOk.rd 63
              · rfl
              · exact fun b => (NeedG.inr _ rfl NeedG.nil)
              · intro b rest ext
                refine SOps.loadPin rfl flatB_41 ?_
                exact SOps.nil rfl
              apply GOk.rd 64
              · rfl
              · exact fun b => (NeedG.inr _ rfl NeedG.nil)
              · intro b rest ext
                refine SOps.loadPin rfl flatB_3 ?_
                exact SOps.nil rfl
              apply GOk.rd 65
              · rfl
              · exact fun b => (NeedG.inr _ rfl NeedG.nil)
              · intro b rest ext
                refine SOps.move rfl ?_
                exact SOps.nil rfl
              apply GOk.rd 66
              · rfl
              · exact fun b => (NeedG.inr _ rfl NeedG.nil)
              · intro b rest ext
                refine SOps.move rfl ?_
                exact SOps.nil rfl
              apply GOk.rd 67
              · rfl
              · exact fun b => (NeedG.inl 5 _ _ rfl rfl rfl (NeedG.inl 4 _ _ rfl rfl rfl NeedG.nil))
              · intro b rest ext
                refine SOps.indexS (i) rfl rfl sliceB_41_3_1 (by first | omega | (simp only [lenB] <;> omega)) (by first | omega | (simp only [lenB] <;> omega)) ?_
                exact SOps.nil rfl
              apply GOk.act [] (fun _ => none)
              · rfl
              · rfl
              · rfl
              · exact fun b => (NeedG.inl 0 _ _ rfl rfl rfl (NeedG.inl 2 _ _ rfl rfl rfl NeedG.nil))
              · intro b rest ext
                refine SOps.storeK 0 (i) rfl rfl oneB_3 rfl (by first | omega | (simp only [lenB] <;> omega)) (by first | omega | (simp; done) | (simp; omega)) rfl (fun _ => rfl) ?_
                exact SOps.nil ⟨b, fun _ _ => rfl, ⟨rfl, fun t d h => .inl h, _, .refl _, .refl _⟩⟩
              apply GOk.rd 68
              · rfl
              · exact fun b => (NeedG.inl 5 _ _ rfl rfl rfl (NeedG.inl 4 _ _ rfl rfl rfl NeedG.nil))
              · intro b rest ext
                refine SOps.indexS (i) rfl rfl sliceB_41_3_1 (by first | omega | (simp only [lenB] <;> omega)) (by first | omega | (simp only [lenB] <;> omega)) ?_
                exact SOps.nil rfl
              apply GOk.act [] (fun _ => none)
              · rfl
              · rfl
              · rfl
              · exact fun b => (NeedG.inl 0 _ _ rfl rfl rfl (NeedG.inl 3 _ _ rfl rfl rfl NeedG.nil))
              · intro b rest ext
                refine SOps.storeK 0 (i) rfl rfl oneB_3 rfl (by first | omega | (simp only [lenB] <;> omega)) (by first | omega | (simp; done) | (simp; omega)) rfl (fun _ => rfl) ?_
                exact SOps.nil ⟨b, fun _ _ => rfl, ⟨rfl, fun t d h => .inl h, _, .refl _, .refl _⟩⟩
              exact GOk.nil
            · exact fun _ => rfl
            · intro ids
              exact ⟨_, Res.none, by unfold lineStep; dsimp only; rw [hgn, hgi, if_neg (by omega)]; first | (rw [if_pos (by omega)] <;> rfl) | (rw [if_neg (by omega)] <;> rfl)⟩
          · try simp only [decide_eq_true_eq, decide_eq_false_iff_not, Bool.not_eq_true', Bool.not_eq_false', beq_iff_eq, bne_iff_ne, ne_eq, beq_eq_false_iff_ne, bne_eq_false_iff_eq, Int.not_lt, Int.not_le, Nat.not_lt, Nat.not_le, Int.ofNat_lt, Int.ofNat_le, Bool.not_eq_eq_eq_not, Bool.not_true, Bool.not_false] at hc10
            refine SCode.skip ?_
            exact ⟨_, Res.none, by unfold lineStep; dsimp only; rw [hgn, hgi, if_neg (by omega)]; first | (rw [if_pos (by omega)] <;> rfl) | (rw [if_neg (by omega)] <;> rfl)⟩
      · try simp only [decide_eq_true_eq, decide_eq_false_iff_not, Bool.not_eq_true', Bool.not_eq_false', beq_iff_eq, bne_iff_ne, ne_eq, beq_eq_false_iff_ne, bne_eq_false_iff_eq, Int.not_lt, Int.not_le, Nat.not_lt, Nat.not_le, Int.ofNat_lt, Int.ofNat_le, Bool.not_eq_eq_eq_not, Bool.not_true, Bool.not_false] at hc8
        refine SCode.skip ?_
        show SCode _ _ _ _
        refine SCode.seqR ?_
        have hlc : (lineC l w pen i n bs[n]) = _ := rfl
        refine SOps.reSlot (t := 7) rfl (show _ = DV.v (.int .i64 (lineC l w pen i n bs[n])) from congrArg (fun z => DV.v (.int .i64 z)) (by unfold lineC; rw [hpt]; first | rw [if_pos (by omega), if_pos (by omega)] | (rw [if_pos (by omega), if_neg (by omega)]; omega) | (rw [if_neg (by omega), if_pos (by omega)]; omega) | (rw [if_neg (by omega), if_neg (by omega)]; omega))) ?_
        have hgi : bs.getD i 0 = bs[i] := getD_int hi
        have hgn : bs.getD n 0 = bs[n] := getD_int hnb
        refine SOps.loadPin rfl flatB_41 ?_
        refine SOps.loadPin rfl flatB_3 ?_
        refine SOps.indexS (i) rfl rfl sliceB_41_3_1 (by first | omega | (simp only [lenB] <;> omega)) (by first | omega | (simp only [lenB] <;> omega)) ?_
        refine SOps.loadK 0 (i) rfl flatB_3 rfl (by first | omega | (simp only [lenB] <;> omega)) (by first | omega | (simp; done) | (simp; omega)) rfl ?_
        refine SOps.bin rfl rfl rfl ?_
        refine SOps.move rfl ?_
        refine SOps.caseB 53 rfl (fun hb11 => ?_) (fun hb11 => ?_)
        · try simp only [decide_eq_true_eq, decide_eq_false_iff_not, Bool.not_eq_true', Bool.not_eq_false', beq_iff_eq, bne_iff_ne, ne_eq, beq_eq_false_iff_ne, bne_eq_false_iff_eq, Int.not_lt, Int.not_le, Nat.not_lt, Nat.not_le, Int.ofNat_lt, Int.ofNat_le, Bool.not_eq_eq_eq_not, Bool.not_true, Bool.not_false] at hb11
          refine SOps.skip rfl ?_
          refine SOps.skip rfl ?_
          refine SOps.skip rfl ?_
          refine SOps.skip rfl ?_
          refine SOps.skip rfl ?_
          refine SOps.skip rfl ?_
          refine SOps.pick rfl rfl ?_
          refine SOps.nil ?_
          refine SCode.cond rfl (fun _ => ?_) (fun h => by cases h)
          apply SCode.drawG 11 [some 61, some 62, some 63, some 64, some 65, some 66, some 67, none, some 68, none] [[.inr 1], [.inr 3], [.inr 5], [.inr 3], [.inr 7], [.inr 0], [.inl 0, .inl 1], [.inl 6, .inl 4], [.inl 2, .inl 3], [.inl 8, .inl 5]] [[7], [9]] [none, none, none, none, none, none, none, some (0, 0), none, some (1, 0)] [[], [], [], [], [], [], [], [], [], []] ([]) [⟨[7], fun ids c => match c with | 0 => [(bB, .row 3 1 (bs.map encI))] | _ => [(bB, .row 3 1 ((bs.set i (lineC l w pen i n bs[n])).map encI))]⟩, ⟨[9], fun ids c => match c with | 0 => [(bN, .row 3 1 (nx.map encI))] | _ => [(bN, .row 3 1 ((nx.set i (n : Int)).map encI))]⟩] mixed_
          · kernel_rfl
          · rfl
          · exact fun _ => .refl _
          · apply GOk.rd 61
            · rfl
            · exact fun b => (NeedG.inr _ rfl NeedG.nil)
            · intro b rest ext
              refine SOps.loadPin rfl flatB_41 ?_
              exact SOps.nil rfl
            apply GOk.rd 62
            · rfl
            · exact fun b => (NeedG.inr _ rfl NeedG.nil)
            · intro b rest ext
              refine SOps.loadPin rfl flatB_3 ?_
              exact SOps.nil rfl
            apply GOk.rd 63
            · rfl
            · exact fun b => (NeedG.inr _ rfl NeedG.nil)
            · intro b rest ext
              refine SOps.loadPin rfl flatB_41 ?_
              exact SOps.nil rfl
            apply GOk.rd 64
            · rfl
            · exact fun b => (NeedG.inr _ rfl NeedG.nil)
            · intro b rest ext
              refine SOps.loadPin rfl flatB_3 ?_
              exact SOps.nil rfl
            apply GOk.rd 65
            · rfl
            · exact fun b => (NeedG.inr _ rfl NeedG.nil)
            · intro b rest ext
              refine SOps.move rfl ?_
              exact SOps.nil rfl
            apply GOk.rd 66
            · rfl
            · exact fun b => (NeedG.inr _ rfl NeedG.nil)
            · intro b rest ext
              refine SOps.move rfl ?_
              exact SOps.nil rfl
            apply GOk.rd 67
            · rfl
            · exact fun b => (NeedG.inl 5 _ _ rfl rfl rfl (NeedG.inl 4 _ _ rfl rfl rfl NeedG.nil))
            · intro b rest ext
              refine SOps.indexS (i) rfl rfl sliceB_41_3_1 (by first | omega | (simp only [lenB] <;> omega)) (by first | omega | (simp only [lenB] <;> omega)) ?_
              exact SOps.nil rfl
            apply GOk.act [] (fun _ => none)
            · rfl
            · rfl
            · rfl
            · exact fun b => (NeedG.inl 0 _ _ rfl rfl rfl (NeedG.inl 2 _ _ rfl rfl rfl NeedG.nil))
            · intro b rest ext
              refine SOps.storeK 0 (i) rfl rfl oneB_3 rfl (by first | omega | (simp only [lenB] <;> omega)) (by first | omega | (simp; done) | (simp; omega)) rfl (fun _ => rfl) ?_
              exact SOps.nil ⟨b, fun _ _ => rfl, ⟨rfl, fun t d h => .inl h, _, .refl _, .refl _⟩⟩
            apply GOk.rd 68
            · rfl
            · exact fun b => (NeedG.inl 5 _ _ rfl rfl rfl (NeedG.inl 4 _ _ rfl rfl rfl NeedG.nil))
            · intro b rest ext
              refine SOps.indexS (i) rfl rfl sliceB_41_3_1 (by first | omega | (simp only [lenB] <;> omega)) (by first | omega | (simp only [lenB] <;> omega)) ?_
              exact SOps.nil rfl
            apply GOk.act [] (fun _ => none)
            · rfl
            · rfl
            · rfl
            · exact fun b => (NeedG.inl 0 _ _ rfl rfl rfl (NeedG.inl 3 _ _ rfl rfl rfl NeedG.nil))
            · intro b rest ext
              refine SOps.storeK 0 (i) rfl rfl oneB_3 rfl (by first | omega | (simp only [lenB] <;> omega)) (by first | omega | (simp; done) | (simp; omega)) rfl (fun _ => rfl) ?_
              exact SOps.nil ⟨b, fun _ _ => rfl, ⟨rfl, fun t d h => .inl h, _, .refl _, .refl _⟩⟩
            exact GOk.nil
          · exact fun _ => rfl
          · intro ids
            exact ⟨_, Res.none, by unfold lineStep; dsimp only; rw [hgn, hgi, if_neg (by omega)]; first | (rw [if_pos (by omega)] <;> rfl) | (rw [if_neg (by omega)] <;> rfl)⟩
        · try simp only [decide_eq_true_eq, decide_eq_false_iff_not, Bool.not_eq_true', Bool.not_eq_false', beq_iff_eq, bne_iff_ne, ne_eq, beq_eq_false_iff_ne, bne_eq_false_iff_eq, Int.not_lt, Int.not_le, Nat.not_lt, Nat.not_le, Int.ofNat_lt, Int.ofNat_le, Bool.not_eq_eq_eq_not, Bool.not_true, Bool.not_false] at hb11
          refine SOps.move rfl ?_
          refine SOps.loadPin rfl flatB_41 ?_
          refine SOps.loadPin rfl flatB_3 ?_
          refine SOps.indexS (i) rfl rfl sliceB_41_3_1 (by first | omega | (simp only [lenB] <;> omega)) (by first | omega | (simp only [lenB] <;> omega)) ?_
          refine SOps.loadK 0 (i) rfl flatB_3 rfl (by first | omega | (simp only [lenB] <;> omega)) (by first | omega | (simp; done) | (simp; omega)) rfl ?_
          refine SOps.bin rfl rfl rfl ?_
          refine SOps.pick rfl rfl ?_
          refine SOps.nil ?_
          refine SCode.cond rfl (fun hc12 => ?_) (fun hc12 => ?_)
          · try simp only [decide_eq_true_eq, decide_eq_false_iff_not, Bool.not_eq_true', Bool.not_eq_false', beq_iff_eq, bne_iff_ne, ne_eq, beq_eq_false_iff_ne, bne_eq_false_iff_eq, Int.not_lt, Int.not_le, Nat.not_lt, Nat.not_le, Int.ofNat_lt, Int.ofNat_le, Bool.not_eq_eq_eq_not, Bool.not_true, Bool.not_false] at hc12
            apply SCode.drawG 11 [some 61, some 62, some 63, some 64, some 65, some 66, some 67, none, some 68, none] [[.inr 1], [.inr 3], [.inr 5], [.inr 3], [.inr 7], [.inr 0], [.inl 0, .inl 1], [.inl 6, .inl 4], [.inl 2, .inl 3], [.inl 8, .inl 5]] [[7], [9]] [none, none, none, none, none, none, none, some (0, 0), none, some (1, 0)] [[], [], [], [], [], [], [], [], [], []] ([]) [⟨[7], fun ids c => match c with | 0 => [(bB, .row 3 1 (bs.map encI))] | _ => [(bB, .row 3 1 ((bs.set i (lineC l w pen i n bs[n])).map encI))]⟩, ⟨[9], fun ids c => match c with | 0 => [(bN, .row 3 1 (nx.map encI))] | _ => [(bN, .row 3 1 ((nx.set i (n : Int)).map encI))]⟩] mixed_
            · kernel_rfl
            · rfl
            · exact fun _ => .refl _
            · apply GOk.rd 61
              · rfl
              · exact fun b => (NeedG.inr _ rfl NeedG.nil)
              · intro b rest ext
                refine SOps.loadPin rfl flatB_41 ?_
                exact SOps.nil rfl
              apply GOk.rd 62
              · rfl
              · exact fun b => (NeedG.inr _ rfl NeedG.nil)
              · intro b rest ext
                refine SOps.loadPin rfl flatB_3 ?_
                exact SOps.nil rfl
              apply GOk.rd 63
              · rfl
              · exact fun b => (NeedG.inr _ rfl NeedG.nil)
              · intro b rest ext
                refine SOps.loadPin rfl flatB_41 ?_
                exact SOps.nil rfl
              apply GOk.rd 64
              · rfl
              · exact fun b => (NeedG.inr _ rfl NeedG.nil)
              · intro b rest ext
                refine SOps.loadPin rfl flatB_3 ?_
                exact SOps.nil rfl
              apply GOk.rd 65
              · rfl
              · exact fun b => (NeedG.inr _ rfl NeedG.nil)
              · intro b rest ext
                refine SOps.move rfl ?_
                exact SOps.nil rfl
              apply GOk.rd 66
              · rfl
              · exact fun b => (NeedG.inr _ rfl NeedG.nil)
              · intro b rest ext
                refine SOps.move rfl ?_
                exact SOps.nil rfl
              apply GOk.rd 67
              · rfl
              · exact fun b => (NeedG.inl 5 _ _ rfl rfl rfl (NeedG.inl 4 _ _ rfl rfl rfl NeedG.nil))
              · intro b rest ext
                refine SOps.indexS (i) rfl rfl sliceB_41_3_1 (by first | omega | (simp only [lenB] <;> omega)) (by first | omega | (simp only [lenB] <;> omega)) ?_
                exact SOps.nil rfl
              apply GOk.act [] (fun _ => none)
              · rfl
              · rfl
              · rfl
              · exact fun b => (NeedG.inl 0 _ _ rfl rfl rfl (NeedG.inl 2 _ _ rfl rfl rfl NeedG.nil))
              · intro b rest ext
                refine SOps.storeK 0 (i) rfl rfl oneB_3 rfl (by first | omega | (simp only [lenB] <;> omega)) (by first | omega | (simp; done) | (simp; omega)) rfl (fun _ => rfl) ?_
                exact SOps.nil ⟨b, fun _ _ => rfl, ⟨rfl, fun t d h => .inl h, _, .refl _, .refl _⟩⟩
              apply GOk.rd 68
              · rfl
              · exact fun b => (NeedG.inl 5 _ _ rfl rfl rfl (NeedG.inl 4 _ _ rfl rfl rfl NeedG.nil))
              · intro b rest ext
                refine SOps.indexS (i) rfl rfl sliceB_41_3_1 (by first | omega | (simp only [lenB] <;> omega)) (by first | omega | (simp only [lenB] <;> omega)) ?_
                exact SOps.nil rfl
              apply GOk.act [] (fun _ => none)
              · rfl
              · rfl
              · rfl
              · exact fun b => (NeedG.inl 0 _ _ rfl rfl rfl (NeedG.inl 3 _ _ rfl rfl rfl NeedG.nil))
              · intro b rest ext
                refine SOps.storeK 0 (i) rfl rfl oneB_3 rfl (by first | omega | (simp only [lenB] <;> omega)) (by first | omega | (simp; done) | (simp; omega)) rfl (fun _ => rfl) ?_
                exact SOps.nil ⟨b, fun _ _ => rfl, ⟨rfl, fun t d h => .inl h, _, .refl _, .refl _⟩⟩
              exact GOk.nil
            · exact fun _ => rfl
            · intro ids
              exact ⟨_, Res.none, by unfold lineStep; dsimp only; rw [hgn, hgi, if_neg (by omega)]; first | (rw [if_pos (by omega)] <;> rfl) | (rw [if_neg (by omega)] <;> rfl)⟩
          · try simp only [decide_eq_true_eq, decide_eq_false_iff_not, Bool.not_eq_true', Bool.not_eq_false', beq_iff_eq, bne_iff_ne, ne_eq, beq_eq_false_iff_ne, bne_eq_false_iff_eq, Int.not_lt, Int.not_le, Nat.not_lt, Nat.not_le, Int.ofNat_lt, Int.ofNat_le, Bool.not_eq_eq_eq_not, Bool.not_true, Bool.not_false] at hc12
            refine SCode.skip ?_
            exact ⟨_, Res.none, by unfold lineStep; dsimp only; rw [hgn, hgi, if_neg (by omega)]; first | (rw [if_pos (by omega)] <;> rfl) | (rw [if_neg (by omega)] <;> rfl)⟩
end Go.GH
namespace Go.GH
open Go Go.Lib
theorem stB_succ {l : List Bx} {k : Nat} (h : k < l.length) : stB l (k + 1) = stB l k + (wlen (l[k]).word + 1) := by
  unfold stB
  rw [List.take_add_one, List.getElem?_eq_getElem h, List.map_append, List.sum_append]
  show _ + ([wlen (l[k]).word + 1]).sum = _
  rw [List.sum_cons, List.sum_nil]; omega
theorem stB_le {l : List Bx} {M : Nat} (h : ∀ b ∈ l, wlen b.word ≤ M) : ∀ k, k ≤ l.length → stB l k ≤ (M + 1) * k
  | 0, _ => by simp [stB]
  | k + 1, hk => by
    have ih := stB_le h k (by omega)
    have hb := h _ (List.getElem_mem (show k < l.length by omega))
    rw [stB_succ (by omega), Nat.mul_add, Nat.mul_one]
    omega
def q3 (l : List Bx) (k : Nat) : List (Nat × Int × Int) := (ptsF (l.take k)).map (up3 l)
def q3i (l : List Bx) (k : Nat) (ps : List Int) : List (Nat × Int × Int) := q3 l k ++ (k, 0, (stB l k : Int)) :: ps.map (fun q => (k, q, (stB l k : Int) + q))
theorem q3_len (l : List Bx) (k : Nat) : (q3 l k).length = (ptsF (l.take k)).length := by simp [q3]
theorem q3i_len (l : List Bx) (k : Nat) (ps : List Int) : (q3i l k ps).length = (q3 l k).length + 1 + ps.length := by simp [q3i]; omega
theorem q3i_snoc {l : List Bx} {k i : Nat} {ps : List Int} (h : i < ps.length) : (q3i l k (ps.take (i + 1))).map encP3 = (q3i l k (ps.take i)).map encP3 ++ [encP3 (k, ps[i], (stB l k : Int) + ps[i])] := by
  have e : (ps.take (i + 1)).map (fun q => (k, q, (stB l k : Int) + q)) = (ps.take i).map (fun q => (k, q, (stB l k : Int) + q)) ++ [(k, ps[i], (stB l k : Int) + ps[i])] := by
    rw [List.take_add_one, List.getElem?_eq_getElem h, List.map_append]; rfl
  unfold q3i
  rw [e, ← List.cons_append, ← List.append_assoc, List.map_append]; rfl
theorem q3_succ {l : List Bx} {k : Nat} (h : k < l.length) : q3 l (k + 1) = q3i l k (l[k]).pts := by
  unfold q3 q3i
  rw [ptsF_take h, List.map_append]
  simp [up3, q3, List.map_map, Function.comp_def]
theorem pts3_eq (l : List Bx) : pts3 l = q3 l l.length ++ [(l.length, 0, (stB l l.length : Int))] := by
  unfold pts3 pointsL q3
  rw [List.map_append, List.take_length]
  simp [up3]
theorem rep_pinNil {w : World} {F : Nat → Prop} {v : Value} {ds : List DV} {sz : Nat} (i : Nat) (h : Rep w F v (.ipin ds)) (hi : ds[i]? = some (.v (.slice none 0 0))) : Rep w F v (.ipin (ds.set i (.isl false sz []))) := by
  cases h with
  | ipin xs hF hc hr =>
    have hlt := (List.getElem?_eq_some_iff.1 hi).1
    refine .ipin xs hF (fun j d hd => ?_) (fun j d hd => ?_)
    · rw [List.getElem?_set] at hd
      split at hd
      · rename_i e
        subst e
        exact ⟨(hc _ _ hi).1, (hc _ _ hi).2⟩
      · exact hc j d hd
    · rw [List.getElem?_set] at hd
      split at hd
      · rename_i e
        subst e
        obtain rfl := Option.some.inj hd
        exact nil_isl (hr _ _ hi)
      · exact hr j d hd
end Go.GH
namespace Go.GH
open Go Go.RowKit
section
variable {C : Ctx} {st : St} {ops : Array Oper} {R : St → Prop} {t : Tmp}
theorem SOps.pinNil {l : List Oper} {n sz : Nat} {slots : List (Nat × DV)} {heap : DHeap} {ds : List DV} (i : Nat) (hi : ds[i]? = some (.v (.slice none 0 0)))
    (h : SOps C ops l ⟨n, (t, .ipin (ds.set i (.isl false sz []))) :: slots, heap⟩ R) : SOps C ops l ⟨n, (t, .ipin ds) :: slots, heap⟩ R :=
  SOps.relab (t := t) (d := .ipin ds) (St.get_put_same ⟨n, slots, heap⟩ t _) (fun w F v hv => rep_pinNil i hv hi) (SOps.shadow h)
theorem SOps.freezePar {l : List Oper} {b0 kw kp T e1 e2 : Nat} {W Q : List (List DV)} {d : DV} (hp : C.pu = true) (hd : st.get t = some (.ref b0 0))
    (hh : st.heap = [(b0, .row T 3 [[accD 1 kw W, accD 3 kp Q, d]])] ++ (accH e1 1 kw W ++ (accH e2 3 kp Q ++ [])))
    (h : SOps C ops l ⟨st.n, (t, .ipin [.isl false 1 W, .isl false 3 Q, d]) :: st.slots, []⟩ R) : SOps C ops l st R := by
  obtain ⟨n, slots, heap⟩ := st
  dsimp only at hh
  subst hh
  cases W with
  | nil =>
    cases Q with
    | nil => exact SOps.freezeRef (t := t) 0 0 hp rfl hd rfl rfl (SOps.pinNil 0 rfl (SOps.pinNil 1 rfl h))
    | cons q Q =>
      refine SOps.freezeIn 1 0 0 1 hp rfl rfl rfl rfl ?_
      exact SOps.freezeRef (t := t) 0 0 hp rfl hd rfl rfl (SOps.pinNil 0 rfl h)
  | cons u W =>
    refine SOps.freezeIn 1 0 0 0 hp rfl rfl rfl rfl ?_
    cases Q with
    | nil => exact SOps.freezeRef (t := t) 0 0 hp rfl hd rfl rfl (SOps.pinNil 1 rfl h)
    | cons q Q =>
      refine SOps.freezeIn 1 0 0 1 hp rfl rfl rfl rfl ?_
      exact SOps.freezeRef (t := t) 0 0 hp rfl hd rfl rfl h
end
end Go.GH
namespace Go.GH
open Go Go.Proofs
variable {E : Env}
theorem elemB_67_3_24 : elemB Tryd.prog 67 3 24 = true := by kernel_rfl
theorem elemB_70_1_24 : elemB Tryd.prog 70 1 24 = true := by kernel_rfl
theorem fieldB_62_0_0 : fieldB Tryd.prog 62 0 0 = true := by kernel_rfl
theorem flatB_59 : flatB Tryd.prog 59 = true := by kernel_rfl
theorem oneB_59 : oneB Tryd.prog 59 = true := by kernel_rfl
theorem oneB_60 : oneB Tryd.prog 60 = true := by kernel_rfl
theorem placesB_62 : placesB Tryd.prog 62 [(0, 1), (1, 1), (2, 1)] = true := by kernel_rfl
theorem placesB_67 : placesB Tryd.prog 67 [(0, 1), (1, 1), (2, 1)] = true := by kernel_rfl
theorem sliceB_59_70_1 : sliceB Tryd.prog 59 70 1 = true := by kernel_rfl
theorem zeroIs_62 : zeroIs Tryd.prog 62 (.agg #[.slice none 0 0, .slice none 0 0, .int .i64 0]) := by unfold zeroIs; kernel_rfl
theorem zeroIs_67 : zeroIs Tryd.prog 67 (.agg #[.int .i64 0, .int .i64 0, .int .i64 0]) := by unfold zeroIs; kernel_rfl
theorem zeroIs_70 : zeroIs Tryd.prog 70 (.slice none 0 0) := by unfold zeroIs; kernel_rfl
theorem cons_cong {a b : Nat × DO} {l m : DHeap} (h1 : a = b) (h2 : l = m) : a :: l = b :: m := by rw [h1, h2]
theorem sOpen (l : List Bx) (w : Int) (hw1 : ∀ b ∈ l, b.word.size ≤ 1000000) (hp : ∀ b ∈ l, b.pts.length ≤ 1000) (hps : ∀ b ∈ l, ∀ q ∈ b.pts, -1000000 ≤ q ∧ q ≤ 1000000) (hl : l.length ≤ 1000) : GCall Tryd.prog E 38 [DBxs l, .v (.int .i64 w)] [] (fun d H => d = .ipin (encPar l w) ∧ H = []) := by
  refine GCall.body (C := ⟨Tryd.prog, E, true⟩) Tryd.func38 rfl (fun _ => rfl) (by kernel_rfl) rfl ?_
  refine SCode.seqR ?_
  refine SOps.assign rfl ?_
  refine SOps.nil ?_
  refine SCode.seqR ?_
  refine SOps.move rfl ?_
  refine SOps.buildM placesB_62 zeroIs_62 rfl rfl ?_
  refine SOps.boxA rfl rfl (fun d hd => List.all_eq_true.1 (show List.all _ DV.one = true from rfl) d hd) (fun b0 hb_0 => ?_)
  refine SOps.assign rfl ?_
  refine SOps.nil ?_
  refine SCode.seqR ?_
  refine SOps.assign rfl ?_
  refine SOps.nil ?_
  refine SCode.seq ?_
  refine SCode.seqR ?_
  refine SOps.move rfl ?_
  refine SOps.lenM rfl sliceB_22_43_2 ?_
  refine SOps.move rfl ?_
  refine SOps.nil ?_
  refine SCode.block ?_
  refine SCode.loop3 (fun (k : Nat) (kw : Nat) (kp : Nat) => (⟨90, [(0, DBxs l), (5, .ref b0 0), (6, .v (.int .i64 (((stB l k) : Nat) : Int))), (15, DBxs l), (16, .v (.int .i64 (l.length : Int))), (17, .v (.int .i64 (k : Int)))], [(b0, DO.row 62 3 [[accD 1 kw ((l.take k).map encRw), accD 3 kp ((q3 l k).map encP3), .v (.int .i64 w)]])] ++ (accH 70 1 kw ((l.take k).map encRw) ++ (accH 67 3 kp ((q3 l k).map encP3) ++ []))⟩ : St)) (fun (k : Nat) (kw : Nat) (kp : Nat) => k ≤ l.length) (fun (k : Nat) (kw : Nat) (kp : Nat) => l.length - k) (0) (0) (0) (by exact Nat.zero_le _) (St.Le.of ⟨(by first | rfl | (show some _ = some _; simp)), (by first | rfl | (show some _ = some _; simp)), (by first | rfl | (show some _ = some _; simp)), (by first | rfl | (show some _ = some _; simp)), (by first | rfl | (show some _ = some _; simp)), (by first | rfl | (show some _ = some _; simp)), trivial⟩ rfl (by first | rfl | (simp))) ?_
  rintro k kw kp hkn
  refine SCode.seqR ?_
  refine SOps.bin rfl rfl rfl ?_
  refine SOps.nil ?_
  refine SCode.seq ?_
  refine SCode.cond rfl (fun hc1 => ?_) (fun hc1 => ?_)
  · try simp only [decide_eq_true_eq, decide_eq_false_iff_not, Bool.not_eq_true', Bool.not_eq_false', beq_iff_eq, bne_iff_ne, ne_eq, beq_eq_false_iff_ne, bne_eq_false_iff_eq, Int.not_lt, Int.not_le, Nat.not_lt, Nat.not_le, Int.ofNat_lt, Int.ofNat_le, Bool.not_eq_eq_eq_not, Bool.not_true, Bool.not_false] at hc1
    refine SCode.skip ?_
    show SCode _ _ _ _
    refine SCode.seq ?_
    refine SCode.block ?_
    refine SCode.seqR ?_
    refine SOps.move rfl ?_
    refine SOps.indexM (k) rfl rfl sliceB_22_43_2 (by first | omega | (simp only [lenB] <;> omega)) (by first | omega | (simp only [lenB] <;> omega)) ?_
    refine SOps.loadPinA rfl aggB_43_2 (Nat.le_of_ble_eq_true rfl) ?_
    refine SOps.alloc (sz := 2) zeroIs_43 (fun b1 hb_1 => ?_)
    refine SOps.assign rfl ?_
    refine SOps.storeAM 0 rfl rfl aggB_43_2 rfl ?_
    refine SOps.freezeRef (t := 8) 0 0 rfl rfl rfl rfl rfl ?_
    refine SOps.nil ?_
    refine SCode.seqR ?_
    have hkl : k < l.length := by omega
    have hsb := stB_le (l := l) (M := 1000000) (fun b hb => by have := runes_len b.word; have := hw1 b hb; unfold wlen; omega) k (by omega)
    have hss := stB_succ hkl
    have hpk := hp _ (List.getElem_mem hkl)
    have hqk := hps _ (List.getElem_mem hkl)
    have hwk := hw1 _ (List.getElem_mem hkl)
    have hrk := runes_len (l[k]).word
    have hln := ptsF_len l k (by omega) hp
    have hq3l := q3_len l k
    have hq0 : ((q3i l k ((l[k]).pts.take 0)).map encP3) = ((q3 l k).map encP3) ++ [encP3 (k, 0, (stB l k : Int))] := by rw [q3i, List.take_zero, List.map_append]; rfl
    have hwk2 : ((l.take (k + 1)).map encRw) = ((l.take k).map encRw) ++ [encRw (l[k])] := by rw [List.take_add_one, List.getElem?_eq_getElem hkl, List.map_append]; rfl
    refine SOps.fieldPin rfl fieldB_43_0_0 ?_
    refine SOps.loadPin rfl flatB_9 ?_
    refine SOps.runesF rfl rfl strB_9 sliceB_70_21_1 intB_21_i32 ?_
    refine SOps.assign rfl ?_
    refine SOps.nil ?_
    refine SCode.seqR ?_
    refine SOps.move rfl ?_
    refine SOps.move rfl ?_
    refine SOps.nilCheck rfl rfl ?_
    refine SOps.fieldRef rfl fieldB_62_0_0 ?_
    refine SOps.loadRef 0 0 0 rfl flatB_59 rfl rfl rfl rfl ?_
    refine SOps.move rfl ?_
    refine SOps.litF rfl sliceB_59_70_1 zeroIs_70 rfl ?_
    refine SOps.appendAcc [_] _ sliceB_59_70_1 elemB_70_1_24 rfl rfl rfl SrcD.isl (by simp) (by first | (simp [lenB] <;> (first | omega | (simp only [lenB] <;> omega))) | (simp only [lenB]; (first | omega | (simp only [lenB] <;> omega)))) (by first | (simp <;> (first | omega | (simp only [lenB] <;> omega))) | (first | omega | (simp only [lenB] <;> omega))) (fun b2 => ?_)
    refine SOps.nilCheck rfl rfl ?_
    refine SOps.fieldRef rfl fieldB_62_0_0 ?_
    refine SOps.store 0 0 0 rfl rfl oneB_59 rfl rfl rfl (by decide) (by first | rfl | exact accD_one _ _ _) ?_
    refine SOps.nil ?_
    refine SCode.seqR ?_
    refine SOps.move rfl ?_
    refine SOps.move rfl ?_
    refine SOps.nilCheck rfl rfl ?_
    refine SOps.fieldRef rfl fieldB_62_1_1 ?_
    refine SOps.loadRef 0 0 1 rfl flatB_60 rfl rfl rfl rfl ?_
    refine SOps.move rfl ?_
    refine SOps.move rfl ?_
    refine SOps.buildM placesB_67 zeroIs_67 rfl rfl ?_
    refine SOps.litF rfl sliceB_60_67_3 zeroIs_67 rfl ?_
    refine SOps.appendAcc ([_] ++ accH 70 1 _ _) [] sliceB_60_67_3 elemB_67_3_24 rfl rfl (by exact (List.append_assoc [_] _ _).symm) SrcD.isl (by simp) (by first | (simp [lenB] <;> (first | omega | (simp only [lenB] <;> omega))) | (simp only [lenB]; (first | omega | (simp only [lenB] <;> omega)))) (by first | (simp <;> (first | omega | (simp only [lenB] <;> omega))) | (first | omega | (simp only [lenB] <;> omega))) (fun b3 => ?_)
    refine SOps.nilCheck rfl rfl ?_
    refine SOps.fieldRef rfl fieldB_62_1_1 ?_
    refine SOps.store 0 0 1 rfl rfl oneB_60 rfl rfl rfl (by decide) (by first | rfl | exact accD_one _ _ _) ?_
    refine SOps.nil ?_
    refine SCode.seq ?_
    refine SCode.seqR ?_
    refine SOps.fieldPin rfl fieldB_43_1_1 ?_
    refine SOps.loadPin rfl flatB_41 ?_
    refine SOps.lenM rfl sliceB_41_3_1 ?_
    refine SOps.move rfl ?_
    refine SOps.nil ?_
    refine SCode.block ?_
    refine SCode.loop2 (fun (i : Nat) (kq : Nat) => (⟨90, [(0, DBxs l), (5, .ref b0 0), (6, .v (.int .i64 (((stB l k) : Nat) : Int))), (7, .v (.int .i64 (k : Int))), (9, DRunes (runes (l[k]).word)), (15, DBxs l), (16, .v (.int .i64 (l.length : Int))), (17, .v (.int .i64 (k : Int))), (48, DInts (l[k]).pts), (49, .v (.int .i64 ((l[k]).pts.length : Int))), (50, .v (.int .i64 (i : Int)))], [(b0, DO.row 62 3 [[accD 1 b2 ((l.take (k + 1)).map encRw), accD 3 kq ((q3i l k ((l[k]).pts.take i)).map encP3), .v (.int .i64 w)]])] ++ (accH 70 1 b2 ((l.take (k + 1)).map encRw) ++ (accH 67 3 kq ((q3i l k ((l[k]).pts.take i)).map encP3) ++ []))⟩ : St)) (fun (i : Nat) (kq : Nat) => i ≤ (l[k]).pts.length) (fun (i : Nat) (kq : Nat) => (l[k]).pts.length - i) (0) (b3) (by exact Nat.zero_le _) (St.Le.of ⟨(by first | rfl | (show some _ = some _; rw [hq0] <;> rfl)), (by first | rfl | (show some _ = some _; rw [hq0] <;> rfl)), (by first | rfl | (show some _ = some _; rw [hq0] <;> rfl)), (by first | rfl | (show some _ = some _; rw [hq0] <;> rfl)), (by first | rfl | (show some _ = some _; rw [hq0] <;> rfl)), (by first | rfl | (show some _ = some _; rw [hq0] <;> rfl)), (by first | rfl | (show some _ = some _; rw [hq0] <;> rfl)), (by first | rfl | (show some _ = some _; rw [hq0] <;> rfl)), (by first | rfl | (show some _ = some _; rw [hq0] <;> rfl)), (by first | rfl | (show some _ = some _; rw [hq0] <;> rfl)), (by first | rfl | (show some _ = some _; rw [hq0] <;> rfl)), trivial⟩ rfl (by first | rfl | (rw [hwk2, hq0]; exact cons_cong rfl rfl))) ?_
    rintro i kq hi
    refine SCode.seqR ?_
    refine SOps.bin rfl rfl rfl ?_
    refine SOps.nil ?_
    refine SCode.seq ?_
    refine SCode.cond rfl (fun hc2 => ?_) (fun hc2 => ?_)
    · try simp only [decide_eq_true_eq, decide_eq_false_iff_not, Bool.not_eq_true', Bool.not_eq_false', beq_iff_eq, bne_iff_ne, ne_eq, beq_eq_false_iff_ne, bne_eq_false_iff_eq, Int.not_lt, Int.not_le, Nat.not_lt, Nat.not_le, Int.ofNat_lt, Int.ofNat_le, Bool.not_eq_eq_eq_not, Bool.not_true, Bool.not_false] at hc2
      refine SCode.skip ?_
      show SCode _ _ _ _
      refine SCode.seq ?_
      refine SCode.block ?_
      refine SCode.seqR ?_
      have hil : i < (l[k]).pts.length := by omega
      have hqi := hqk _ (List.getElem_mem hil)
      have hq3i := q3i_len l k ((l[k]).pts.take i)
      have hti : ((l[k]).pts.take i).length = i := by simp; omega
      have hsn := q3i_snoc (l := l) (k := k) hil
      refine SOps.indexM (i) rfl rfl sliceB_41_3_1 (by first | omega | (simp only [lenB] <;> omega)) (by first | omega | (simp only [lenB] <;> omega)) ?_
      refine SOps.loadPin rfl flatB_3 ?_
      refine SOps.assign rfl ?_
      refine SOps.nil ?_
      refine SCode.region ?_
      refine SOps.move rfl ?_
      refine SOps.move rfl ?_
      refine SOps.nilCheck rfl rfl ?_
      refine SOps.fieldRef rfl fieldB_62_1_1 ?_
      refine SOps.loadRef 0 0 1 rfl flatB_60 rfl rfl rfl rfl ?_
      refine SOps.move rfl ?_
      refine SOps.move rfl ?_
      refine SOps.move rfl ?_
      refine SOps.move rfl ?_
      refine SOps.addI rfl rfl (by first | omega | (simp only [lenB] <;> omega)) (by first | omega | (simp only [lenB] <;> omega)) ?_
      refine SOps.buildM placesB_67 zeroIs_67 rfl rfl ?_
      refine SOps.litF rfl sliceB_60_67_3 zeroIs_67 rfl ?_
      refine SOps.appendAcc ([_] ++ accH 70 1 _ _) [] sliceB_60_67_3 elemB_67_3_24 rfl rfl (by exact (List.append_assoc [_] _ _).symm) SrcD.isl (by simp) (by first | (simp [lenB] <;> (first | omega | (simp only [lenB] <;> omega))) | (simp only [lenB]; (first | omega | (simp only [lenB] <;> omega)))) (by first | (simp <;> (first | omega | (simp only [lenB] <;> omega))) | (first | omega | (simp only [lenB] <;> omega))) (fun b4 => ?_)
      refine SOps.nilCheck rfl rfl ?_
      refine SOps.fieldRef rfl fieldB_62_1_1 ?_
      refine SOps.store 0 0 1 rfl rfl oneB_60 rfl rfl rfl (by decide) (by first | rfl | exact accD_one _ _ _) ?_
      refine SOps.nil ?_
      show SCode _ _ _ _
      refine SCode.region ?_
      refine SOps.addI rfl rfl (by first | omega | (simp only [lenB] <;> omega)) (by first | omega | (simp only [lenB] <;> omega)) ?_
      refine SOps.move rfl ?_
      refine SOps.nil ?_
      exact ⟨i + 1, b4, by omega, by omega, St.Le.of ⟨rfl, rfl, rfl, rfl, rfl, rfl, rfl, rfl, rfl, rfl, rfl, trivial⟩ rfl (by rw [hsn] <;> rfl)⟩
    · try simp only [decide_eq_true_eq, decide_eq_false_iff_not, Bool.not_eq_true', Bool.not_eq_false', beq_iff_eq, bne_iff_ne, ne_eq, beq_eq_false_iff_ne, bne_eq_false_iff_eq, Int.not_lt, Int.not_le, Nat.not_lt, Nat.not_le, Int.ofNat_lt, Int.ofNat_le, Bool.not_eq_eq_eq_not, Bool.not_true, Bool.not_false] at hc2
      refine SCode.exit ?_
      show SCode _ _ _ _
      refine SCode.region ?_
      refine SOps.move rfl ?_
      refine SOps.move rfl ?_
      refine SOps.lenM rfl sliceB_70_21_1 ?_
      refine SOps.addI rfl rfl (by first | omega | (simp only [lenB] <;> omega)) (by first | omega | (simp only [lenB] <;> omega)) ?_
      refine SOps.addI rfl rfl (by first | omega | (simp only [lenB] <;> omega)) (by first | omega | (simp only [lenB] <;> omega)) ?_
      refine SOps.assign rfl ?_
      refine SOps.nil ?_
      show SCode _ _ _ _
      refine SCode.region ?_
      refine SOps.addI rfl rfl (by first | omega | (simp only [lenB] <;> omega)) (by first | omega | (simp only [lenB] <;> omega)) ?_
      refine SOps.move rfl ?_
      refine SOps.nil ?_
      have hq9 : q3i l k ((l[k]).pts.take i) = q3 l (k + 1) := by rw [List.take_of_length_le (show (l[k]).pts.length ≤ i by omega), q3_succ hkl]
      exact ⟨k + 1, b2, kq, by omega, by omega, St.Le.of ⟨rfl, rfl, congrArg (fun z => some (DV.v (.int .i64 z))) (by rw [hss]; unfold wlen; omega), rfl, rfl, rfl, trivial⟩ rfl (by rw [← hq9]; exact cons_cong rfl rfl)⟩
  · try simp only [decide_eq_true_eq, decide_eq_false_iff_not, Bool.not_eq_true', Bool.not_eq_false', beq_iff_eq, bne_iff_ne, ne_eq, beq_eq_false_iff_ne, bne_eq_false_iff_eq, Int.not_lt, Int.not_le, Nat.not_lt, Nat.not_le, Int.ofNat_lt, Int.ofNat_le, Bool.not_eq_eq_eq_not, Bool.not_true, Bool.not_false] at hc1
    refine SCode.exit ?_
    show SCode _ _ _ _
    refine SCode.seqR ?_
    have hq3l := q3_len l k
    have hln := ptsF_len l k (by omega) hp
    refine SOps.move rfl ?_
    refine SOps.move rfl ?_
    refine SOps.nilCheck rfl rfl ?_
    refine SOps.fieldRef rfl fieldB_62_1_1 ?_
    refine SOps.loadRef 0 0 1 rfl flatB_60 rfl rfl rfl rfl ?_
    refine SOps.move rfl ?_
    refine SOps.lenM rfl sliceB_22_43_2 ?_
    refine SOps.move rfl ?_
    refine SOps.buildM placesB_67 zeroIs_67 rfl rfl ?_
    refine SOps.litF rfl sliceB_60_67_3 zeroIs_67 rfl ?_
    refine SOps.appendAcc ([_] ++ accH 70 1 _ _) [] sliceB_60_67_3 elemB_67_3_24 rfl rfl (by exact (List.append_assoc [_] _ _).symm) SrcD.isl (by simp) (by first | (simp [lenB] <;> (first | omega | (simp only [lenB] <;> omega))) | (simp only [lenB]; (first | omega | (simp only [lenB] <;> omega)))) (by first | (simp <;> (first | omega | (simp only [lenB] <;> omega))) | (first | omega | (simp only [lenB] <;> omega))) (fun b5 => ?_)
    refine SOps.nilCheck rfl rfl ?_
    refine SOps.fieldRef rfl fieldB_62_1_1 ?_
    refine SOps.store 0 0 1 rfl rfl oneB_60 rfl rfl rfl (by decide) (by first | rfl | exact accD_one _ _ _) ?_
    refine SOps.nil ?_
    refine SCode.seqR ?_
    refine SOps.freezePar (t := 5) rfl rfl rfl ?_
    refine SOps.move rfl ?_
    refine SOps.assign rfl ?_
    refine SOps.nil ?_
    refine SCode.drop ?_
    refine SCode.ret ?_
    have hkk : k = l.length := by omega
    subst hkk
    exact ⟨_, Res.one (.tmp rfl), by rw [encPar, pts3_eq, List.map_append, List.take_length]; rfl, rfl⟩
end Go.GH
namespace Go.GH
open Go Go.Lib
def wAt (l : List Bx) (j : Nat) : List Int := match l[j]? with
  | some b => runes b.word
  | none => []
theorem wAt_lt {l : List Bx} {j : Nat} (h : j < l.length) : wAt l j = runes (l[j]).word := by
  unfold wAt; rw [List.getElem?_eq_getElem h]
/-- Whole words, from a up to w. -/
def wsA (l : List Bx) (a w : Nat) : List ByteArray := ((l.take w).drop a).map (fun b => encs (runes b.word))
theorem wsA_zero {l : List Bx} {a : Nat} : wsA l a a = [] := by
  unfold wsA
  rw [List.drop_eq_nil_of_le (by simp; omega)]; rfl
theorem wsA_succ {l : List Bx} {a w : Nat} (h1 : a ≤ w) (h2 : w < l.length) : wsA l a (w + 1) = wsA l a w ++ [encs (runes (l[w]).word)] := by
  unfold wsA
  rw [List.take_add_one, List.getElem?_eq_getElem h2, List.drop_append, List.map_append]
  have : a - (l.take w).length = 0 := by simp; omega
  rw [this]; rfl
theorem wsA_len {l : List Bx} {a w : Nat} (h2 : w ≤ l.length) : (wsA l a w).length = w - a := by
  unfold wsA; simp; omega
def wsB (l : List Bx) (a b : Nat × Int × Int) : List ByteArray := if 0 < b.2.1 then wsA l a.1 b.1 ++ [encs ((wAt l b.1).take b.2.1.toNat)] else wsA l a.1 b.1
def wsC (l : List Bx) (a b : Nat × Int × Int) : List ByteArray := if 0 < a.2.1 then (wsB l a b).set 0 (encs ((runes ((wsB l a b).getD 0 .empty)).drop a.2.1.toNat)) else wsB l a b
def lineP (l : List Bx) (i k : Nat) : Ln := ⟨wsC l (pt3 l i) (pt3 l k), decide (0 < (pt3 l k).2.1)⟩
/-- Between these points there is a line. -/
structure LineOK (l : List Bx) (a b : Nat × Int × Int) : Prop where
  le : a.1 ≤ b.1
  len : b.1 ≤ l.length
  hy : 0 < b.2.1 → b.1 < l.length ∧ b.2.1 ≤ ((wAt l b.1).length : Int)
  cut : 0 < a.2.1 → 0 < (wsB l a b).length ∧ a.2.1 ≤ ((runes ((wsB l a b).getD 0 .empty)).length : Int) ∧ (runes ((wsB l a b).getD 0 .empty)).length ≤ 1000000
end Go.GH
namespace Go.GH
open Go Go.RowKit
section
variable {C : Ctx} {st : St} {ops : Array Oper} {R : St → Prop} {t : Tmp}
theorem SOps.swap01 {l : List Oper} {n : Nat} {slots : List (Nat × DV)} {a b : Nat × DO} {H : DHeap} (h : SOps C ops l ⟨n, slots, b :: a :: H⟩ R) : SOps C ops l ⟨n, slots, a :: b :: H⟩ R :=
  SOps.weaken (st' := ⟨n, slots, b :: a :: H⟩) ⟨rfl, fun _ _ h => .inl h, a :: b :: H, List.Perm.swap _ _ _, List.Sublist.refl _⟩ h
theorem SOps.reHeap {l : List Oper} {n : Nat} {slots : List (Nat × DV)} {H H' : DHeap} (e : H' = H) (h : SOps C ops l ⟨n, slots, H'⟩ R) : SOps C ops l ⟨n, slots, H⟩ R := e ▸ h
theorem SOps.rowNil {l : List Oper} (i k j s2 : Nat) {b elem sz : Nat} {rows : List (List DV)} {row : List DV} (hi : st.heap[i]? = some (b, .row elem sz rows)) (hk : rows[k]? = some row) (hj : row[j]? = some (.v (.slice none 0 0)))
    (h : SOps C ops l ⟨st.n, st.slots, st.heap.set i (b, .row elem sz (rows.set k (row.set j (.isl false s2 []))))⟩ R) : SOps C ops l st R := by
  intro base ok a w ⟨F, hs⟩
  have hT := (hs.heap _ (List.mem_of_getElem? hi)).2.2
  refine h base ok a w ⟨_, hs.write (w' := w) hi (Step.refl _ _) ?_⟩
  obtain ⟨cs, k1, k2, k3, k4⟩ := hT
  have hkl := (List.getElem?_eq_some_iff.1 hk).1
  refine ⟨cs, k1, by simpa using k2, by simpa using k3, fun q e hq => ?_⟩
  rw [List.getElem?_set] at hq
  split at hq
  · rename_i hkq
    subst hkq
    obtain rfl := Option.some.inj hq
    obtain ⟨m1, m2⟩ := k4 _ _ hk
    refine ⟨by simpa using m1, fun u d hd => ?_⟩
    rw [List.getElem?_set] at hd
    split at hd
    · rename_i hju
      subst hju
      split at hd
      · obtain rfl := Option.some.inj hd
        obtain ⟨x, hx, hone, hr⟩ := m2 _ _ hj
        exact ⟨x, hx, hone, nil_isl hr⟩
      · cases hd
    · exact m2 _ _ hd
  · exact k4 _ _ hq
/-- The first cell of the second own row holds an accumulator, which is written no more. -/
theorem SOps.freezeAccIn {l : List Oper} {r : Nat × DO} {b T sz e s2 kw : Nat} {W : List (List DV)} {ds : List DV} (hp : C.pu = true) (hh : st.heap = [r] ++ (((b, .row T sz [accD s2 kw W :: ds]) :: accH e s2 kw W) ++ []))
    (h : SOps C ops l ⟨st.n, st.slots, [r, (b, .row T sz [.isl false s2 W :: ds])]⟩ R) : SOps C ops l st R := by
  obtain ⟨n, slots, heap⟩ := st
  dsimp only at hh
  subst hh
  cases W with
  | nil => exact SOps.rowNil 1 0 0 s2 rfl rfl rfl h
  | cons u W => exact SOps.freezeIn 2 1 0 0 hp rfl rfl rfl rfl h
/-- A pinned variable that holds an own row, which is written no more. -/
theorem SOps.freezePin {l : List Oper} (i : Nat) {b elem sz len : Nat} {es : List (List DV)} (hp : C.pu = true) (hi : st.heap[i]? = some (b, .row elem sz es)) (hd : st.get t = some (.ipin [.sl b sz 0 len])) (hle : len = es.length)
    (h : SOps C ops l ⟨st.n, (t, .ipin [.isl false sz es]) :: st.slots, st.heap.eraseIdx i⟩ R) : SOps C ops l st R :=
  SOps.letGoAs i hp hi hd (fun w F v ho hv => by
    subst hle
    cases hv with
    | ipin xs hF hc hr =>
      refine .ipin xs (.inl hF) (fun j d hj => ?_) (fun j d hj => ?_)
      · have hj0 : j = 0 := by have := (List.getElem?_eq_some_iff.1 hj).1; simp at this; omega
        subst hj0
        exact hc 0 _ rfl
      · have hj0 : j = 0 := by have := (List.getElem?_eq_some_iff.1 hj).1; simp at this; omega
        subst hj0
        simp only [List.getElem?_cons_zero, Option.some.injEq] at hj
        subst hj
        exact rep_row ho (hr 0 _ rfl)) h
end
end Go.GH
namespace Go.GH
open Go Go.Proofs
variable {E : Env}
theorem aggB_67_3 : aggB Tryd.prog 67 3 = true := by kernel_rfl
theorem elemB_9_1_16 : elemB Tryd.prog 9 1 16 = true := by kernel_rfl
theorem fieldB_67_0_0 : fieldB Tryd.prog 67 0 0 = true := by kernel_rfl
theorem flatB_70 : flatB Tryd.prog 70 = true := by kernel_rfl
theorem oneB_4 : oneB Tryd.prog 4 = true := by kernel_rfl
theorem oneB_46 : oneB Tryd.prog 46 = true := by kernel_rfl
theorem oneB_9 : oneB Tryd.prog 9 = true := by kernel_rfl
theorem zeroIs_9 : zeroIs Tryd.prog 9 (.string .empty) := by unfold zeroIs; kernel_rfl
theorem sLine0 (l : List Bx) (w : Int) (i k : Nat) (hw1 : ∀ b ∈ l, b.word.size ≤ 1000000) (hl : l.length ≤ 1000) (hi : i < ptN l) (hk : k < ptN l) (hok : LineOK l (pt3 l i) (pt3 l k)) : GCall Tryd.prog E 63 [.ipin (encPar l w), .v (.int .i64 ((i : Nat) : Int)), .v (.int .i64 ((k : Nat) : Int))] [] (fun d H => d = .agg (encLn (lineP l i k))) := by
  have hi2 : i < (pts3 l).length := hi
  have hk2 : k < (pts3 l).length := hk
  have hni := pt3_lt hi2
  have hnk := pt3_lt hk2
  refine GCall.body (C := ⟨Tryd.prog, E, true⟩) Tryd.func63 rfl (fun _ => rfl) (by kernel_rfl) rfl ?_
  refine SCode.seqR ?_
  refine SOps.alloc (sz := 2) zeroIs_48 (fun b0 hb_0 => ?_)
  refine SOps.nil ?_
  refine SCode.seq ?_
  apply SCode.drawG 19 [some 12, some 13, some 14, some 15, some 16, some 17, some 18, some 19, some 20, some 21, some 22, some 23, some 24, some 25, some 7, some 8, none, none] [[.inr 0], [.inl 0], [.inl 1], [.inl 2], [.inr 1], [.inl 3, .inl 4], [.inl 5], [.inr 0], [.inl 7], [.inl 8], [.inl 9], [.inr 2], [.inl 10, .inl 11], [.inl 12], [], [], [.inl 14, .inl 6], [.inl 15, .inl 13]] [[14, 16], [15, 17]] [none, none, none, none, none, none, none, none, none, none, none, none, none, none, some (0, 0), some (1, 0), some (0, 1), some (1, 1)] [[], [], [], [], [], [], [], [], [], [], [], [], [], [], [14], [15], [], []] ([(b0, DO.row 48 2 [[.v (.slice none 0 0), .v (.bool false)]])]) [⟨[14, 16], fun ids c => match c with | 0 => [] | 1 => [((ids.getD 0 0), .row 67 3 [[.v (.int .i64 0), .v (.int .i64 0), .v (.int .i64 0)]])] | _ => [((ids.getD 0 0), .row 67 3 [encP3 ((pts3 l)[i])])]⟩, ⟨[15, 17], fun ids c => match c with | 0 => [] | 1 => [((ids.getD 0 0), .row 67 3 [[.v (.int .i64 0), .v (.int .i64 0), .v (.int .i64 0)]])] | _ => [((ids.getD 0 0), .row 67 3 [encP3 ((pts3 l)[k])])]⟩] mixed_
  · kernel_rfl
  · rfl
  · exact fun _ => .refl _
  · apply GOk.rd 12
    · rfl
    · exact fun b => (NeedG.inr _ rfl NeedG.nil)
    · intro b rest ext
      refine SOps.move rfl ?_
      exact SOps.nil rfl
    apply GOk.rd 13
    · rfl
    · exact fun b => (NeedG.inl 0 _ _ rfl rfl rfl NeedG.nil)
    · intro b rest ext
      refine SOps.nilCheck rfl rfl ?_
      exact SOps.nil rfl
    apply GOk.rd 14
    · rfl
    · exact fun b => (NeedG.inl 0 _ _ rfl rfl rfl NeedG.nil)
    · intro b rest ext
      refine SOps.fieldPin rfl fieldB_62_1_1 ?_
      exact SOps.nil rfl
    apply GOk.rd 15
    · rfl
    · exact fun b => (NeedG.inl 0 _ _ rfl rfl rfl NeedG.nil)
    · intro b rest ext
      refine SOps.loadPin rfl flatB_60 ?_
      exact SOps.nil rfl
    apply GOk.rd 16
    · rfl
    · exact fun b => (NeedG.inr _ rfl NeedG.nil)
    · intro b rest ext
      refine SOps.move rfl ?_
      exact SOps.nil rfl
    apply GOk.rd 17
    · rfl
    · exact fun b => (NeedG.inl 1 _ _ rfl rfl rfl (NeedG.inl 0 _ _ rfl rfl rfl NeedG.nil))
    · intro b rest ext
      refine SOps.indexM (i) rfl rfl sliceB_60_67_3 (by first | omega | (simp only [lenB] <;> omega)) (by first | omega | (simp only [lenB] <;> omega)) ?_
      exact SOps.nil rfl
    apply GOk.rd 18
    · rfl
    · exact fun b => (NeedG.inl 0 _ _ rfl rfl rfl NeedG.nil)
    · intro b rest ext
      refine SOps.loadPinA rfl aggB_67_3 (Nat.le_of_ble_eq_true rfl) ?_
      exact SOps.nil rfl
    apply GOk.rd 19
    · rfl
    · exact fun b => (NeedG.inr _ rfl NeedG.nil)
    · intro b rest ext
      refine SOps.move rfl ?_
      exact SOps.nil rfl
    apply GOk.rd 20
    · rfl
    · exact fun b => (NeedG.inl 0 _ _ rfl rfl rfl NeedG.nil)
    · intro b rest ext
      refine SOps.nilCheck rfl rfl ?_
      exact SOps.nil rfl
    apply GOk.rd 21
    · rfl
    · exact fun b => (NeedG.inl 0 _ _ rfl rfl rfl NeedG.nil)
    · intro b rest ext
      refine SOps.fieldPin rfl fieldB_62_1_1 ?_
      exact SOps.nil rfl
    apply GOk.rd 22
    · rfl
    · exact fun b => (NeedG.inl 0 _ _ rfl rfl rfl NeedG.nil)
    · intro b rest ext
      refine SOps.loadPin rfl flatB_60 ?_
      exact SOps.nil rfl
    apply GOk.rd 23
    · rfl
    · exact fun b => (NeedG.inr _ rfl NeedG.nil)
    · intro b rest ext
      refine SOps.move rfl ?_
      exact SOps.nil rfl
    apply GOk.rd 24
    · rfl
    · exact fun b => (NeedG.inl 1 _ _ rfl rfl rfl (NeedG.inl 0 _ _ rfl rfl rfl NeedG.nil))
    · intro b rest ext
      refine SOps.indexM (k) rfl rfl sliceB_60_67_3 (by first | omega | (simp only [lenB] <;> omega)) (by first | omega | (simp only [lenB] <;> omega)) ?_
      exact SOps.nil rfl
    apply GOk.rd 25
    · rfl
    · exact fun b => (NeedG.inl 0 _ _ rfl rfl rfl NeedG.nil)
    · intro b rest ext
      refine SOps.loadPinA rfl aggB_67_3 (Nat.le_of_ble_eq_true rfl) ?_
      exact SOps.nil rfl
    apply GOk.act [14] (fun ids => some (7, .ref (ids.getD 0 0) 0))
    · rfl
    · rfl
    · rfl
    · exact fun b => NeedG.nil
    · intro b rest ext
      refine SOps.alloc (sz := 3) zeroIs_67 (fun b1 hb_1 => ?_)
      exact SOps.nil ⟨fun k => if k = 14 then b1 else b k, fun k hk => if_neg hk, ⟨rfl, fun t d h => .inl h, _, List.perm_middle, .refl _⟩⟩
    apply GOk.act [15] (fun ids => some (8, .ref (ids.getD 0 0) 0))
    · rfl
    · rfl
    · rfl
    · exact fun b => NeedG.nil
    · intro b rest ext
      refine SOps.alloc (sz := 3) zeroIs_67 (fun b2 hb_2 => ?_)
      exact SOps.nil ⟨fun k => if k = 15 then b2 else b k, fun k hk => if_neg hk, ⟨rfl, fun t d h => .inl h, _, List.perm_middle, .refl _⟩⟩
    apply GOk.act [] (fun _ => none)
    · rfl
    · rfl
    · rfl
    · exact fun b => (NeedG.inl 1 _ _ rfl rfl rfl (NeedG.inl 9 _ _ rfl rfl rfl NeedG.nil))
    · intro b rest ext
      refine SOps.storeAM 1 rfl rfl aggB_67_3 rfl ?_
      exact SOps.nil ⟨b, fun _ _ => rfl, ⟨rfl, fun t d h => .inl h, _, .refl _, .refl _⟩⟩
    apply GOk.act [] (fun _ => none)
    · rfl
    · rfl
    · rfl
    · exact fun b => (NeedG.inl 1 _ _ rfl rfl rfl (NeedG.inl 3 _ _ rfl rfl rfl NeedG.nil))
    · intro b rest ext
      refine SOps.storeAM 1 rfl rfl aggB_67_3 rfl ?_
      exact SOps.nil ⟨b, fun _ _ => rfl, ⟨rfl, fun t d h => .inl h, _, .refl _, .refl _⟩⟩
    exact GOk.nil
  · exact fun _ => rfl
  · intro ids
    show SCode _ _ _ _
    refine SCode.seqR ?_
    refine SOps.freezeRef (t := 7) 1 0 rfl rfl rfl rfl rfl ?_
    refine SOps.freezeRef (t := 8) 1 0 rfl rfl rfl rfl rfl ?_
    obtain ⟨pa, hpa⟩ : ∃ x, (pts3 l)[i] = x := ⟨_, rfl⟩
    obtain ⟨pb, hpb⟩ : ∃ x, (pts3 l)[k] = x := ⟨_, rfl⟩
    refine SOps.reSlot (t := 7) rfl (show _ = DV.ipin (encP3 pa) by rw [← hpa]) ?_
    refine SOps.reSlot (t := 8) rfl (show _ = DV.ipin (encP3 pb) by rw [← hpb]) ?_
    have hlp : lineP l i k = ⟨wsC l pa pb, decide (0 < pb.2.1)⟩ := by rw [lineP, hni, hnk, hpa, hpb]
    rw [hni, hnk, hpa, hpb] at hok
    obtain ⟨hle, hlen, hhy, hcut⟩ := hok
    refine SOps.alloc (sz := 2) zeroIs_48 (fun b9 hb_9 => ?_)
    refine SOps.swap01 ?_
    refine SOps.nil ?_
    refine SCode.seq ?_
    refine SCode.seqR ?_
    refine SOps.fieldPin rfl fieldB_67_0_0 ?_
    refine SOps.loadPin rfl flatB_3 ?_
    refine SOps.assign rfl ?_
    refine SOps.nil ?_
    refine SCode.block ?_
    refine SCode.loop2 (fun (u : Nat) (kw : Nat) => (⟨85, [(0, .ipin (encPar l w)), (6, .ref b0 0), (7, .ipin (encP3 pa)), (8, .ipin (encP3 pb)), (9, .ref b9 0), (10, .v (.int .i64 (u : Int)))], [(b0, DO.row 48 2 [[.v (.slice none 0 0), .v (.bool false)]])] ++ (((b9, DO.row 48 2 [[accD 1 kw ((wsA l pa.1 u).map encS), .v (.bool false)]]) :: accH 9 1 kw ((wsA l pa.1 u).map encS)) ++ [])⟩ : St)) (fun (u : Nat) (kw : Nat) => pa.1 ≤ u ∧ u ≤ pb.1) (fun (u : Nat) (kw : Nat) => pb.1 - u) (pa.1) (0) (by exact ⟨Nat.le_refl _, by omega⟩) (St.Le.of ⟨(by first | rfl | (show some _ = some _; simp)), (by first | rfl | (show some _ = some _; simp)), (by first | rfl | (show some _ = some _; simp)), (by first | rfl | (show some _ = some _; simp)), (by first | rfl | (show some _ = some _; simp)), (by first | rfl | (show some _ = some _; simp)), trivial⟩ rfl (by first | rfl | (rw [wsA_zero] <;> rfl))) ?_
    rintro u kw ⟨hu1, hu2⟩
    refine SCode.seq ?_
    refine SCode.seqR ?_
    refine SOps.move rfl ?_
    refine SOps.fieldPin rfl fieldB_67_0_0 ?_
    refine SOps.loadPin rfl flatB_3 ?_
    refine SOps.bin rfl rfl rfl ?_
    refine SOps.nil ?_
    refine SCode.cond rfl (fun hc1 => ?_) (fun hc1 => ?_)
    · try simp only [decide_eq_true_eq, decide_eq_false_iff_not, Bool.not_eq_true', Bool.not_eq_false', beq_iff_eq, bne_iff_ne, ne_eq, beq_eq_false_iff_ne, bne_eq_false_iff_eq, Int.not_lt, Int.not_le, Nat.not_lt, Nat.not_le, Int.ofNat_lt, Int.ofNat_le, Bool.not_eq_eq_eq_not, Bool.not_true, Bool.not_false] at hc1
      refine SCode.skip ?_
      show SCode _ _ _ _
      refine SCode.seq ?_
      refine SCode.block ?_
      have hul : u < l.length := by omega
      have hwu := hw1 _ (List.getElem_mem hul)
      have hru := runes_len (l[u]).word
      have hwl9 := wsA_len (l := l) (a := pa.1) (w := u) (by omega)
      have hsu := wsA_succ (l := l) (a := pa.1) (w := u) (by omega) hul
      have hse : ((wsA l pa.1 (u + 1)).map encS) = ((wsA l pa.1 u).map encS) ++ [encS (encs (runes (l[u]).word))] := by rw [hsu, List.map_append]; rfl
      apply SCode.drawG 15 [some 34, some 35, some 36, some 37, some 38, some 39, some 40, some 41, some 42, some 43, some 44, some 45, some 46, none] [[.inr 9], [.inl 0], [.inr 0], [.inl 2], [.inl 3], [.inl 4], [.inr 10], [.inl 5, .inl 6], [.inl 7], [.inl 8], [.inl 9], [.inl 1, .inl 10], [.inr 9], [.inl 12, .inl 11]] [[1, 11, 13]] [none, some (0, 0), none, none, none, none, none, none, none, none, none, some (0, 1), none, some (0, 2)] [[], [], [], [], [], [], [], [], [], [], [], [11], [], []] ([(b0, DO.row 48 2 [[.v (.slice none 0 0), .v (.bool false)]])]) [⟨[1, 11, 13], fun ids c => match c with | 0 => (b9, DO.row 48 2 [[accD 1 kw ((wsA l pa.1 u).map encS), .v (.bool false)]]) :: accH 9 1 kw ((wsA l pa.1 u).map encS) | 1 => (b9, DO.row 48 2 [[accD 1 kw ((wsA l pa.1 u).map encS), .v (.bool false)]]) :: accH 9 1 kw ((wsA l pa.1 u).map encS) | 2 => (b9, DO.row 48 2 [[accD 1 kw ((wsA l pa.1 u).map encS), .v (.bool false)]]) :: accH 9 1 (ids.getD 1 0) (((wsA l pa.1 u).map encS) ++ [encS (encs (runes (l[u]).word))]) | _ => (b9, DO.row 48 2 [[accD 1 (ids.getD 1 0) (((wsA l pa.1 u).map encS) ++ [encS (encs (runes (l[u]).word))]), .v (.bool false)]]) :: accH 9 1 (ids.getD 1 0) (((wsA l pa.1 u).map encS) ++ [encS (encs (runes (l[u]).word))])⟩] mixed_
      · kernel_rfl
      · rfl
      · exact fun _ => .refl _
      · apply GOk.rd 34
        · rfl
        · exact fun b => (NeedG.inr _ rfl NeedG.nil)
        · intro b rest ext
          refine SOps.fieldRef rfl fieldB_48_0_0 ?_
          exact SOps.nil rfl
        apply GOk.act [] (fun ids => some (35, accD 1 kw ((wsA l pa.1 u).map encS)))
        · rfl
        · rfl
        · rfl
        · exact fun b => (NeedG.inl 0 _ _ rfl rfl rfl NeedG.nil)
        · intro b rest ext
          refine SOps.loadRef 1 0 0 rfl flatB_46 rfl rfl rfl rfl ?_
          exact SOps.nil ⟨b, fun _ _ => rfl, ⟨rfl, fun t d h => .inl h, _, .refl _, .refl _⟩⟩
        apply GOk.rd 36
        · rfl
        · exact fun b => (NeedG.inr _ rfl NeedG.nil)
        · intro b rest ext
          refine SOps.move rfl ?_
          exact SOps.nil rfl
        apply GOk.rd 37
        · rfl
        · exact fun b => (NeedG.inl 0 _ _ rfl rfl rfl NeedG.nil)
        · intro b rest ext
          refine SOps.nilCheck rfl rfl ?_
          exact SOps.nil rfl
        apply GOk.rd 38
        · rfl
        · exact fun b => (NeedG.inl 0 _ _ rfl rfl rfl NeedG.nil)
        · intro b rest ext
          refine SOps.fieldPin rfl fieldB_62_0_0 ?_
          exact SOps.nil rfl
        apply GOk.rd 39
        · rfl
        · exact fun b => (NeedG.inl 0 _ _ rfl rfl rfl NeedG.nil)
        · intro b rest ext
          refine SOps.loadPin rfl flatB_59 ?_
          exact SOps.nil rfl
        apply GOk.rd 40
        · rfl
        · exact fun b => (NeedG.inr _ rfl NeedG.nil)
        · intro b rest ext
          refine SOps.move rfl ?_
          exact SOps.nil rfl
        apply GOk.rd 41
        · rfl
        · exact fun b => (NeedG.inl 1 _ _ rfl rfl rfl (NeedG.inl 0 _ _ rfl rfl rfl NeedG.nil))
        · intro b rest ext
          refine SOps.indexM (u) rfl rfl sliceB_59_70_1 (by first | omega | (simp only [lenB] <;> omega)) (by first | omega | (simp only [lenB] <;> omega)) ?_
          exact SOps.nil rfl
        apply GOk.rd 42
        · rfl
        · exact fun b => (NeedG.inl 0 _ _ rfl rfl rfl NeedG.nil)
        · intro b rest ext
          refine SOps.loadPin rfl flatB_70 ?_
          exact SOps.nil rfl
        apply GOk.rd 43
        · rfl
        · exact fun b => (NeedG.inl 0 _ _ rfl rfl rfl NeedG.nil)
        · intro b rest ext
          refine SOps.convRunesStr rfl sliceB_70_21_1 intB_21_i32 strB_9 (by simp [lenB] <;> (first | omega | (simp only [lenB] <;> omega))) ?_
          exact SOps.nil rfl
        apply GOk.rd 44
        · rfl
        · exact fun b => (NeedG.inl 0 _ _ rfl rfl rfl NeedG.nil)
        · intro b rest ext
          refine SOps.litF rfl sliceB_46_9_1 zeroIs_9 rfl ?_
          exact SOps.nil rfl
        apply GOk.act [11] (fun ids => some (45, accD 1 (ids.getD 0 0) (((wsA l pa.1 u).map encS) ++ [encS (encs (runes (l[u]).word))])))
        · rfl
        · rfl
        · rfl
        · exact fun b => (NeedG.inl 9 _ _ rfl rfl rfl (NeedG.inl 0 _ _ rfl rfl rfl NeedG.nil))
        · intro b rest ext
          refine SOps.appendAcc [_, _] _ sliceB_46_9_1 elemB_9_1_16 rfl rfl rfl SrcD.isl (by simp) (by first | (simp [lenB] <;> (first | omega | (simp only [lenB] <;> omega))) | (simp only [lenB]; (first | omega | (simp only [lenB] <;> omega)))) (by first | (simp <;> (first | omega | (simp only [lenB] <;> omega))) | (first | omega | (simp only [lenB] <;> omega))) (fun b4 => ?_)
          exact SOps.nil ⟨fun k => if k = 11 then b4 else b k, fun k hk => if_neg hk, ⟨rfl, fun t d h => .inl h, _, .refl _, .refl _⟩⟩
        apply GOk.rd 46
        · rfl
        · exact fun b => (NeedG.inr _ rfl NeedG.nil)
        · intro b rest ext
          refine SOps.fieldRef rfl fieldB_48_0_0 ?_
          exact SOps.nil rfl
        apply GOk.act [] (fun _ => none)
        · rfl
        · rfl
        · rfl
        · exact fun b => (NeedG.inl 0 _ _ rfl rfl rfl (NeedG.inl 1 _ _ rfl rfl rfl NeedG.nil))
        · intro b rest ext
          refine SOps.store 1 0 0 rfl rfl oneB_46 rfl rfl rfl (by decide) (by first | rfl | exact accD_one _ _ _) ?_
          exact SOps.nil ⟨b, fun _ _ => rfl, ⟨rfl, fun t d h => .inl h, _, .refl _, .refl _⟩⟩
        exact GOk.nil
      · exact fun _ => rfl
      · intro ids
        show SCode _ _ _ _
        refine SCode.region ?_
        refine SOps.move rfl ?_
        refine SOps.addI rfl rfl (by first | omega | (simp only [lenB] <;> omega)) (by first | omega | (simp only [lenB] <;> omega)) ?_
        refine SOps.assign rfl ?_
        refine SOps.nil ?_
        exact ⟨u + 1, ids 11, ⟨by omega, by omega⟩, by omega, St.Le.of ⟨rfl, rfl, rfl, rfl, rfl, rfl, trivial⟩ rfl (by rw [hse] <;> rfl)⟩
    · try simp only [decide_eq_true_eq, decide_eq_false_iff_not, Bool.not_eq_true', Bool.not_eq_false', beq_iff_eq, bne_iff_ne, ne_eq, beq_eq_false_iff_ne, bne_eq_false_iff_eq, Int.not_lt, Int.not_le, Nat.not_lt, Nat.not_le, Int.ofNat_lt, Int.ofNat_le, Bool.not_eq_eq_eq_not, Bool.not_true, Bool.not_false] at hc1
      refine SCode.exit ?_
      show SCode _ _ _ _
      refine SCode.seqJ (fun (kw : Nat) => (⟨85, [(0, .ipin (encPar l w)), (6, .ref b0 0), (7, .ipin (encP3 pa)), (8, .ipin (encP3 pb)), (9, .ref b9 0)], [(b0, DO.row 48 2 [[.v (.slice none 0 0), .v (.bool false)]])] ++ (((b9, DO.row 48 2 [[accD 1 kw ((wsB l pa pb).map encS), .v (.bool (decide (0 < pb.2.1)))]]) :: accH 9 1 kw ((wsB l pa pb).map encS)) ++ [])⟩ : St)) ?_ ?_
      · refine SCode.seqR ?_
        obtain rfl : u = pb.1 := by omega
        refine SOps.fieldPin rfl fieldB_67_1_1 ?_
        refine SOps.loadPin rfl flatB_3 ?_
        refine SOps.bin rfl rfl rfl ?_
        refine SOps.nil ?_
        refine SCode.cond rfl (fun hc2 => ?_) (fun hc2 => ?_)
        · try simp only [decide_eq_true_eq, decide_eq_false_iff_not, Bool.not_eq_true', Bool.not_eq_false', beq_iff_eq, bne_iff_ne, ne_eq, beq_eq_false_iff_ne, bne_eq_false_iff_eq, Int.not_lt, Int.not_le, Nat.not_lt, Nat.not_le, Int.ofNat_lt, Int.ofNat_le, Bool.not_eq_eq_eq_not, Bool.not_true, Bool.not_false] at hc2
          refine SCode.seq ?_
          obtain ⟨hbl, hbo⟩ := hhy (by omega)
          rw [wAt_lt hbl] at hbo
          have hwb9 := hw1 _ (List.getElem_mem hbl)
          have hrb9 := runes_len (l[pb.1]).word
          have hwl9 := wsA_len (l := l) (a := pa.1) (w := pb.1) (by omega)
          have hwB : ((wsB l pa pb).map encS) = (((wsA l pa.1 pb.1).map encS) ++ [encS (encs ((runes (l[pb.1]).word).take pb.2.1.toNat))]) := by rw [wsB, if_pos (by omega), wAt_lt hbl, List.map_append]; rfl
          have hyB : decide (0 < pb.2.1) = true := decide_eq_true (by omega)
          have htk9 : ((runes (l[pb.1]).word).take pb.2.1.toNat).length ≤ 1000000 := by simp; omega
          apply SCode.drawG 19 [some 50, some 51, some 52, some 53, some 54, some 55, some 56, some 57, some 58, some 59, some 60, some 61, some 62, some 63, some 64, some 65, some 66, none] [[.inr 9], [.inl 0], [.inr 0], [.inl 2], [.inl 3], [.inl 4], [.inr 8], [.inl 6], [.inl 5, .inl 7], [.inl 8], [.inr 8], [.inl 10], [.inl 9, .inl 11], [.inl 12], [.inl 13], [.inl 1, .inl 14], [.inr 9], [.inl 16, .inl 15]] [[1, 15, 17]] [none, some (0, 0), none, none, none, none, none, none, none, none, none, none, none, none, none, some (0, 1), none, some (0, 2)] [[], [], [], [], [], [], [], [], [], [], [], [], [], [], [], [15], [], []] ([(b0, DO.row 48 2 [[.v (.slice none 0 0), .v (.bool false)]])]) [⟨[1, 15, 17], fun ids c => match c with | 0 => (b9, DO.row 48 2 [[accD 1 kw ((wsA l pa.1 pb.1).map encS), .v (.bool false)]]) :: accH 9 1 kw ((wsA l pa.1 pb.1).map encS) | 1 => (b9, DO.row 48 2 [[accD 1 kw ((wsA l pa.1 pb.1).map encS), .v (.bool false)]]) :: accH 9 1 kw ((wsA l pa.1 pb.1).map encS) | 2 => (b9, DO.row 48 2 [[accD 1 kw ((wsA l pa.1 pb.1).map encS), .v (.bool false)]]) :: accH 9 1 (ids.getD 1 0) (((wsA l pa.1 pb.1).map encS) ++ [encS (encs ((runes (l[pb.1]).word).take pb.2.1.toNat))]) | _ => (b9, DO.row 48 2 [[accD 1 (ids.getD 1 0) (((wsA l pa.1 pb.1).map encS) ++ [encS (encs ((runes (l[pb.1]).word).take pb.2.1.toNat))]), .v (.bool false)]]) :: accH 9 1 (ids.getD 1 0) (((wsA l pa.1 pb.1).map encS) ++ [encS (encs ((runes (l[pb.1]).word).take pb.2.1.toNat))])⟩] mixed_
          · kernel_rfl
          · rfl
          · exact fun _ => .refl _
          · apply GOk.rd 50
            · rfl
            · exact fun b => (NeedG.inr _ rfl NeedG.nil)
            · intro b rest ext
              refine SOps.fieldRef rfl fieldB_48_0_0 ?_
              exact SOps.nil rfl
            apply GOk.act [] (fun ids => some (51, accD 1 kw ((wsA l pa.1 pb.1).map encS)))
            · rfl
            · rfl
            · rfl
            · exact fun b => (NeedG.inl 0 _ _ rfl rfl rfl NeedG.nil)
            · intro b rest ext
              refine SOps.loadRef 1 0 0 rfl flatB_46 rfl rfl rfl rfl ?_
              exact SOps.nil ⟨b, fun _ _ => rfl, ⟨rfl, fun t d h => .inl h, _, .refl _, .refl _⟩⟩
            apply GOk.rd 52
            · rfl
            · exact fun b => (NeedG.inr _ rfl NeedG.nil)
            · intro b rest ext
              refine SOps.move rfl ?_
              exact SOps.nil rfl
            apply GOk.rd 53
            · rfl
            · exact fun b => (NeedG.inl 0 _ _ rfl rfl rfl NeedG.nil)
            · intro b rest ext
              refine SOps.nilCheck rfl rfl ?_
              exact SOps.nil rfl
            apply GOk.rd 54
            · rfl
            · exact fun b => (NeedG.inl 0 _ _ rfl rfl rfl NeedG.nil)
            · intro b rest ext
              refine SOps.fieldPin rfl fieldB_62_0_0 ?_
              exact SOps.nil rfl
            apply GOk.rd 55
            · rfl
            · exact fun b => (NeedG.inl 0 _ _ rfl rfl rfl NeedG.nil)
            · intro b rest ext
              refine SOps.loadPin rfl flatB_59 ?_
              exact SOps.nil rfl
            apply GOk.rd 56
            · rfl
            · exact fun b => (NeedG.inr _ rfl NeedG.nil)
            · intro b rest ext
              refine SOps.fieldPin rfl fieldB_67_0_0 ?_
              exact SOps.nil rfl
            apply GOk.rd 57
            · rfl
            · exact fun b => (NeedG.inl 0 _ _ rfl rfl rfl NeedG.nil)
            · intro b rest ext
              refine SOps.loadPin rfl flatB_3 ?_
              exact SOps.nil rfl
            apply GOk.rd 58
            · rfl
            · exact fun b => (NeedG.inl 2 _ _ rfl rfl rfl (NeedG.inl 0 _ _ rfl rfl rfl NeedG.nil))
            · intro b rest ext
              refine SOps.indexM (pb.1) rfl rfl sliceB_59_70_1 (by first | omega | (simp only [lenB] <;> omega)) (by first | omega | (simp only [lenB] <;> omega)) ?_
              exact SOps.nil rfl
            apply GOk.rd 59
            · rfl
            · exact fun b => (NeedG.inl 0 _ _ rfl rfl rfl NeedG.nil)
            · intro b rest ext
              refine SOps.loadPin rfl flatB_70 ?_
              exact SOps.nil rfl
            apply GOk.rd 60
            · rfl
            · exact fun b => (NeedG.inr _ rfl NeedG.nil)
            · intro b rest ext
              refine SOps.fieldPin rfl fieldB_67_1_1 ?_
              exact SOps.nil rfl
            apply GOk.rd 61
            · rfl
            · exact fun b => (NeedG.inl 0 _ _ rfl rfl rfl NeedG.nil)
            · intro b rest ext
              refine SOps.loadPin rfl flatB_3 ?_
              exact SOps.nil rfl
            apply GOk.rd 62
            · rfl
            · exact fun b => (NeedG.inl 2 _ _ rfl rfl rfl (NeedG.inl 0 _ _ rfl rfl rfl NeedG.nil))
            · intro b rest ext
              refine SOps.sliceT (n1 := 0) (pb.2.1.toNat) sliceB_70_21_1 rfl rfl (by first | omega | (simp only [lenB] <;> omega)) (by first | omega | (simp only [lenB] <;> omega)) ?_
              exact SOps.nil rfl
            apply GOk.rd 63
            · rfl
            · exact fun b => (NeedG.inl 0 _ _ rfl rfl rfl NeedG.nil)
            · intro b rest ext
              refine SOps.convRunesStr rfl sliceB_70_21_1 intB_21_i32 strB_9 (by simp [lenB] <;> (first | omega | (simp only [lenB] <;> omega))) ?_
              exact SOps.nil rfl
            apply GOk.rd 64
            · rfl
            · exact fun b => (NeedG.inl 0 _ _ rfl rfl rfl NeedG.nil)
            · intro b rest ext
              refine SOps.litF rfl sliceB_46_9_1 zeroIs_9 rfl ?_
              exact SOps.nil rfl
            apply GOk.act [15] (fun ids => some (65, accD 1 (ids.getD 0 0) (((wsA l pa.1 pb.1).map encS) ++ [encS (encs ((runes (l[pb.1]).word).take pb.2.1.toNat))])))
            · rfl
            · rfl
            · rfl
            · exact fun b => (NeedG.inl 13 _ _ rfl rfl rfl (NeedG.inl 0 _ _ rfl rfl rfl NeedG.nil))
            · intro b rest ext
              refine SOps.appendAcc [_, _] _ sliceB_46_9_1 elemB_9_1_16 rfl rfl rfl SrcD.isl (by simp) (by first | (simp [lenB] <;> (first | omega | (simp only [lenB] <;> omega))) | (simp only [lenB]; (first | omega | (simp only [lenB] <;> omega)))) (by first | (simp <;> (first | omega | (simp only [lenB] <;> omega))) | (first | omega | (simp only [lenB] <;> omega))) (fun b5 => ?_)
              exact SOps.nil ⟨fun k => if k = 15 then b5 else b k, fun k hk => if_neg hk, ⟨rfl, fun t d h => .inl h, _, .refl _, .refl _⟩⟩
            apply GOk.rd 66
            · rfl
            · exact fun b => (NeedG.inr _ rfl NeedG.nil)
            · intro b rest ext
              refine SOps.fieldRef rfl fieldB_48_0_0 ?_
              exact SOps.nil rfl
            apply GOk.act [] (fun _ => none)
            · rfl
            · rfl
            · rfl
            · exact fun b => (NeedG.inl 0 _ _ rfl rfl rfl (NeedG.inl 1 _ _ rfl rfl rfl NeedG.nil))
            · intro b rest ext
              refine SOps.store 1 0 0 rfl rfl oneB_46 rfl rfl rfl (by decide) (by first | rfl | exact accD_one _ _ _) ?_
              exact SOps.nil ⟨b, fun _ _ => rfl, ⟨rfl, fun t d h => .inl h, _, .refl _, .refl _⟩⟩
            exact GOk.nil
          · exact fun _ => rfl
          · intro ids
            show SCode _ _ _ _
            refine SCode.region ?_
            refine SOps.fieldRef rfl fieldB_48_1_1 ?_
            refine SOps.store 1 0 1 rfl rfl oneB_4 rfl rfl rfl (by decide) (by first | rfl | exact accD_one _ _ _) ?_
            refine SOps.nil ?_
            first
              | exact ⟨ids 15, St.Le.of ⟨rfl, rfl, rfl, rfl, rfl, trivial⟩ rfl (by rw [hwB, hyB] <;> rfl)⟩
              | exact ⟨kw, St.Le.of ⟨rfl, rfl, rfl, rfl, rfl, trivial⟩ rfl (by rw [show wsB l pa pb = wsA l pa.1 pb.1 from if_neg (by omega), decide_eq_false (by omega)] <;> rfl)⟩
        · try simp only [decide_eq_true_eq, decide_eq_false_iff_not, Bool.not_eq_true', Bool.not_eq_false', beq_iff_eq, bne_iff_ne, ne_eq, beq_eq_false_iff_ne, bne_eq_false_iff_eq, Int.not_lt, Int.not_le, Nat.not_lt, Nat.not_le, Int.ofNat_lt, Int.ofNat_le, Bool.not_eq_eq_eq_not, Bool.not_true, Bool.not_false] at hc2
          refine SCode.skip ?_
          first
            | exact ⟨ids 15, St.Le.of ⟨rfl, rfl, rfl, rfl, rfl, trivial⟩ rfl (by rw [hwB, hyB] <;> rfl)⟩
            | exact ⟨kw, St.Le.of ⟨rfl, rfl, rfl, rfl, rfl, trivial⟩ rfl (by rw [show wsB l pa pb = wsA l pa.1 pb.1 from if_neg (by omega), decide_eq_false (by omega)] <;> rfl)⟩
      · intro kw
        refine SCode.seqJ (fun (_ : Nat) => (⟨85, [(6, .ref b0 0), (9, .ref b9 0)], [(b0, DO.row 48 2 [[.v (.slice none 0 0), .v (.bool false)]])] ++ (((b9, DO.row 48 2 [[accD 1 kw ((wsC l pa pb).map encS), .v (.bool (decide (0 < pb.2.1)))]]) :: accH 9 1 kw ((wsC l pa pb).map encS)) ++ [])⟩ : St)) ?_ ?_
        · refine SCode.seqR ?_
          refine SOps.fieldPin rfl fieldB_67_1_1 ?_
          refine SOps.loadPin rfl flatB_3 ?_
          refine SOps.bin rfl rfl rfl ?_
          refine SOps.nil ?_
          refine SCode.cond rfl (fun hc3 => ?_) (fun hc3 => ?_)
          · try simp only [decide_eq_true_eq, decide_eq_false_iff_not, Bool.not_eq_true', Bool.not_eq_false', beq_iff_eq, bne_iff_ne, ne_eq, beq_eq_false_iff_ne, bne_eq_false_iff_eq, Int.not_lt, Int.not_le, Nat.not_lt, Nat.not_le, Int.ofNat_lt, Int.ofNat_le, Bool.not_eq_eq_eq_not, Bool.not_true, Bool.not_false] at hc3
            refine SCode.seqR ?_
            obtain ⟨hcl, hco⟩ := hcut (by omega)
            obtain ⟨w0, ws9, hW⟩ : ∃ w0 ws9, wsB l pa pb = w0 :: ws9 := by cases hq : wsB l pa pb with | nil => (rw [hq] at hcl; simp at hcl) | cons a b => exact ⟨a, b, rfl⟩
            rw [hW] at hco
            have hco2 : pa.2.1 ≤ ((runes ((w0 :: ws9)[0])).length : Int) := hco.1
            have hco3 : (runes ((w0 :: ws9)[0])).length ≤ 1000000 := hco.2
            have hco5 : (runes w0).length ≤ 1000000 := hco.2
            have hco4 : ((runes ((w0 :: ws9)[0])).drop pa.2.1.toNat).length ≤ 1000000 := by rw [List.length_drop]; omega
            rw [hW]
            refine SOps.reHeap (H' := [(b0, DO.row 48 2 [[.v (.slice none 0 0), .v (.bool false)]]), (b9, DO.row 48 2 [[accD 1 kw ((w0 :: ws9).map encS), .v (.bool (decide (0 < pb.2.1)))]]), (kw, .row 9 1 ((w0 :: ws9).map encS))]) rfl ?_
            refine SOps.fieldRef rfl fieldB_48_0_0 ?_
            refine SOps.loadRef 1 0 0 rfl flatB_46 rfl rfl rfl rfl ?_
            refine SOps.indexS (0) rfl rfl sliceB_46_9_1 (by first | omega | (simp only [lenB] <;> omega)) (by first | omega | (simp only [lenB] <;> omega)) ?_
            refine SOps.loadK 2 (0) rfl flatB_9 rfl (by first | omega | (simp only [lenB] <;> omega)) (by first | omega | (simp; done) | (simp; omega)) rfl ?_
            refine SOps.runesF rfl rfl strB_9 sliceB_70_21_1 intB_21_i32 ?_
            refine SOps.assign rfl ?_
            refine SOps.nil ?_
            apply SCode.drawG 10 [some 76, some 77, some 78, some 79, some 80, some 81, some 82, some 83, none] [[.inr 9], [.inl 0], [.inr 11], [.inr 7], [.inl 3], [.inl 2, .inl 4], [.inl 5], [.inl 1], [.inl 7, .inl 6]] [[8]] [none, none, none, none, none, none, none, none, some (0, 0)] [[], [], [], [], [], [], [], [], []] ([(b0, DO.row 48 2 [[.v (.slice none 0 0), .v (.bool false)]]), (b9, DO.row 48 2 [[accD 1 kw ((w0 :: ws9).map encS), .v (.bool (decide (0 < pb.2.1)))]])]) [⟨[8], fun ids c => match c with | 0 => [(kw, .row 9 1 ((w0 :: ws9).map encS))] | _ => [(kw, .row 9 1 (((w0 :: ws9).set 0 (encs ((runes w0).drop pa.2.1.toNat))).map encS))]⟩] mixed_
            · kernel_rfl
            · rfl
            · exact fun _ => .refl _
            · apply GOk.rd 76
              · rfl
              · exact fun b => (NeedG.inr _ rfl NeedG.nil)
              · intro b rest ext
                refine SOps.fieldRef rfl fieldB_48_0_0 ?_
                exact SOps.nil rfl
              apply GOk.rd 77
              · rfl
              · exact fun b => (NeedG.inl 0 _ _ rfl rfl rfl NeedG.nil)
              · intro b rest ext
                refine SOps.loadRef 1 0 0 rfl flatB_46 rfl rfl rfl rfl ?_
                exact SOps.nil rfl
              apply GOk.rd 78
              · rfl
              · exact fun b => (NeedG.inr _ rfl NeedG.nil)
              · intro b rest ext
                refine SOps.move rfl ?_
                exact SOps.nil rfl
              apply GOk.rd 79
              · rfl
              · exact fun b => (NeedG.inr _ rfl NeedG.nil)
              · intro b rest ext
                refine SOps.fieldPin rfl fieldB_67_1_1 ?_
                exact SOps.nil rfl
              apply GOk.rd 80
              · rfl
              · exact fun b => (NeedG.inl 0 _ _ rfl rfl rfl NeedG.nil)
              · intro b rest ext
                refine SOps.loadPin rfl flatB_3 ?_
                exact SOps.nil rfl
              apply GOk.rd 81
              · rfl
              · exact fun b => (NeedG.inl 2 _ _ rfl rfl rfl (NeedG.inl 0 _ _ rfl rfl rfl NeedG.nil))
              · intro b rest ext
                refine SOps.sliceD (n1 := 0) (pa.2.1.toNat) sliceB_70_21_1 rfl rfl (by first | omega | (simp only [lenB] <;> omega)) (by first | omega | (simp only [lenB] <;> omega)) ?_
                exact SOps.nil rfl
              apply GOk.rd 82
              · rfl
              · exact fun b => (NeedG.inl 0 _ _ rfl rfl rfl NeedG.nil)
              · intro b rest ext
                refine SOps.convRunesStr rfl sliceB_70_21_1 intB_21_i32 strB_9 (by simp [lenB] <;> (first | omega | (simp only [lenB] <;> omega))) ?_
                exact SOps.nil rfl
              apply GOk.rd 83
              · rfl
              · exact fun b => (NeedG.inl 5 _ _ rfl rfl rfl NeedG.nil)
              · intro b rest ext
                refine SOps.indexS (0) rfl rfl sliceB_46_9_1 (by first | omega | (simp only [lenB] <;> omega)) (by first | omega | (simp only [lenB] <;> omega)) ?_
                exact SOps.nil rfl
              apply GOk.act [] (fun _ => none)
              · rfl
              · rfl
              · rfl
              · exact fun b => (NeedG.inl 0 _ _ rfl rfl rfl (NeedG.inl 1 _ _ rfl rfl rfl NeedG.nil))
              · intro b rest ext
                refine SOps.storeK 2 (0) (v := (encs ((runes w0).drop pa.2.1.toNat))) rfl rfl oneB_9 rfl (by first | omega | (simp only [lenB] <;> omega)) (by first | omega | (simp; done) | (simp; omega)) rfl (fun _ => rfl) ?_
                exact SOps.nil ⟨b, fun _ _ => rfl, ⟨rfl, fun t d h => .inl h, _, .refl _, .refl _⟩⟩
              exact GOk.nil
            · exact fun _ => rfl
            · intro ids
              first
                | exact ⟨0, St.Le.of ⟨rfl, rfl, trivial⟩ rfl (by rw [show wsC l pa pb = wsB l pa pb from if_neg (by omega)] <;> rfl)⟩
                | exact ⟨0, St.Le.of ⟨rfl, rfl, trivial⟩ rfl (by rw [show wsC l pa pb = ((w0 :: ws9).set 0 (encs ((runes w0).drop pa.2.1.toNat))) from by rw [wsC, if_pos (by omega), hW]; rfl] <;> rfl)⟩
          · try simp only [decide_eq_true_eq, decide_eq_false_iff_not, Bool.not_eq_true', Bool.not_eq_false', beq_iff_eq, bne_iff_ne, ne_eq, beq_eq_false_iff_ne, bne_eq_false_iff_eq, Int.not_lt, Int.not_le, Nat.not_lt, Nat.not_le, Int.ofNat_lt, Int.ofNat_le, Bool.not_eq_eq_eq_not, Bool.not_true, Bool.not_false] at hc3
            refine SCode.skip ?_
            first
              | exact ⟨0, St.Le.of ⟨rfl, rfl, trivial⟩ rfl (by rw [show wsC l pa pb = wsB l pa pb from if_neg (by omega)] <;> rfl)⟩
              | exact ⟨0, St.Le.of ⟨rfl, rfl, trivial⟩ rfl (by rw [show wsC l pa pb = ((w0 :: ws9).set 0 (encs ((runes w0).drop pa.2.1.toNat))) from by rw [wsC, if_pos (by omega), hW]; rfl] <;> rfl)⟩
        · intro _
          refine SCode.seqR ?_
          refine SOps.freezeAccIn rfl rfl ?_
          refine SOps.loadRefA 1 0 0 rfl aggB_48_2 rfl rfl rfl (Nat.le_of_ble_eq_true rfl) ?_
          refine SOps.storeAM 0 rfl rfl aggB_48_2 rfl ?_
          refine SOps.nil ?_
          refine SCode.ret ?_
          exact ⟨_, Res.one (.agg (i := 0) (k := 0) (j := 0) rfl aggB_48_2 rfl rfl rfl (Nat.le_of_ble_eq_true rfl)), by rw [hlp] <;> rfl⟩
end Go.GH
namespace Go.GH
open Go Go.Lib
def ltP (x y : Nat × Int) : Prop := x.1 < y.1 ∨ (x.1 = y.1 ∧ x.2 < y.2)
def PtOK (l : List Bx) (x : Nat × Int) : Prop := x.1 < l.length ∧ 0 ≤ x.2 ∧ x.2 < ((wAt l x.1).length : Int)
theorem encs_size4 (rs : List Int) : (encs rs).size ≤ 4 * rs.length := by
  induction rs with
  | nil => exact Nat.le_refl 0
  | cons r rs ih =>
    have := encode_size r
    show (Utf8.encode r ++ encs rs).size ≤ _
    rw [ByteArray.size_append, List.length_cons]
    omega
theorem boxB_pts {b : Bx} (h : boxB b = true) : (∀ q ∈ b.pts, 1 ≤ q ∧ q < (wlen b.word : Int)) ∧ b.pts.Pairwise (· < ·) := by
  obtain ⟨h1, h2, h3⟩ := boxB_iff.1 h
  refine ⟨fun q hq => ?_, ?_⟩
  · obtain ⟨i, hi, rfl⟩ := List.mem_iff_getElem.1 hq
    have := (ptB_at hi).1 (h3 i hi)
    exact ⟨this.1, this.2.1⟩
  · rw [List.pairwise_iff_getElem]
    intro i j hi hj hij
    induction j with
    | zero => omega
    | succ j ih =>
      have hj1 : j < b.pts.length := by omega
      have h5 := ((ptB_at hj).1 (h3 (j + 1) hj)).2.2
      have h6 : b.pts[j] < b.pts[j + 1] := by
        rcases h5 with h5 | ⟨h6, h5⟩
        · omega
        · exact h5
      rcases Nat.lt_or_ge i j with h7 | h7
      · have := ih hj1 h7; omega
      · obtain rfl : i = j := by omega
        exact h6
theorem pairwise_len {n : Int} : ∀ {l : List Int} {a : Int}, (∀ q ∈ l, a < q ∧ q < n) → l.Pairwise (· < ·) → a < n → (l.length : Int) < n - a
  | [], a, _, _, h => by simp; omega
  | q :: l, a, h1, h2, _ => by
    have hq := h1 q (List.mem_cons_self ..)
    have := pairwise_len (l := l) (a := q) (fun x hx => ⟨(List.pairwise_cons.1 h2).1 x hx, (h1 x (List.mem_cons_of_mem _ hx)).2⟩) (List.pairwise_cons.1 h2).2 hq.2
    rw [List.length_cons]; omega
/-- What is bounded in valid boxes. -/
structure Bnds (l : List Bx) : Prop where
  len : l.length ≤ 200
  word : ∀ b ∈ l, b.word.size ≤ 800
  wlen : ∀ b ∈ l, wlen b.word ≤ 200
  pts : ∀ b ∈ l, b.pts.length ≤ 200
  pos : ∀ b ∈ l, ∀ q ∈ b.pts, 1 ≤ q ∧ q ≤ 200
  cor : ∀ b ∈ l, encs (runes b.word) = b.word
theorem bnds_of {l : List Bx} (h : boxesB l = true) : Bnds l := by
  obtain ⟨h1, h2⟩ := boxesB_iff.1 h
  have hw : ∀ b ∈ l, encs (runes b.word) = b.word := fun b hb => (utf8R_iff _).1 (wordB_iff.1 (boxB_iff.1 (h2 b hb)).1).2.1
  refine ⟨h1, fun b hb => ?_, fun b hb => (boxB_iff.1 (h2 b hb)).2.1, fun b hb => ?_, fun b hb q hq => ?_, hw⟩
  · have h3 := encs_size4 (runes b.word)
    rw [hw b hb] at h3
    have := (boxB_iff.1 (h2 b hb)).2.1
    unfold Go.GH.wlen at this; omega
  · have h3 := boxB_pts (h2 b hb)
    have h4 := (boxB_iff.1 (h2 b hb)).2.1
    rcases Nat.eq_zero_or_pos b.pts.length with h0 | h0
    · omega
    · have h5 := h3.1 _ (List.getElem_mem h0)
      have := pairwise_len (a := 0) (fun q hq => ⟨by have := (h3.1 q hq).1; omega, (h3.1 q hq).2⟩) h3.2 (by omega)
      omega
  · have h3 := (boxB_pts (h2 b hb)).1 q hq
    have h4 := (boxB_iff.1 (h2 b hb)).2.1
    omega
theorem ptsF_ok {l : List Bx} (h : boxesB l = true) : ∀ k, k ≤ l.length → (∀ x ∈ ptsF (l.take k), x.1 < k ∧ PtOK l x) ∧ (ptsF (l.take k)).Pairwise ltP
  | 0, _ => by rw [List.take_zero]; exact ⟨fun x hx => by simp [ptsF] at hx, List.Pairwise.nil⟩
  | k + 1, hk => by
    have hkl : k < l.length := by omega
    obtain ⟨ih1, ih2⟩ := ptsF_ok h k (by omega)
    have hb := (boxesB_iff.1 h).2 _ (List.getElem_mem hkl)
    obtain ⟨hp1, hp2⟩ := boxB_pts hb
    have hne : 0 < wlen (l[k]).word := by
      rcases Nat.eq_zero_or_pos (wlen (l[k]).word) with h0 | h0
      · have h3 := (bnds_of h).cor _ (List.getElem_mem hkl)
        have h4 : runes (l[k]).word = [] := List.length_eq_zero_iff.1 h0
        rw [h4] at h3
        exact absurd h3.symm (wordB_iff.1 (boxB_iff.1 hb).1).1
      · exact h0
    rw [ptsF_take hkl]
    have hwk : wAt l k = runes (l[k]).word := wAt_lt hkl
    have hnew : ∀ x ∈ (k, (0 : Int)) :: (l[k]).pts.map (fun q => (k, q)), x.1 = k ∧ PtOK l x := fun x hx => by
      rcases List.mem_cons.1 hx with rfl | hx
      · exact ⟨rfl, hkl, Int.le_refl _, by rw [hwk]; unfold wlen at hne; show (0 : Int) < _; omega⟩
      · obtain ⟨q, hq, rfl⟩ := List.mem_map.1 hx
        have := hp1 q hq
        exact ⟨rfl, hkl, by show (0 : Int) ≤ q; omega, by rw [hwk]; exact this.2⟩
    refine ⟨fun x hx => ?_, ?_⟩
    · rcases List.mem_append.1 hx with hx | hx
      · exact ⟨by have := (ih1 x hx).1; omega, (ih1 x hx).2⟩
      · exact ⟨by have := (hnew x hx).1; omega, (hnew x hx).2⟩
    · refine List.pairwise_append.2 ⟨ih2, ?_, fun x hx y hy => .inl (by rw [(hnew y hy).1]; exact (ih1 x hx).1)⟩
      refine List.pairwise_cons.2 ⟨fun y hy => ?_, ?_⟩
      · obtain ⟨q, hq, rfl⟩ := List.mem_map.1 hy
        exact .inr ⟨rfl, by have := (hp1 q hq).1; show (0 : Int) < q; omega⟩
      · rw [List.pairwise_map]
        exact hp2.imp (fun h => .inr ⟨rfl, h⟩)
theorem pointsL_ok {l : List Bx} (h : boxesB l = true) : (∀ x ∈ pointsL l, PtOK l x ∨ x = (l.length, 0)) ∧ (pointsL l).Pairwise ltP := by
  have h1 := ptsF_ok h l.length (Nat.le_refl _)
  rw [List.take_length] at h1
  unfold pointsL
  refine ⟨fun x hx => ?_, List.pairwise_append.2 ⟨h1.2, List.pairwise_singleton .., fun x hx y hy => ?_⟩⟩
  · rcases List.mem_append.1 hx with hx | hx
    · exact .inl (h1.1 x hx).2
    · exact .inr (List.mem_singleton.1 hx)
  · rw [List.mem_singleton.1 hy]
    exact .inl (h1.1 x hx).1
theorem ptN_eq (l : List Bx) : ptN l = (pointsL l).length := by unfold ptN pts3; simp
def ptQ (l : List Bx) (i : Nat) : Nat × Int := (pointsL l).getD i (0, 0)
theorem ptQ_lt {l : List Bx} {i : Nat} (h : i < ptN l) : ptQ l i = (pointsL l)[i]'(by rw [← ptN_eq]; exact h) := by
  unfold ptQ; rw [List.getD_eq_getElem?_getD, List.getElem?_eq_getElem (by rw [← ptN_eq]; exact h)]; rfl
theorem pt3_eq {l : List Bx} {i : Nat} (h : i < ptN l) : pt3 l i = up3 l (ptQ l i) := by
  unfold pt3 pts3 ptQ
  have h2 : i < (pointsL l).length := by rw [← ptN_eq]; exact h
  rw [List.getD_eq_getElem?_getD, List.getD_eq_getElem?_getD, List.getElem?_map, List.getElem?_eq_getElem h2]
  rfl
theorem ptQ_ok {l : List Bx} {i : Nat} (h : boxesB l = true) (hi : i < ptN l) : PtOK l (ptQ l i) ∨ ptQ l i = (l.length, 0) := by
  rw [ptQ_lt hi]; exact (pointsL_ok h).1 _ (List.getElem_mem _)
theorem ptQ_ltP {l : List Bx} {i k : Nat} (h : boxesB l = true) (hik : i < k) (hk : k < ptN l) : ltP (ptQ l i) (ptQ l k) := by
  rw [ptQ_lt (show i < ptN l by omega), ptQ_lt hk]
  exact List.pairwise_iff_getElem.1 (pointsL_ok h).2 i k _ _ hik
theorem ptN_pos (l : List Bx) : 0 < ptN l := by rw [ptN_eq, pointsL]; simp
theorem ptN_le {l : List Bx} (h : boxesB l = true) : ptN l ≤ 200201 := by
  have hb := bnds_of h
  have h1 := ptsF_len l l.length (Nat.le_refl _) (fun b hb' => by have := hb.pts b hb'; omega)
  rw [List.take_length] at h1
  rw [ptN_eq, pointsL, List.length_append, List.length_singleton]
  have := hb.len
  omega
theorem ptQ_last (l : List Bx) : ptQ l (ptN l - 1) = (l.length, 0) := by
  rw [ptQ_lt (by have := ptN_pos l; omega)]
  simp only [ptN_eq, pointsL]
  simp
theorem ptQ_small {l : List Bx} {i : Nat} (h : boxesB l = true) (hi : i < ptN l - 1) : PtOK l (ptQ l i) := by
  rcases ptQ_ok h (show i < ptN l by omega) with h1 | h1
  · exact h1
  · have h2 := ptQ_ltP h hi (by have := ptN_pos l; omega)
    rw [h1, ptQ_last] at h2
    unfold ltP at h2
    simp at h2
theorem stB_mono {l : List Bx} {i : Nat} : ∀ {k : Nat}, i ≤ k → k ≤ l.length → stB l i ≤ stB l k
  | 0, h, _ => by obtain rfl : i = 0 := by omega
                  exact Nat.le_refl _
  | k + 1, h, hk => by
    rcases Nat.lt_or_ge k i with h1 | h1
    · obtain rfl : i = k + 1 := by omega
      exact Nat.le_refl _
    · have := stB_mono (l := l) h1 (by omega)
      rw [stB_succ (by omega)]
      omega
theorem near_of {l : List Bx} (h : boxesB l = true) : Near l := by
  have hb := bnds_of h
  refine ⟨by have := ptN_le h; omega, ptN_pos l, fun x hx => ?_⟩
  unfold pts3 at hx
  obtain ⟨y, hy, rfl⟩ := List.mem_map.1 hx
  show _ ≤ (stB l y.1 : Int) + y.2 ∧ (stB l y.1 : Int) + y.2 ≤ _
  have hs : ∀ k, k ≤ l.length → stB l k ≤ 201 * 200 := fun k hk => by
    have h1 := stB_le (l := l) hb.wlen k hk
    have h2 := hb.len
    have : (200 + 1) * k ≤ 201 * 200 := Nat.mul_le_mul_left _ (by omega)
    omega
  rcases (pointsL_ok h).1 y hy with h1 | rfl
  · have h2 := hs y.1 (Nat.le_of_lt h1.1)
    have h3 := h1.2
    rw [wAt_lt h1.1] at h3
    have h4 := hb.wlen _ (List.getElem_mem h1.1)
    unfold wlen at h4
    omega
  · have h2 := hs l.length (Nat.le_refl _)
    show _ ≤ (stB l l.length : Int) + 0 ∧ (stB l l.length : Int) + 0 ≤ _
    omega
theorem lineOK_of {l : List Bx} (h : boxesB l = true) {i k : Nat} (hik : i < k) (hk : k < ptN l) : LineOK l (pt3 l i) (pt3 l k) := by
  have hb := bnds_of h
  have h1 := ptQ_ltP h hik hk
  have hi := ptQ_small h (show i < ptN l - 1 by omega)
  have hko := ptQ_ok h hk
  rw [pt3_eq (show i < ptN l by omega), pt3_eq hk]
  generalize ptQ l i = a at *
  generalize ptQ l k = b at *
  obtain ⟨hi1, hi2, hi3⟩ := hi
  have hk1 : b.1 ≤ l.length := by
    rcases hko with h2 | h2
    · exact Nat.le_of_lt h2.1
    · rw [h2]; exact Nat.le_refl _
  have hle : a.1 ≤ b.1 := by rcases h1 with h1 | h1 <;> omega
  have hhy : 0 < b.2 → b.1 < l.length ∧ b.2 ≤ ((wAt l b.1).length : Int) := fun h2 => by
    rcases hko with h3 | h3
    · exact ⟨h3.1, by have := h3.2.2; omega⟩
    · rw [h3] at h2; simp at h2
  refine ⟨hle, hk1, hhy, fun h2 => ?_⟩
  change 0 < a.2 at h2
  have hwl := hb.wlen _ (List.getElem_mem hi1)
  rw [wAt_lt hi1] at hi3
  unfold wlen at hwl
  have key : ∀ (ws t : List ByteArray) (r : List Int), ws = encs r :: t → runes (encs r) = r → a.2 ≤ (r.length : Int) → r.length ≤ 200 → 0 < ws.length ∧ a.2 ≤ ((runes (ws.getD 0 .empty)).length : Int) ∧ (runes (ws.getD 0 .empty)).length ≤ 1000000 := by
    intro ws t r e1 e2 e3 e4
    subst e1
    rw [List.getD_cons_zero, e2]
    exact ⟨by simp, e3, by omega⟩
  have hwB : wsB l (up3 l a) (up3 l b) = if 0 < b.2 then wsA l a.1 b.1 ++ [encs ((wAt l b.1).take b.2.toNat)] else wsA l a.1 b.1 := rfl
  rcases Nat.lt_or_ge a.1 b.1 with h3 | h3
  · have h4 : ∃ t, wsA l a.1 b.1 = encs (runes (l[a.1]).word) :: t := by
      unfold wsA
      refine ⟨((l.take b.1).drop (a.1 + 1)).map (fun b => encs (runes b.word)), ?_⟩
      rw [List.drop_eq_getElem_cons (show a.1 < (l.take b.1).length by simp; omega)]
      simp
    obtain ⟨t, h4⟩ := h4
    have h5 : runes (encs (runes (l[a.1]).word)) = runes (l[a.1]).word := runes_encs (fun r hr => runes_valid hr)
    rw [h4] at hwB
    split at hwB
    · exact key _ (t ++ [encs ((wAt l b.1).take b.2.toNat)]) _ hwB h5 (by omega) hwl
    · exact key _ t _ hwB h5 (by omega) hwl
  · have h4 : a.1 = b.1 := by omega
    have h5 : a.2 < b.2 := by rcases h1 with h1 | h1 <;> omega
    have h6 := hhy (by omega)
    rw [if_pos (by omega), ← h4, wsA_zero, wAt_lt hi1] at hwB
    rw [← h4, wAt_lt hi1] at h6
    exact key _ [] _ hwB (runes_encs (fun r hr => runes_valid (List.mem_of_mem_take hr))) (by rw [List.length_take]; omega) (by rw [List.length_take]; omega)
end Go.GH
namespace Go.GH
open Go Go.Lib
/-- From a by nx through the list to z. -/
def Pth (nx : List Int) : Nat → List Nat → Nat → Prop
  | a, [], z => a = z
  | a, k :: ks, z => a < k ∧ nx.getD a 0 = (k : Int) ∧ Pth nx k ks z
def linesOf (l : List Bx) : Nat → List Nat → List Ln
  | _, [] => []
  | a, k :: ks => lineP l a k :: linesOf l k ks
theorem Pth.le {nx : List Int} : ∀ {a z : Nat} {ks : List Nat}, Pth nx a ks z → a ≤ z
  | _, _, [], h => Nat.le_of_eq h
  | _, _, k :: ks, ⟨h1, _, h2⟩ => by have := h2.le; omega
theorem Pth.cons {nx : List Int} {a z : Nat} {ks : List Nat} (h : Pth nx a ks z) (hz : a < z) : ∃ k ks2, ks = k :: ks2 ∧ a < k ∧ k ≤ z ∧ nx.getD a 0 = (k : Int) ∧ Pth nx k ks2 z := by
  cases ks with
  | nil => exact absurd h (by simp only [Pth]; omega)
  | cons k ks => exact ⟨k, ks, rfl, h.1, h.2.2.le, h.2.1, h.2.2⟩
theorem Pth.nil {nx : List Int} {a z : Nat} {ks : List Nat} (h : Pth nx a ks z) (hz : z ≤ a) : ks = [] := by
  cases ks with
  | nil => rfl
  | cons k ks => have := h.2.2.le; have := h.1; omega
theorem Pth.set {nx : List Int} {i : Nat} {v : Int} : ∀ {a z : Nat} {ks : List Nat}, Pth nx a ks z → z ≤ i → Pth (nx.set i v) a ks z
  | _, _, [], h, _ => h
  | a, z, k :: ks, ⟨h1, h2, h3⟩, hz => by
    have := h3.le
    refine ⟨h1, ?_, h3.set hz⟩
    rw [← h2, List.getD_eq_getElem?_getD, List.getD_eq_getElem?_getD, List.getElem?_set_ne (by omega)]
theorem Pth.snoc {nx : List Int} {i k : Nat} (hik : i < k) (hn : nx.getD i 0 = (k : Int)) : ∀ {a : Nat} {ks : List Nat}, Pth nx a ks i → Pth nx a (ks ++ [k]) k
  | a, [], h => by
    obtain rfl : a = i := h
    exact ⟨hik, hn, rfl⟩
  | a, q :: ks, ⟨h1, h2, h3⟩ => ⟨h1, h2, h3.snoc hik hn⟩
/-- The first point behind i that does not fit, or the number of points. -/
def stopP (l : List Bx) (w : Int) (i : Nat) : Nat := i + 1 + (List.range (ptN l - (i + 1))).findIdx (fun d => !decide (lenP l i (i + 1 + d) ≤ w))
theorem stopP_gt (l : List Bx) (w : Int) (i : Nat) : i < stopP l w i := by unfold stopP; omega
theorem stopP_le {l : List Bx} {w : Int} {i : Nat} (h : i < ptN l) : stopP l w i ≤ ptN l := by
  have := List.findIdx_le_length (p := fun d => !decide (lenP l i (i + 1 + d) ≤ w)) (xs := List.range (ptN l - (i + 1)))
  rw [List.length_range] at this
  unfold stopP; omega
theorem stopP_fit {l : List Bx} {w : Int} {i n : Nat} (h1 : i < n) (h2 : n < stopP l w i) : lenP l i n ≤ w := by
  have h3 : n - (i + 1) < (List.range (ptN l - (i + 1))).findIdx (fun d => !decide (lenP l i (i + 1 + d) ≤ w)) := by unfold stopP at h2; omega
  have h4 := List.not_of_lt_findIdx h3
  simp only [List.getElem_range] at h4
  rw [show i + 1 + (n - (i + 1)) = n by omega] at h4
  simpa using h4
theorem stopP_stop {l : List Bx} {w : Int} {i : Nat} (h : i < ptN l) : stopP l w i = ptN l ∨ (stopP l w i < ptN l ∧ ¬ lenP l i (stopP l w i) ≤ w) := by
  rcases Nat.lt_or_ge (stopP l w i) (ptN l) with h1 | h1
  · refine .inr ⟨h1, ?_⟩
    have h2 : (List.range (ptN l - (i + 1))).findIdx (fun d => !decide (lenP l i (i + 1 + d) ≤ w)) < (List.range (ptN l - (i + 1))).length := by
      rw [List.length_range]; unfold stopP at h1; omega
    have h3 := List.findIdx_getElem (w := h2)
    simp only [List.getElem_range] at h3
    have h4 : i + 1 + (List.range (ptN l - (i + 1))).findIdx (fun d => !decide (lenP l i (i + 1 + d) ≤ w)) = stopP l w i := rfl
    rw [h4] at h3
    simpa using h3
  · exact .inl (by have := stopP_le (w := w) h; omega)
def greedyF (l : List Bx) (w : Int) : Nat → Nat → Option (List Nat)
  | 0, _ => some []
  | f + 1, i => if i < ptN l - 1 then (if stopP l w i - 1 = i then none else (greedyF l w f (stopP l w i - 1)).map (fun ks => (stopP l w i - 1) :: ks)) else some []
theorem greedyF_end {l : List Bx} {w : Int} {f i : Nat} (h : ¬ i < ptN l - 1) : greedyF l w f i = some [] := by
  cases f with
  | zero => rfl
  | succ f => rw [greedyF, if_neg h]
theorem greedyF_none {l : List Bx} {w : Int} {f i : Nat} (h : i < ptN l - 1) (h2 : stopP l w i - 1 = i) (hf : 0 < f) : greedyF l w f i = none := by
  obtain ⟨g, rfl⟩ : ∃ g, f = g + 1 := ⟨f - 1, by omega⟩
  rw [greedyF, if_pos h, if_pos h2]
theorem greedyF_go {l : List Bx} {w : Int} {f i : Nat} (h : i < ptN l - 1) (h2 : ¬ stopP l w i - 1 = i) (hf : 0 < f) : greedyF l w f i = (greedyF l w (f - 1) (stopP l w i - 1)).map (fun ks => (stopP l w i - 1) :: ks) := by
  obtain ⟨g, rfl⟩ : ∃ g, f = g + 1 := ⟨f - 1, by omega⟩
  rw [greedyF, if_pos h, if_neg h2]; rfl
def greedyR (l : List Bx) (w : Int) : List Ln × Int := if validL l w then (match greedyF l w (ptN l) 0 with | some ks => (linesOf l 0 ks, 0) | none => ([], 2)) else ([], 1)
/-! counting -/
def minC (x : Int) : Int := if 1099511627776 < x then 1099511627776 else x
def brkV (t : List Int) : Nat → Int
  | 0 => 0
  | d + 1 => minC (brkV t d + t.getD d 0)
def brkL (l : List Bx) (w : Int) : Nat → List Int
  | 0 => [1]
  | j + 1 => brkV (brkL l w j) (stopP l w (ptN l - 2 - j) - (ptN l - 1 - j)) :: brkL l w j
theorem minC_bound {x : Int} (h : 0 ≤ x) : 0 ≤ minC x ∧ minC x ≤ 1099511627776 := by unfold minC; split <;> omega
theorem brkV_bound {t : List Int} (h : ∀ x ∈ t, 0 ≤ x ∧ x ≤ 1099511627776) : ∀ d, 0 ≤ brkV t d ∧ brkV t d ≤ 1099511627776
  | 0 => by simp [brkV]
  | d + 1 => by
    have ih := brkV_bound h d
    have h1 : 0 ≤ t.getD d 0 := by
      rw [List.getD_eq_getElem?_getD]
      rcases Nat.lt_or_ge d t.length with h2 | h2
      · rw [List.getElem?_eq_getElem h2]; exact (h _ (List.getElem_mem h2)).1
      · rw [List.getElem?_eq_none h2]; exact Int.le_refl _
    exact minC_bound (by omega)
theorem brkL_bound (l : List Bx) (w : Int) : ∀ j, ∀ x ∈ brkL l w j, 0 ≤ x ∧ x ≤ 1099511627776
  | 0, x, hx => by rw [List.mem_singleton.1 hx]; omega
  | j + 1, x, hx => by
    rcases List.mem_cons.1 hx with rfl | hx
    · exact brkV_bound (brkL_bound l w j) _
    · exact brkL_bound l w j x hx
def breaksR (l : List Bx) (w : Int) : Int × Int := if validL l w then ((brkL l w (ptN l - 1)).getD 0 0, 0) else (0, 1)
/-! the cheapest -/
def stepB (l : List Bx) (w pen : Int) (i : Nat) (t : List (Int × Int)) (x : Int × Int) (d : Nat) : Int × Int :=
  if (t.getD d (0, 0)).1 < 0 then x else if x.1 < 0 ∨ lineC l w pen i (i + 1 + d) (t.getD d (0, 0)).1 ≤ x.1 then (lineC l w pen i (i + 1 + d) (t.getD d (0, 0)).1, ((i + 1 + d : Nat) : Int)) else x
def bstV (l : List Bx) (w pen : Int) (i : Nat) (t : List (Int × Int)) : Nat → Int × Int
  | 0 => (-1, 0)
  | d + 1 => stepB l w pen i t (bstV l w pen i t d) d
def bstL (l : List Bx) (w pen : Int) : Nat → List (Int × Int)
  | 0 => [(0, 0)]
  | j + 1 => bstV l w pen (ptN l - 2 - j) (bstL l w pen j) (stopP l w (ptN l - 2 - j) - (ptN l - 1 - j)) :: bstL l w pen j
theorem bstL_len (l : List Bx) (w pen : Int) : ∀ j, (bstL l w pen j).length = j + 1
  | 0 => rfl
  | j + 1 => by rw [bstL, List.length_cons, bstL_len l w pen j]
def pathF (m : Nat) (nx : List Int) : Nat → Nat → List Nat
  | 0, _ => []
  | f + 1, i => if i < m then (nx.getD i 0).toNat :: pathF m nx f (nx.getD i 0).toNat else []
def linesR (l : List Bx) (w pen : Int) : List Ln × Int × Int :=
  if validL l w && penB pen then (if ((bstL l w pen (ptN l - 1)).getD 0 (0, 0)).1 < 0 then ([], 0, 2) else (linesOf l 0 (pathF (ptN l - 1) ((bstL l w pen (ptN l - 1)).map (·.2)) (ptN l) 0), ((bstL l w pen (ptN l - 1)).getD 0 (0, 0)).1, 0)) else ([], 0, 1)
theorem getD_lt {α : Type} {l : List α} {i : Nat} {d : α} (h : i < l.length) : l.getD i d = l[i] := by
  rw [List.getD_eq_getElem?_getD, List.getElem?_eq_getElem h]; rfl
theorem lenP_bound {l : List Bx} (h : boxesB l = true) {i k : Nat} (hi : i < ptN l) (hk : k < ptN l) : -100000 ≤ lenP l i k ∧ lenP l i k ≤ 100000 := by
  have hb := bnds_of h
  have hs : ∀ k, k ≤ l.length → stB l k ≤ 201 * 200 := fun k hk => by
    have h1 := stB_le (l := l) hb.wlen k hk
    have h2 := hb.len
    have : (200 + 1) * k ≤ 201 * 200 := Nat.mul_le_mul_left _ (by omega)
    omega
  have key : ∀ i, i < ptN l → 0 ≤ (pt3 l i).2.2 ∧ (pt3 l i).2.2 ≤ 41000 := fun i hi => by
    rw [pt3_eq hi]
    show 0 ≤ (stB l (ptQ l i).1 : Int) + (ptQ l i).2 ∧ (stB l (ptQ l i).1 : Int) + (ptQ l i).2 ≤ 41000
    rcases ptQ_ok h hi with h1 | h1
    · have h2 := hs _ (Nat.le_of_lt h1.1)
      have h3 := h1.2
      rw [wAt_lt h1.1] at h3
      have h4 := hb.wlen _ (List.getElem_mem h1.1)
      unfold wlen at h4
      omega
    · rw [h1]
      have h2 := hs l.length (Nat.le_refl _)
      show 0 ≤ (stB l l.length : Int) + 0 ∧ (stB l l.length : Int) + 0 ≤ _
      omega
  have h1 := key i hi
  have h2 := key k hk
  unfold lenP
  split <;> omega
/-- What is known of the cheapest: bounds; and where it is not negative, the next point is one where it is not negative either. -/
theorem bstV_ok {l : List Bx} {w pen : Int} {i : Nat} {t : List (Int × Int)} {M : Int} (hM : 0 ≤ M) (hw : 0 ≤ w ∧ w ≤ 200) (hp : 0 ≤ pen ∧ pen ≤ 1000000) (h : ∀ x ∈ t, x.1 ≤ M) (hl : ∀ d, d < t.length → -100000 ≤ lenP l i (i + 1 + d) ∧ lenP l i (i + 1 + d) ≤ 100000) : ∀ d, d ≤ t.length →
    (bstV l w pen i t d).1 ≤ M + 1210001000000 ∧ (0 ≤ (bstV l w pen i t d).1 → ∃ e, e < d ∧ (bstV l w pen i t d).2 = ((i + 1 + e : Nat) : Int) ∧ 0 ≤ (t.getD e (0, 0)).1)
  | 0, _ => ⟨by show (-1 : Int) ≤ _; omega, fun h => by have : (0 : Int) ≤ -1 := h; omega⟩
  | d + 1, hd => by
    obtain ⟨ih1, ih2⟩ := bstV_ok hM hw hp h hl d (by omega)
    have hdl : d < t.length := by omega
    have hll := hl d hdl
    have hx := h _ (List.getElem_mem hdl)
    have hsq := sq_bound (x := w - lenP l i (i + 1 + d)) (by omega) (by omega)
    have hg : t.getD d (0, 0) = t[d] := getD_lt hdl
    rw [← hg] at hx
    have hc : lineC l w pen i (i + 1 + d) (t.getD d (0, 0)).1 ≤ (t.getD d (0, 0)).1 + 1210001000000 := by
      unfold lineC
      split <;> split <;> omega
    rw [bstV]
    unfold stepB
    split
    · exact ⟨ih1, fun h => by obtain ⟨e, h1, h2⟩ := ih2 h; exact ⟨e, by omega, h2⟩⟩
    · split
      · exact ⟨by show lineC _ _ _ _ _ _ ≤ _; omega, fun _ => ⟨d, by omega, rfl, by omega⟩⟩
      · exact ⟨ih1, fun h => by obtain ⟨e, h1, h2⟩ := ih2 h; exact ⟨e, by omega, h2⟩⟩
theorem natl {N j e : Nat} (h : j + 1 ≤ N - 1) : ((N - 1 - j + e : Nat) : Int) = ((N - 1 - (j + 1) + (e + 1) : Nat) : Int) := by omega
theorem bstL_ok {l : List Bx} {w pen : Int} (hb : boxesB l = true) (hw : 0 ≤ w ∧ w ≤ 200) (hp : 0 ≤ pen ∧ pen ≤ 1000000) : ∀ j, j ≤ ptN l - 1 →
    (∀ x ∈ bstL l w pen j, x.1 ≤ 1210001000000 * j) ∧ (∀ d, d < j → 0 ≤ ((bstL l w pen j).getD d (0, 0)).1 → ∃ e, d < e ∧ e ≤ j ∧ ((bstL l w pen j).getD d (0, 0)).2 = ((ptN l - 1 - j + e : Nat) : Int) ∧ 0 ≤ ((bstL l w pen j).getD e (0, 0)).1)
  | 0, _ => ⟨fun x hx => by rw [List.mem_singleton.1 hx]; exact Int.le_refl _, fun d hd => by omega⟩
  | j + 1, hj => by
    obtain ⟨ih1, ih2⟩ := bstL_ok hb hw hp j (by omega)
    have hlen := bstL_len l w pen j
    have hst := stopP_le (l := l) (w := w) (i := ptN l - 2 - j) (by omega)
    have hV := bstV_ok (l := l) (w := w) (pen := pen) (i := ptN l - 2 - j) (t := bstL l w pen j) (M := 1210001000000 * j) (by omega) hw hp ih1 (fun d hd => lenP_bound hb (by omega) (by omega)) (stopP l w (ptN l - 2 - j) - (ptN l - 1 - j)) (by omega)
    refine ⟨fun x hx => ?_, fun d hd h0 => ?_⟩
    · rw [bstL] at hx
      rcases List.mem_cons.1 hx with rfl | hx
      · have := hV.1; omega
      · have := ih1 x hx; omega
    · rw [bstL] at h0 ⊢
      cases d with
      | zero =>
        rw [List.getD_cons_zero] at h0 ⊢
        obtain ⟨e, h1, h2, h3⟩ := hV.2 h0
        exact ⟨e + 1, by omega, by omega, by rw [h2]; congr 1; omega, by rw [List.getD_cons_succ]; exact h3⟩
      | succ d =>
        rw [List.getD_cons_succ] at h0 ⊢
        obtain ⟨e, h1, h2, h3, h4⟩ := ih2 d (by omega) h0
        exact ⟨e + 1, Nat.succ_lt_succ h1, Nat.succ_le_succ h2, h3.trans (natl hj), by rw [List.getD_cons_succ]; exact h4⟩
theorem pathF_pth {m : Nat} {nx : List Int} {G : Nat → Prop} (hG : ∀ i, i < m → G i → ∃ k, i < k ∧ k ≤ m ∧ nx.getD i 0 = ((k : Nat) : Int) ∧ G k) : ∀ f i, i ≤ m → m < f + i → G i → Pth nx i (pathF m nx f i) m
  | 0, i, h1, h2, _ => by omega
  | f + 1, i, h1, h2, hg => by
    rw [pathF]
    rcases Nat.lt_or_ge i m with h3 | h3
    · obtain ⟨k, k1, k2, k3, k4⟩ := hG i h3 hg
      rw [if_pos h3, k3]
      exact ⟨k1, k3, pathF_pth hG f k k2 (by omega) k4⟩
    · rw [if_neg (by omega)]
      show i = m
      omega
end Go.GH
namespace Go.GH
open Go Go.Proofs
variable {E : Env}
theorem elemB_48_2_32 : elemB Tryd.prog 48 2 32 = true := by kernel_rfl
theorem sLine (l : List Bx) (w : Int) (i k : Nat) (hb : boxesB l = true) (hik : i < k) (hk : k < ptN l) : GCall Tryd.prog E 63 [.ipin (encPar l w), .v (.int .i64 ((i : Nat) : Int)), .v (.int .i64 ((k : Nat) : Int))] [] (fun d H => d = .agg (encLn (lineP l i k)) ∧ H = []) :=
  (sLine0 l w i k (fun b h => by have := (bnds_of hb).word b h; omega) (by have := (bnds_of hb).len; omega) (by omega) hk (lineOK_of hb hik hk)).clean (fun d H e => ⟨_, fun _ _ _ h => h, e⟩)
theorem sLinesM (l : List Bx) (w : Int) (nx : List Int) (ks : List Nat) (hb : boxesB l = true) (hln : nx.length = ptN l) (hp : Pth nx 0 ks (ptN l - 1)) : GCall Tryd.prog E 43 [.ipin (encPar l w), DInts nx] [] (fun d H => d = DLns (linesOf l 0 ks) ∧ H = []) := by
  have hN := near_of hb
  have hN1 := hN.1
  refine GCall.body (C := ⟨Tryd.prog, E, true⟩) Tryd.func43 rfl (fun _ => rfl) (by kernel_rfl) rfl ?_
  refine SCode.seqR ?_
  refine SOps.assign rfl ?_
  refine SOps.nil ?_
  refine SCode.seqR ?_
  refine SOps.assign rfl ?_
  refine SOps.nil ?_
  refine SCode.seq ?_
  refine SCode.seqR ?_
  refine SOps.assign rfl ?_
  refine SOps.nil ?_
  refine SCode.block ?_
  refine SCode.loop4 (fun (i : Nat) (b : Nat) (dn : List Ln) (rs : List Nat) => (⟨26, [(0, .ipin (encPar l w)), (1, DInts nx), (5, accD 2 b (dn.map encLn)), (6, .v (.int .i64 (i : Int)))], accH 48 2 b (dn.map encLn) ++ []⟩ : St)) (fun (i : Nat) (b : Nat) (dn : List Ln) (rs : List Nat) => Pth nx i rs (ptN l - 1) ∧ dn ++ linesOf l i rs = linesOf l 0 ks ∧ dn.length ≤ i ∧ i ≤ ptN l - 1) (fun (i : Nat) (b : Nat) (dn : List Ln) (rs : List Nat) => ptN l - i) (0) (0) ([]) (ks) (by exact ⟨hp, rfl, Nat.le_refl _, Nat.zero_le _⟩) (St.Le.of ⟨(by first | rfl | (show some _ = some _; simp)), (by first | rfl | (show some _ = some _; simp)), (by first | rfl | (show some _ = some _; simp)), (by first | rfl | (show some _ = some _; simp)), trivial⟩ rfl (by first | rfl | (simp))) ?_
  rintro i b dn rs ⟨hpt, hdn, hdl, hile⟩
  refine SCode.seq ?_
  refine SCode.seqR ?_
  refine SOps.move rfl ?_
  refine SOps.move rfl ?_
  refine SOps.callP (sLast l w hN) rfl ?_
  rintro _ rfl
  refine SOps.bin rfl rfl rfl ?_
  refine SOps.nil ?_
  refine SCode.cond rfl (fun hc1 => ?_) (fun hc1 => ?_)
  · try simp only [decide_eq_true_eq, decide_eq_false_iff_not, Bool.not_eq_true', Bool.not_eq_false', beq_iff_eq, bne_iff_ne, ne_eq, beq_eq_false_iff_ne, bne_eq_false_iff_eq, Int.not_lt, Int.not_le, Nat.not_lt, Nat.not_le, Int.ofNat_lt, Int.ofNat_le, Bool.not_eq_eq_eq_not, Bool.not_true, Bool.not_false] at hc1
    obtain ⟨k, rs2, hrs, hik, hkm, hnk, hp2⟩ := hpt.cons (by omega)
    subst hrs
    have hil : i < nx.length := by omega
    have hnk2 : nx[i] = (k : Int) := by rw [← hnk]; exact (getD_lt hil).symm
    refine SCode.skip ?_
    show SCode _ _ _ _
    refine SCode.seq ?_
    refine SCode.block ?_
    refine SCode.region ?_
    refine SOps.move rfl ?_
    refine SOps.move rfl ?_
    refine SOps.move rfl ?_
    refine SOps.move rfl ?_
    refine SOps.move rfl ?_
    refine SOps.indexM (i) rfl rfl sliceB_41_3_1 (by first | omega | (simp only [lenB] <;> omega)) (by first | omega | (simp only [lenB] <;> omega)) ?_
    refine SOps.loadPin rfl flatB_3 ?_
    refine SOps.reSlot (t := 21) rfl (show _ = DV.v (.int .i64 ((k : Nat) : Int)) from congrArg (fun z => DV.v (.int .i64 z)) hnk2) ?_
    refine SOps.callP (sLine l w i k hb hik (by omega)) rfl ?_
    rintro _ rfl
    refine SOps.litF rfl sliceB_25_48_2 zeroIs_48 rfl ?_
    refine SOps.appendAcc [] [] sliceB_25_48_2 elemB_48_2_32 rfl rfl rfl SrcD.isl (by simp) (by first | (simp [lenB] <;> (first | omega | (simp only [lenB] <;> omega))) | (simp only [lenB]; (first | omega | (simp only [lenB] <;> omega)))) (by first | (simp <;> (first | omega | (simp only [lenB] <;> omega))) | (first | omega | (simp only [lenB] <;> omega))) (fun b0 => ?_)
    refine SOps.assign rfl ?_
    refine SOps.nil ?_
    show SCode _ _ _ _
    refine SCode.region ?_
    refine SOps.move rfl ?_
    refine SOps.move rfl ?_
    refine SOps.indexM (i) rfl rfl sliceB_41_3_1 (by first | omega | (simp only [lenB] <;> omega)) (by first | omega | (simp only [lenB] <;> omega)) ?_
    refine SOps.loadPin rfl flatB_3 ?_
    refine SOps.reSlot (t := 14) rfl (show _ = DV.v (.int .i64 ((k : Nat) : Int)) from congrArg (fun z => DV.v (.int .i64 z)) hnk2) ?_
    refine SOps.assign rfl ?_
    refine SOps.nil ?_
    exact ⟨k, b0, dn ++ [lineP l i k], rs2, ⟨hp2, by rw [← hdn, List.append_assoc]; rfl, by rw [List.length_append, List.length_singleton]; omega, hkm⟩, by omega, St.Le.of ⟨rfl, rfl, (by show some _ = some _; rw [List.map_append] <;> rfl), rfl, trivial⟩ rfl (by rw [List.map_append] <;> rfl)⟩
  · try simp only [decide_eq_true_eq, decide_eq_false_iff_not, Bool.not_eq_true', Bool.not_eq_false', beq_iff_eq, bne_iff_ne, ne_eq, beq_eq_false_iff_ne, bne_eq_false_iff_eq, Int.not_lt, Int.not_le, Nat.not_lt, Nat.not_le, Int.ofNat_lt, Int.ofNat_le, Bool.not_eq_eq_eq_not, Bool.not_true, Bool.not_false] at hc1
    have hrs := hpt.nil (by omega)
    subst hrs
    have hde : dn = linesOf l 0 ks := by rw [← hdn]; exact (List.append_nil _).symm
    refine SCode.exit ?_
    show SCode _ _ _ _
    refine SCode.seqR ?_
    refine SOps.freezeAcc (t := 5) [] [] rfl rfl rfl ?_
    refine SOps.move rfl ?_
    refine SOps.assign rfl ?_
    refine SOps.nil ?_
    refine SCode.ret ?_
    exact ⟨_, Res.one (.tmp rfl), by rw [← hde] <;> rfl, rfl⟩
end Go.GH
namespace Go.GH
open Go Go.Proofs
variable {E : Env}
theorem elemB_3_1_8 : elemB Tryd.prog 3 1 8 = true := by kernel_rfl
theorem oneB_41 : oneB Tryd.prog 41 = true := by kernel_rfl
theorem zeroIs_3 : zeroIs Tryd.prog 3 (.int .i64 0) := by unfold zeroIs; kernel_rfl
theorem zeroIs_41 : zeroIs Tryd.prog 41 (.slice none 0 0) := by unfold zeroIs; kernel_rfl
theorem sGreedy0 (hV : VS E) (l : List Bx) (w : Int) (hbx : ∀ x ∈ l, x.word.size ≤ 1048576) : GCall Tryd.prog E 21 [DBxs l, .v (.int .i64 w)] [] (fun d H => d = (if validL l w then (match greedyF l w (ptN l) 0 with | some ks => .tup [DLns (linesOf l 0 ks), .v (.int .i64 0)] | none => .tup [.v (.slice none 0 0), .v (.int .i64 2)]) else .tup [.v (.slice none 0 0), .v (.int .i64 1)])) := by
  refine GCall.body (C := ⟨Tryd.prog, E, true⟩) Tryd.func21 rfl (fun _ => rfl) (by kernel_rfl) rfl ?_
  refine SCode.seqR ?_
  refine SOps.assign rfl ?_
  refine SOps.assign rfl ?_
  refine SOps.nil ?_
  refine SCode.seq ?_
  refine SCode.seqR ?_
  refine SOps.move rfl ?_
  refine SOps.move rfl ?_
  refine SOps.callP (sValid hV _ _ (by assumption)) rfl ?_
  rintro _ rfl
  refine SOps.un rfl rfl ?_
  refine SOps.nil ?_
  refine SCode.cond rfl (fun hc1 => ?_) (fun hc1 => ?_)
  · try simp only [decide_eq_true_eq, decide_eq_false_iff_not, Bool.not_eq_true', Bool.not_eq_false', beq_iff_eq, bne_iff_ne, ne_eq, beq_eq_false_iff_ne, bne_eq_false_iff_eq, Int.not_lt, Int.not_le, Nat.not_lt, Nat.not_le, Int.ofNat_lt, Int.ofNat_le, Bool.not_eq_eq_eq_not, Bool.not_true, Bool.not_false] at hc1
    refine SCode.seqR ?_
    refine SOps.assign rfl ?_
    refine SOps.assign rfl ?_
    refine SOps.nil ?_
    refine SCode.ret ?_
    exact ⟨_, Res.two (.tmp rfl) (.tmp rfl), by rw [if_neg (by simp_all)]⟩
  · try simp only [decide_eq_true_eq, decide_eq_false_iff_not, Bool.not_eq_true', Bool.not_eq_false', beq_iff_eq, bne_iff_ne, ne_eq, beq_eq_false_iff_ne, bne_eq_false_iff_eq, Int.not_lt, Int.not_le, Nat.not_lt, Nat.not_le, Int.ofNat_lt, Int.ofNat_le, Bool.not_eq_eq_eq_not, Bool.not_true, Bool.not_false] at hc1
    have hvl : validL l w = true := by assumption
    obtain ⟨hwv, hbv⟩ : wideB w = true ∧ boxesB l = true := by unfold validL at hvl; exact Bool.and_eq_true_iff.1 hvl
    have hbn := bnds_of hbv
    have hN := near_of hbv
    have hN1 := hN.1
    have hN2 := hN.2.1
    obtain ⟨hw1, hw2⟩ := wideB_iff.1 hwv
    have hp3 : (pts3 l).length = ptN l := rfl
    refine SCode.skip ?_
    show SCode _ _ _ _
    refine SCode.seqR ?_
    refine SOps.move rfl ?_
    refine SOps.move rfl ?_
    refine SOps.callP (sOpen l w (fun b h => by have := hbn.word b h; omega) (fun b h => by have := hbn.pts b h; omega) (fun b h q hq => by have := hbn.pos b h q hq; omega) (by have := hbn.len; omega)) rfl ?_
    rintro _ rfl
    refine SOps.assign rfl ?_
    refine SOps.nil ?_
    refine SCode.seqR ?_
    refine SOps.move rfl ?_
    refine SOps.nilCheck rfl rfl ?_
    refine SOps.fieldPin rfl fieldB_62_1_1 ?_
    refine SOps.loadPin rfl flatB_60 ?_
    refine SOps.lenM rfl sliceB_60_67_3 ?_
    refine SOps.makeK (f := encI) ((ptN l)) (0) sliceB_41_3_1 elemB_3_1_8 zeroIs_3 rfl rfl (by first | omega | (simp only [lenB] <;> omega)) (by first | omega | (simp only [lenB] <;> omega)) rfl (by first | omega | (simp only [lenB] <;> omega)) (by simp only [lenB]; omega) (fun b0 hb_0 => ?_)
    refine SOps.alloc (sz := 1) zeroIs_41 (fun b1 hb_1 => ?_)
    refine SOps.storeM 0 rfl rfl oneB_41 rfl ?_
    refine SOps.freezeRef (t := 7) 0 0 rfl rfl rfl rfl rfl ?_
    refine SOps.nil ?_
    refine SCode.seq ?_
    refine SCode.seqR ?_
    refine SOps.alloc (sz := 1) zeroIs_3 (fun b2 hb_2 => ?_)
    refine SOps.storeM 0 rfl rfl oneB_3 rfl ?_
    refine SOps.nil ?_
    refine SCode.block ?_
    refine SCode.loop5 (fun (i : Nat) (bI : Nat) (nx : List Int) (ks : List Nat) (f : Nat) => (⟨48, [(6, .ipin (encPar l w)), (7, .ipin [.sl b0 1 0 (ptN l)]), (8, .ref bI 0)], [(bI, .row 3 1 [[.v (.int .i64 (i : Int))]]), (b0, .row 3 1 (nx.map encI))]⟩ : St)) (fun (i : Nat) (bI : Nat) (nx : List Int) (ks : List Nat) (f : Nat) => nx.length = ptN l ∧ i ≤ ptN l - 1 ∧ Pth nx 0 ks i ∧ ptN l ≤ f + i ∧ greedyF l w (ptN l) 0 = (greedyF l w f i).map (fun q => ks ++ q)) (fun (i : Nat) (bI : Nat) (nx : List Int) (ks : List Nat) (f : Nat) => ptN l - i) (0) (b2) ((List.replicate (ptN l) 0)) ([]) ((ptN l)) (by exact ⟨List.length_replicate, Nat.zero_le _, rfl, Nat.le_refl _, by simp⟩) (St.Le.of ⟨(by first | rfl | (show some _ = some _; simp)), (by first | rfl | (show some _ = some _; simp)), (by first | rfl | (show some _ = some _; simp)), trivial⟩ rfl (by first | rfl | (simp))) ?_
    rintro i bI nx ks f ⟨hnl, hile, hpt, hff, hgr⟩
    refine SCode.seq ?_
    refine SCode.seq ?_
    apply SCode.drawAuto mixed_ [22, 23, 24, 25] [[.inr 8], [.inr 6], [.inl 1], [.inl 0, .inl 2]]
    · kernel_rfl
    · kernel_rfl
    · apply DOk.cons 22 
      · rfl
      · exact (NeedIs.inr _ rfl NeedIs.nil)
      · intro rest
        refine SOps.loadRef 0 0 0 rfl flatB_3 rfl rfl rfl rfl ?_
        exact SOps.nil rfl
      apply DOk.cons 23 
      · rfl
      · exact (NeedIs.inr _ rfl NeedIs.nil)
      · intro rest
        refine SOps.move rfl ?_
        exact SOps.nil rfl
      apply DOk.cons 24 
      · rfl
      · exact (NeedIs.inl 0 _ _ rfl rfl NeedIs.nil)
      · intro rest
        refine SOps.callP (sLast l w hN) rfl ?_
        rintro _ rfl
        exact SOps.nil rfl
      apply DOk.cons 25 
      · rfl
      · exact (NeedIs.inl 2 _ _ rfl rfl (NeedIs.inl 0 _ _ rfl rfl NeedIs.nil))
      · intro rest
        refine SOps.bin rfl rfl rfl ?_
        exact SOps.nil rfl
      exact DOk.nil
    · rfl
    · show SCode _ _ _ _
      refine SCode.cond rfl (fun hc2 => ?_) (fun hc2 => ?_)
      · try simp only [decide_eq_true_eq, decide_eq_false_iff_not, Bool.not_eq_true', Bool.not_eq_false', beq_iff_eq, bne_iff_ne, ne_eq, beq_eq_false_iff_ne, bne_eq_false_iff_eq, Int.not_lt, Int.not_le, Nat.not_lt, Nat.not_le, Int.ofNat_lt, Int.ofNat_le, Bool.not_eq_eq_eq_not, Bool.not_true, Bool.not_false] at hc2
        have hil : i < nx.length := by omega
        have hsg := stopP_gt l w i
        have hsl := stopP_le (l := l) (w := w) (show i < ptN l by omega)
        refine SCode.skip ?_
        show SCode _ _ _ _
        refine SCode.seq ?_
        refine SCode.block ?_
        refine SCode.seqR ?_
        refine SOps.loadPin rfl flatB_41 ?_
        refine SOps.loadRef 0 0 0 rfl flatB_3 rfl rfl rfl rfl ?_
        refine SOps.loadRef 0 0 0 rfl flatB_3 rfl rfl rfl rfl ?_
        refine SOps.indexS (i) rfl rfl sliceB_41_3_1 (by first | omega | (simp only [lenB] <;> omega)) (by first | omega | (simp only [lenB] <;> omega)) ?_
        refine SOps.storeK 1 (i) rfl rfl oneB_3 rfl (by first | omega | (simp only [lenB] <;> omega)) (by first | omega | (simp; done) | (simp; omega)) rfl (fun _ => rfl) ?_
        refine SOps.nil ?_
        refine SCode.seqR ?_
        refine SOps.move rfl ?_
        refine SOps.freezeRef (t := 8) 0 0 rfl rfl rfl rfl rfl ?_
        refine SOps.loadPin rfl flatB_3 ?_
        refine SOps.makeFunc rfl ?_
        have hfe : ∀ n, i < n → n < stopP l w i → GCall Tryd.prog E 50 ([.v (.int .i64 ((n : Nat) : Int))] ++ [.ipin [.sl b0 1 0 (ptN l)], .ipin [.v (.int .i64 ((i : Nat) : Int))]]) ((fun n => [(b0, .row 3 1 ((nx.set i (((n - 1 : Nat)) : Int)).map encI))]) n) (fun d H => H = (fun n => [(b0, .row 3 1 ((nx.set i (((n - 1 : Nat)) : Int)).map encI))]) (n + 1)) := fun n h1 h2 => by
          have e9 : (nx.set i ((n - 1 : Nat) : Int)).length = ptN l := by rw [List.length_set]; exact hnl
          have h9 := sGreedy1 (E := E) (nx.set i ((n - 1 : Nat) : Int)) b0 i n (by omega)
          rw [e9, List.set_set] at h9
          exact h9
        refine SOps.callH [] [(b0, .row 3 1 ((nx.set i (i : Int)).map encI))] [] (sEnds l w i (stopP l w i) (fun n => [(b0, .row 3 1 ((nx.set i (((n - 1 : Nat)) : Int)).map encI))]) hN (stopP_gt l w i) (stopP_le (by omega)) (fun n h1 h2 => stopP_fit h1 h2) (stopP_stop (by omega)) hfe) rfl rfl (fun d H hR => ?_)
        subst hR
        refine SOps.nil ?_
        refine SCode.seq ?_
        have hi3 : i < (nx.set i ((stopP l w i - 1 : Nat) : Int)).length := by rw [List.length_set]; exact hil
        have hgs : (nx.set i ((stopP l w i - 1 : Nat) : Int))[i] = ((stopP l w i - 1 : Nat) : Int) := List.getElem_set_self _
        rcases Nat.lt_or_ge i (stopP l w i - 1) with hgo | hgo
        · apply SCode.drawAuto mixed_ [38, 39, 40, 41, 42, 43] [[.inr 7], [.inr 8], [.inl 0, .inl 1], [.inl 2], [.inr 8], [.inl 3, .inl 4]]
          · kernel_rfl
          · kernel_rfl
          · apply DOk.cons 38 
            · rfl
            · exact (NeedIs.inr _ rfl NeedIs.nil)
            · intro rest
              refine SOps.loadPin rfl flatB_41 ?_
              exact SOps.nil rfl
            apply DOk.cons 39 
            · rfl
            · exact (NeedIs.inr _ rfl NeedIs.nil)
            · intro rest
              refine SOps.loadPin rfl flatB_3 ?_
              exact SOps.nil rfl
            apply DOk.cons 40 
            · rfl
            · exact (NeedIs.inl 1 _ _ rfl rfl (NeedIs.inl 0 _ _ rfl rfl NeedIs.nil))
            · intro rest
              refine SOps.indexS (i) rfl rfl sliceB_41_3_1 (by first | omega | (simp only [lenB] <;> omega)) (by first | omega | (simp only [lenB] <;> omega)) ?_
              exact SOps.nil rfl
            apply DOk.cons 41 
            · rfl
            · exact (NeedIs.inl 0 _ _ rfl rfl NeedIs.nil)
            · intro rest
              refine SOps.loadK 0 (i) rfl flatB_3 rfl (by first | omega | (simp only [lenB] <;> omega)) (by first | omega | (simp; done) | (simp; omega)) rfl ?_
              exact SOps.nil rfl
            apply DOk.cons 42 
            · rfl
            · exact (NeedIs.inr _ rfl NeedIs.nil)
            · intro rest
              refine SOps.loadPin rfl flatB_3 ?_
              exact SOps.nil rfl
            apply DOk.cons 43 (.v (.bool false))
            · rfl
            · exact (NeedIs.inl 1 _ _ rfl rfl (NeedIs.inl 0 _ _ rfl rfl NeedIs.nil))
            · intro rest
              refine SOps.bin rfl rfl rfl ?_
              exact SOps.nil (congrArg (fun b => St.put _ 43 (.v (.bool b))) (beq_eq_false_iff_ne.2 (by rw [hgs]; omega)))
            exact DOk.nil
          · rfl
          · show SCode _ _ _ _
            refine SCode.cond rfl (fun h => by cases h) (fun _ => ?_)
            refine SCode.skip ?_
            show SCode _ _ _ _
            refine SCode.seq ?_
            refine SCode.seqR ?_
            refine SOps.loadPin rfl flatB_3 ?_
            refine SOps.nil ?_
            refine SCode.region ?_
            refine SOps.alloc (sz := 1) zeroIs_3 (fun b3 hb_3 => ?_)
            refine SOps.storeM 0 rfl rfl oneB_3 rfl ?_
            refine SOps.nil ?_
            show SCode _ _ _ _
            refine SCode.region ?_
            refine SOps.loadPin rfl flatB_41 ?_
            refine SOps.loadRef 0 0 0 rfl flatB_3 rfl rfl rfl rfl ?_
            refine SOps.indexS (i) rfl rfl sliceB_41_3_1 (by first | omega | (simp only [lenB] <;> omega)) (by first | omega | (simp only [lenB] <;> omega)) ?_
            refine SOps.loadK 1 (i) rfl flatB_3 rfl (by first | omega | (simp only [lenB] <;> omega)) (by first | omega | (simp; done) | (simp; omega)) rfl ?_
            refine SOps.reSlot (t := 29) rfl (show _ = DV.v (.int .i64 ((stopP l w i - 1 : Nat) : Int)) from congrArg (fun z => DV.v (.int .i64 z)) (List.getElem_set_self _)) ?_
            refine SOps.storeM 0 rfl rfl oneB_3 rfl ?_
            refine SOps.nil ?_
            exact ⟨stopP l w i - 1, b3, (nx.set i ((stopP l w i - 1 : Nat) : Int)), ks ++ [stopP l w i - 1], f - 1, ⟨by rw [List.length_set]; exact hnl, by omega, (hpt.set (Nat.le_refl _)).snoc hgo (by rw [getD_lt hi3]; exact hgs), by omega, by rw [hgr, greedyF_go (by omega) (by omega) (by omega), Option.map_map]; congr 1; funext q; simp⟩, by omega, St.Le.of ⟨rfl, rfl, rfl, trivial⟩⟩
        · apply SCode.drawAuto mixed_ [38, 39, 40, 41, 42, 43] [[.inr 7], [.inr 8], [.inl 0, .inl 1], [.inl 2], [.inr 8], [.inl 3, .inl 4]]
          · kernel_rfl
          · kernel_rfl
          · apply DOk.cons 38 
            · rfl
            · exact (NeedIs.inr _ rfl NeedIs.nil)
            · intro rest
              refine SOps.loadPin rfl flatB_41 ?_
              exact SOps.nil rfl
            apply DOk.cons 39 
            · rfl
            · exact (NeedIs.inr _ rfl NeedIs.nil)
            · intro rest
              refine SOps.loadPin rfl flatB_3 ?_
              exact SOps.nil rfl
            apply DOk.cons 40 
            · rfl
            · exact (NeedIs.inl 1 _ _ rfl rfl (NeedIs.inl 0 _ _ rfl rfl NeedIs.nil))
            · intro rest
              refine SOps.indexS (i) rfl rfl sliceB_41_3_1 (by first | omega | (simp only [lenB] <;> omega)) (by first | omega | (simp only [lenB] <;> omega)) ?_
              exact SOps.nil rfl
            apply DOk.cons 41 
            · rfl
            · exact (NeedIs.inl 0 _ _ rfl rfl NeedIs.nil)
            · intro rest
              refine SOps.loadK 0 (i) rfl flatB_3 rfl (by first | omega | (simp only [lenB] <;> omega)) (by first | omega | (simp; done) | (simp; omega)) rfl ?_
              exact SOps.nil rfl
            apply DOk.cons 42 
            · rfl
            · exact (NeedIs.inr _ rfl NeedIs.nil)
            · intro rest
              refine SOps.loadPin rfl flatB_3 ?_
              exact SOps.nil rfl
            apply DOk.cons 43 (.v (.bool true))
            · rfl
            · exact (NeedIs.inl 1 _ _ rfl rfl (NeedIs.inl 0 _ _ rfl rfl NeedIs.nil))
            · intro rest
              refine SOps.bin rfl rfl rfl ?_
              exact SOps.nil (congrArg (fun b => St.put _ 43 (.v (.bool b))) (beq_iff_eq.2 (by rw [hgs]; omega)))
            exact DOk.nil
          · rfl
          · show SCode _ _ _ _
            refine SCode.cond rfl (fun _ => ?_) (fun h => by cases h)
            refine SCode.seqR ?_
            refine SOps.assign rfl ?_
            refine SOps.assign rfl ?_
            refine SOps.nil ?_
            refine SCode.drop ?_
            refine SCode.ret ?_
            exact ⟨_, Res.two (.tmp rfl) (.tmp rfl), by rw [if_pos hvl, hgr, greedyF_none (by omega) (by omega) (by omega)]; rfl⟩
      · try simp only [decide_eq_true_eq, decide_eq_false_iff_not, Bool.not_eq_true', Bool.not_eq_false', beq_iff_eq, bne_iff_ne, ne_eq, beq_eq_false_iff_ne, bne_eq_false_iff_eq, Int.not_lt, Int.not_le, Nat.not_lt, Nat.not_le, Int.ofNat_lt, Int.ofNat_le, Bool.not_eq_eq_eq_not, Bool.not_true, Bool.not_false] at hc2
        have hpk : Pth nx 0 ks (ptN l - 1) := (show i = ptN l - 1 by omega) ▸ hpt
        have hgf : greedyF l w (ptN l) 0 = some ks := by rw [hgr, greedyF_end (by omega)]; simp
        refine SCode.exit ?_
        show SCode _ _ _ _
        refine SCode.seqR ?_
        refine SOps.move rfl ?_
        refine SOps.loadPin rfl flatB_41 ?_
        refine SOps.freezeS (t := 46) 1 rfl rfl rfl (by rw [List.length_map]; omega) ?_
        refine SOps.callP (sLinesM l w nx ks hbv hnl hpk) rfl ?_
        rintro _ rfl
        refine SOps.assign rfl ?_
        refine SOps.assign rfl ?_
        refine SOps.nil ?_
        refine SCode.drop ?_
        refine SCode.ret ?_
        exact ⟨_, Res.two (.tmp rfl) (.tmp rfl), by rw [if_pos hvl, hgf]⟩
end Go.GH
namespace Go.GH
open Go Go.Lib
theorem rep_set {α : Type} {z v : α} {i : Nat} {t : List α} : (List.replicate (i + 1) z ++ t).set i v = List.replicate i z ++ (v :: t) := by
  rw [List.replicate_succ', List.append_assoc, List.set_append, if_neg (by simp)]
  simp
theorem rep_set0 {z : Int} {i : Nat} {t : List Int} : (List.replicate (i + 1) z ++ t).set i z = List.replicate (i + 1) z ++ t := by
  rw [rep_set, List.replicate_succ', List.append_assoc]; rfl
theorem rep_more {z a : Int} {i d : Nat} {t : List Int} : ((List.replicate (i + 1) z ++ t).set i a).getD (i + 1 + d) 0 = t.getD d 0 := by
  rw [List.getD_eq_getElem?_getD, List.getElem?_set_ne (by omega), List.getElem?_append_right (by simp)]
  simp [List.getD_eq_getElem?_getD]
theorem brk_step {bs t : List Int} {i n d : Nat} {a : Int} (hbs : bs = List.replicate (i + 1) 0 ++ t) (hn : n = i + 1 + d) (h1 : i < (bs.set i a).length) (h2 : n < (bs.set i a).length) :
    (bs.set i a).set i (if (1099511627776 : Int) < (bs.set i a)[i] + (bs.set i a)[n] then 1099511627776 else (bs.set i a)[i] + (bs.set i a)[n]) = bs.set i (minC (a + t.getD d 0)) := by
  subst hn
  have e1 : (bs.set i a)[i] = a := List.getElem_set_self _
  have e2 : (bs.set i a)[i + 1 + d] = t.getD d 0 := by rw [← getD_lt (d := 0) h2, hbs, rep_more]
  rw [e1, e2, List.set_set]; rfl
theorem line_step {l : List Bx} {w pen : Int} {bs nx : List Int} {t : List (Int × Int)} {i n d : Nat} {x : Int × Int} (hbs : bs = List.replicate (i + 1) 0 ++ t.map (·.1)) (hnx : nx = List.replicate (i + 1) 0 ++ t.map (·.2)) (hn : n = i + 1 + d) :
    lineStep l w pen i (bs.set i x.1, nx.set i x.2) n = (bs.set i (stepB l w pen i t x d).1, nx.set i (stepB l w pen i t x d).2) := by
  subst hn
  have hi : i < bs.length := by rw [hbs]; simp; omega
  have e1 : (bs.set i x.1).getD i 0 = x.1 := by rw [getD_lt (by rw [List.length_set]; exact hi)]; exact List.getElem_set_self _
  have e2 : (bs.set i x.1).getD (i + 1 + d) 0 = (t.getD d (0, 0)).1 := by
    rw [hbs, rep_more, List.getD_eq_getElem?_getD, List.getD_eq_getElem?_getD, List.getElem?_map]
    cases t[d]? <;> rfl
  unfold lineStep stepB
  dsimp only
  rw [e1, e2]
  split
  · rfl
  · split
    · rw [List.set_set, List.set_set]
    · rfl
/-- Of the search: where the cheapest from the first point is known, there is a way to the last one. -/
theorem best_path {l : List Bx} {w pen : Int} (hb : boxesB l = true) (hw : 0 ≤ w ∧ w ≤ 200) (hp : 0 ≤ pen ∧ pen ≤ 1000000) (h : ¬ ((bstL l w pen (ptN l - 1)).getD 0 (0, 0)).1 < 0) :
    Pth ((bstL l w pen (ptN l - 1)).map (·.2)) 0 (pathF (ptN l - 1) ((bstL l w pen (ptN l - 1)).map (·.2)) (ptN l) 0) (ptN l - 1) := by
  have hpos := ptN_pos l
  refine pathF_pth (G := fun i => 0 ≤ ((bstL l w pen (ptN l - 1)).getD i (0, 0)).1) (fun i hi hg => ?_) (ptN l) 0 (Nat.zero_le _) (by omega) (by omega)
  obtain ⟨e, h1, h2, h3, h4⟩ := (bstL_ok (pen := pen) hb hw hp (ptN l - 1) (Nat.le_refl _)).2 i hi hg
  refine ⟨e, h1, h2, ?_, h4⟩
  rw [Nat.sub_self, Nat.zero_add] at h3
  rw [← h3, List.getD_eq_getElem?_getD, List.getD_eq_getElem?_getD, List.getElem?_map]
  cases (bstL l w pen (ptN l - 1))[i]? <;> rfl
end Go.GH
namespace Go.GH
open Go Go.Proofs
variable {E : Env}
theorem sGreedy (hV : VS E) (l : List Bx) (w : Int) (hbx : ∀ x ∈ l, x.word.size ≤ 1048576) : GCall Tryd.prog E 21 [DBxs l, .v (.int .i64 w)] [] (fun d H => d = .tup [DLns (greedyR l w).1, .v (.int .i64 (greedyR l w).2)] ∧ H = []) :=
  (sGreedy0 hV l w hbx).clean (fun d H e => by
    subst e
    unfold greedyR
    split
    · cases greedyF l w (ptN l) 0 with
      | none => exact ⟨_, fun _ _ _ h => rep_tup0 (fun _ _ _ h => nil_isl h) h, rfl⟩
      | some ks => exact ⟨_, fun _ _ _ h => h, rfl⟩
    · exact ⟨_, fun _ _ _ h => rep_tup0 (fun _ _ _ h => nil_isl h) h, rfl⟩)
theorem sBreaks (hV : VS E) (l : List Bx) (w : Int) (hbx : ∀ x ∈ l, x.word.size ≤ 1048576) : GCall Tryd.prog E 22 [DBxs l, .v (.int .i64 w)] [] (fun d H => d = tupC (breaksR l w) ∧ H = []) := by
  refine GCall.body (C := ⟨Tryd.prog, E, true⟩) Tryd.func22 rfl (fun _ => rfl) (by kernel_rfl) rfl ?_
  refine SCode.seqR ?_
  refine SOps.assign rfl ?_
  refine SOps.assign rfl ?_
  refine SOps.nil ?_
  refine SCode.seq ?_
  refine SCode.seqR ?_
  refine SOps.move rfl ?_
  refine SOps.move rfl ?_
  refine SOps.callP (sValid hV _ _ (by assumption)) rfl ?_
  rintro _ rfl
  refine SOps.un rfl rfl ?_
  refine SOps.nil ?_
  refine SCode.cond rfl (fun hc1 => ?_) (fun hc1 => ?_)
  · try simp only [decide_eq_true_eq, decide_eq_false_iff_not, Bool.not_eq_true', Bool.not_eq_false', beq_iff_eq, bne_iff_ne, ne_eq, beq_eq_false_iff_ne, bne_eq_false_iff_eq, Int.not_lt, Int.not_le, Nat.not_lt, Nat.not_le, Int.ofNat_lt, Int.ofNat_le, Bool.not_eq_eq_eq_not, Bool.not_true, Bool.not_false] at hc1
    refine SCode.seqR ?_
    refine SOps.assign rfl ?_
    refine SOps.assign rfl ?_
    refine SOps.nil ?_
    refine SCode.ret ?_
    exact ⟨_, Res.two (.tmp rfl) (.tmp rfl), by rw [breaksR, if_neg (by simp_all)] <;> rfl, rfl⟩
  · try simp only [decide_eq_true_eq, decide_eq_false_iff_not, Bool.not_eq_true', Bool.not_eq_false', beq_iff_eq, bne_iff_ne, ne_eq, beq_eq_false_iff_ne, bne_eq_false_iff_eq, Int.not_lt, Int.not_le, Nat.not_lt, Nat.not_le, Int.ofNat_lt, Int.ofNat_le, Bool.not_eq_eq_eq_not, Bool.not_true, Bool.not_false] at hc1
    have hvl : validL l w = true := by assumption
    obtain ⟨hwv, hbv⟩ : wideB w = true ∧ boxesB l = true := by unfold validL at hvl; exact Bool.and_eq_true_iff.1 hvl
    have hbn := bnds_of hbv
    have hN := near_of hbv
    have hN1 := hN.1
    have hN2 := hN.2.1
    obtain ⟨hw1, hw2⟩ := wideB_iff.1 hwv
    have hp3 : (pts3 l).length = ptN l := rfl
    refine SCode.skip ?_
    show SCode _ _ _ _
    refine SCode.seqR ?_
    refine SOps.move rfl ?_
    refine SOps.move rfl ?_
    refine SOps.callP (sOpen l w (fun b h => by have := hbn.word b h; omega) (fun b h => by have := hbn.pts b h; omega) (fun b h q hq => by have := hbn.pos b h q hq; omega) (by have := hbn.len; omega)) rfl ?_
    rintro _ rfl
    refine SOps.assign rfl ?_
    refine SOps.nil ?_
    refine SCode.seqR ?_
    refine SOps.move rfl ?_
    refine SOps.nilCheck rfl rfl ?_
    refine SOps.fieldPin rfl fieldB_62_1_1 ?_
    refine SOps.loadPin rfl flatB_60 ?_
    refine SOps.lenM rfl sliceB_60_67_3 ?_
    refine SOps.makeK (f := encI) ((ptN l)) (0) sliceB_41_3_1 elemB_3_1_8 zeroIs_3 rfl rfl (by first | omega | (simp only [lenB] <;> omega)) (by first | omega | (simp only [lenB] <;> omega)) rfl (by first | omega | (simp only [lenB] <;> omega)) (by simp only [lenB]; omega) (fun b0 hb_0 => ?_)
    refine SOps.alloc (sz := 1) zeroIs_41 (fun b1 hb_1 => ?_)
    refine SOps.storeM 0 rfl rfl oneB_41 rfl ?_
    refine SOps.freezeRef (t := 7) 0 0 rfl rfl rfl rfl rfl ?_
    refine SOps.nil ?_
    refine SCode.seq ?_
    apply SCode.drawG 6 [some 22, some 23, some 24, some 25, none] [[.inr 7], [.inr 6], [.inl 1], [.inl 0, .inl 2], [.inl 3]] [[4]] [none, none, none, none, some (0, 0)] [[], [], [], [], []] ([]) [⟨[4], fun ids c => match c with | 0 => [(b0, .row 3 1 ((List.replicate (ptN l) (0 : Int)).map encI))] | _ => [(b0, .row 3 1 (((List.replicate (ptN l) (0 : Int)).set (ptN l - 1) 1).map encI))]⟩] mixed_
    · kernel_rfl
    · rfl
    · exact fun _ => .refl _
    · apply GOk.rd 22
      · rfl
      · exact fun b => (NeedG.inr _ rfl NeedG.nil)
      · intro b rest ext
        refine SOps.loadPin rfl flatB_41 ?_
        exact SOps.nil rfl
      apply GOk.rd 23
      · rfl
      · exact fun b => (NeedG.inr _ rfl NeedG.nil)
      · intro b rest ext
        refine SOps.move rfl ?_
        exact SOps.nil rfl
      apply GOk.rd 24
      · rfl
      · exact fun b => (NeedG.inl 0 _ _ rfl rfl rfl NeedG.nil)
      · intro b rest ext
        refine SOps.callP (sLast l w hN) rfl ?_
        rintro _ rfl
        exact SOps.nil rfl
      apply GOk.rd 25
      · rfl
      · exact fun b => (NeedG.inl 2 _ _ rfl rfl rfl (NeedG.inl 0 _ _ rfl rfl rfl NeedG.nil))
      · intro b rest ext
        refine SOps.indexS ((ptN l - 1)) rfl rfl sliceB_41_3_1 (by first | omega | (simp only [lenB] <;> omega)) (by first | omega | (simp only [lenB] <;> omega)) ?_
        exact SOps.nil rfl
      apply GOk.act [] (fun _ => none)
      · rfl
      · rfl
      · rfl
      · exact fun b => (NeedG.inl 0 _ _ rfl rfl rfl NeedG.nil)
      · intro b rest ext
        refine SOps.storeK 0 ((ptN l - 1)) rfl rfl oneB_3 rfl (by first | omega | (simp only [lenB] <;> omega)) (by first | omega | (simp; done) | (simp; omega)) rfl (fun _ => rfl) ?_
        exact SOps.nil ⟨b, fun _ _ => rfl, ⟨rfl, fun t d h => .inl h, _, .refl _, .refl _⟩⟩
      exact GOk.nil
    · exact fun _ => rfl
    · intro ids
      show SCode _ _ _ _
      refine SCode.seq ?_
      refine SCode.seqR ?_
      refine SOps.move rfl ?_
      refine SOps.callP (sLast l w hN) rfl ?_
      rintro _ rfl
      refine SOps.subI rfl rfl (by first | omega | (simp only [lenB] <;> omega)) (by first | omega | (simp only [lenB] <;> omega)) ?_
      refine SOps.alloc (sz := 1) zeroIs_3 (fun b2 hb_2 => ?_)
      refine SOps.storeM 0 rfl rfl oneB_3 rfl ?_
      refine SOps.nil ?_
      refine SCode.block ?_
      refine SCode.loop3 (fun (j : Nat) (bI : Nat) (bs : List Int) => (⟨41, [(6, .ipin (encPar l w)), (7, .ipin [.sl b0 1 0 (ptN l)]), (8, .ref bI 0)], [(bI, .row 3 1 [[.v (.int .i64 (((ptN l - 1 : Nat) : Int) - 1 - (j : Int)))]]), (b0, .row 3 1 (bs.map encI))]⟩ : St)) (fun (j : Nat) (bI : Nat) (bs : List Int) => bs.length = ptN l ∧ (∀ x ∈ bs, 0 ≤ x ∧ x ≤ 1099511627776) ∧ j ≤ ptN l - 1 ∧ bs = List.replicate (ptN l - 1 - j) 0 ++ brkL l w j) (fun (j : Nat) (bI : Nat) (bs : List Int) => ptN l - j) (0) (b2) (((List.replicate (ptN l) 0).set (ptN l - 1) 1)) (by exact ⟨by simp, fun x hx => (List.mem_or_eq_of_mem_set hx).elim (fun h => by rw [List.eq_of_mem_replicate h]; omega) (fun h => by rw [h]; omega), Nat.zero_le _, by rw [show ptN l = (ptN l - 1) + 1 by omega, Nat.add_sub_cancel]; have h9 := rep_set (z := (0 : Int)) (v := 1) (i := ptN l - 1) (t := []); rw [List.append_nil] at h9; exact h9⟩) (St.Le.of ⟨(by first | rfl | (show some _ = some _; simp)), (by first | rfl | (show some _ = some _; simp)), (by first | rfl | (show some _ = some _; simp)), trivial⟩ rfl (by first | rfl | (show _ = _; rw [show (((ptN l - 1 : Nat) : Int) - 1 - ((0 : Nat) : Int)) = ((ptN l - 1 : Nat) : Int) - 1 by omega] <;> rfl))) ?_
      rintro j bI bs ⟨hnl, hbd, hjle, hbs⟩
      refine SCode.seq ?_
      refine SCode.seqR ?_
      refine SOps.loadRef 0 0 0 rfl flatB_3 rfl rfl rfl rfl ?_
      refine SOps.bin rfl rfl rfl ?_
      refine SOps.nil ?_
      refine SCode.cond rfl (fun hc2 => ?_) (fun hc2 => ?_)
      · try simp only [decide_eq_true_eq, decide_eq_false_iff_not, Bool.not_eq_true', Bool.not_eq_false', beq_iff_eq, bne_iff_ne, ne_eq, beq_eq_false_iff_ne, bne_eq_false_iff_eq, Int.not_lt, Int.not_le, Nat.not_lt, Nat.not_le, Int.ofNat_lt, Int.ofNat_le, Bool.not_eq_eq_eq_not, Bool.not_true, Bool.not_false] at hc2
        obtain ⟨i, hi9⟩ : ∃ i : Nat, i = ptN l - 2 - j := ⟨_, rfl⟩
        have hi8 : (((ptN l - 1 : Nat) : Int) - 1 - (j : Int)) = (i : Int) := by omega
        have hsg := stopP_gt l w i
        have hsl := stopP_le (l := l) (w := w) (show i < ptN l by omega)
        rw [show ptN l - 1 - j = i + 1 by omega] at hbs
        refine SCode.skip ?_
        show SCode _ _ _ _
        refine SCode.seq ?_
        refine SCode.block ?_
        refine SCode.region ?_
        refine SOps.move rfl ?_
        refine SOps.freezeRef (t := 8) 0 0 rfl rfl rfl rfl rfl ?_
        refine SOps.loadPin rfl flatB_3 ?_
        refine SOps.reSlot (t := 34) rfl (show _ = DV.v (.int .i64 (i : Int)) from congrArg (fun z => DV.v (.int .i64 z)) hi8) ?_
        refine SOps.reSlot (t := 8) rfl (show _ = DV.ipin [.v (.int .i64 (i : Int))] from congrArg (fun z => DV.ipin [.v (.int .i64 z)]) hi8) ?_
        refine SOps.makeFunc rfl ?_
        have hfe : ∀ n, i < n → n < stopP l w i → GCall Tryd.prog E 51 ([.v (.int .i64 ((n : Nat) : Int))] ++ [.ipin [.sl b0 1 0 (ptN l)], .ipin [.v (.int .i64 ((i : Nat) : Int))]]) ((fun n => [(b0, .row 3 1 ((bs.set i (brkV (brkL l w j) (n - (i + 1)))).map encI))]) n) (fun d H => H = (fun n => [(b0, .row 3 1 ((bs.set i (brkV (brkL l w j) (n - (i + 1)))).map encI))]) (n + 1)) := fun n h1 h2 => by
          have e9 : ∀ v, (bs.set i v).length = ptN l := fun v => by rw [List.length_set]; exact hnl
          have h9 := sBreaks1 (E := E) (bs.set i (brkV (brkL l w j) (n - (i + 1)))) b0 i n (by rw [e9]; omega) (by rw [e9]; omega) (fun x hx => (List.mem_or_eq_of_mem_set hx).elim (fun h => hbd x h) (fun h => by rw [h]; exact brkV_bound (brkL_bound l w j) _))
          rw [brk_step hbs (show n = i + 1 + (n - (i + 1)) by omega), e9] at h9
          show GCall _ _ _ _ _ (fun d H => H = [(b0, .row 3 1 ((bs.set i (brkV (brkL l w j) (n + 1 - (i + 1)))).map encI))])
          rw [show n + 1 - (i + 1) = (n - (i + 1)) + 1 by omega]
          exact h9
        refine SOps.callH [] ((fun n => [(b0, .row 3 1 ((bs.set i (brkV (brkL l w j) (n - (i + 1)))).map encI))]) (i + 1)) [] (sEnds l w i (stopP l w i) (fun n => [(b0, .row 3 1 ((bs.set i (brkV (brkL l w j) (n - (i + 1)))).map encI))]) hN (stopP_gt l w i) (stopP_le (by omega)) (fun n h1 h2 => stopP_fit h1 h2) (stopP_stop (by omega)) hfe) rfl (Eq.trans (show _ = [] ++ ([(b0, .row 3 1 (bs.map encI))] ++ []) from rfl) (congrArg (fun z => [] ++ (z ++ [])) ((congrArg (fun z => [(b0, DO.row 3 1 (List.map encI z))]) (show bs = bs.set i (brkV (brkL l w j) (i + 1 - (i + 1))) by rw [Nat.sub_self, hbs]; exact rep_set0.symm))))) (fun d H hR => ?_)
        subst hR
        refine SOps.nil ?_
        show SCode _ _ _ _
        refine SCode.seq ?_
        refine SCode.seqR ?_
        refine SOps.loadPin rfl flatB_3 ?_
        refine SOps.nil ?_
        refine SCode.region ?_
        refine SOps.alloc (sz := 1) zeroIs_3 (fun b3 hb_3 => ?_)
        refine SOps.storeM 0 rfl rfl oneB_3 rfl ?_
        refine SOps.nil ?_
        show SCode _ _ _ _
        refine SCode.region ?_
        refine SOps.loadRef 0 0 0 rfl flatB_3 rfl rfl rfl rfl ?_
        refine SOps.subI rfl rfl (by first | omega | (simp only [lenB] <;> omega)) (by first | omega | (simp only [lenB] <;> omega)) ?_
        refine SOps.reSlot (t := 32) rfl (show _ = DV.v (.int .i64 (((ptN l - 1 : Nat) : Int) - 1 - ((j + 1 : Nat) : Int))) from congrArg (fun z => DV.v (.int .i64 z)) (by omega)) ?_
        refine SOps.storeM 0 rfl rfl oneB_3 rfl ?_
        refine SOps.nil ?_
        have hbs2 : (bs.set i (brkV (brkL l w j) (stopP l w i - (i + 1)))) = List.replicate (ptN l - 1 - (j + 1)) 0 ++ brkL l w (j + 1) := by rw [hbs, rep_set, brkL, show ptN l - 2 - j = i by omega, show ptN l - 1 - j = i + 1 by omega, show ptN l - 1 - (j + 1) = i by omega]
        exact ⟨j + 1, b3, (bs.set i (brkV (brkL l w j) (stopP l w i - (i + 1)))), ⟨by rw [List.length_set]; exact hnl, fun x hx => (List.mem_or_eq_of_mem_set hx).elim (fun h => hbd x h) (fun h => by rw [h]; exact brkV_bound (brkL_bound l w j) _), by omega, hbs2⟩, by omega, St.Le.of ⟨rfl, rfl, rfl, trivial⟩⟩
      · try simp only [decide_eq_true_eq, decide_eq_false_iff_not, Bool.not_eq_true', Bool.not_eq_false', beq_iff_eq, bne_iff_ne, ne_eq, beq_eq_false_iff_ne, bne_eq_false_iff_eq, Int.not_lt, Int.not_le, Nat.not_lt, Nat.not_le, Int.ofNat_lt, Int.ofNat_le, Bool.not_eq_eq_eq_not, Bool.not_true, Bool.not_false] at hc2
        have hjl : j = ptN l - 1 := by omega
        have h0l : 0 < bs.length := by omega
        have hb0 : bs[0] = (brkL l w (ptN l - 1)).getD 0 0 := by rw [← getD_lt (d := 0) h0l, hbs, hjl, Nat.sub_self]; rfl
        refine SCode.exit ?_
        show SCode _ _ _ _
        refine SCode.seqR ?_
        refine SOps.loadPin rfl flatB_41 ?_
        refine SOps.indexS (0) rfl rfl sliceB_41_3_1 (by first | omega | (simp only [lenB] <;> omega)) (by first | omega | (simp only [lenB] <;> omega)) ?_
        refine SOps.loadK 1 (0) rfl flatB_3 rfl (by first | omega | (simp only [lenB] <;> omega)) (by first | omega | (simp; done) | (simp; omega)) rfl ?_
        refine SOps.assign rfl ?_
        refine SOps.assign rfl ?_
        refine SOps.nil ?_
        refine SCode.drop ?_
        refine SCode.ret ?_
        exact ⟨_, Res.two (.tmp rfl) (.tmp rfl), by rw [breaksR, if_pos hvl, hb0] <;> rfl, rfl⟩
end Go.GH
namespace Go.GH
open Go Go.Proofs
variable {E : Env}
theorem oneB_57 : oneB Tryd.prog 57 = true := by kernel_rfl
theorem zeroIs_57 : zeroIs Tryd.prog 57 (.pointer none) := by unfold zeroIs; kernel_rfl
theorem sLines0 (hV : VS E) (l : List Bx) (w pen : Int) (hbx : ∀ x ∈ l, x.word.size ≤ 1048576) : GCall Tryd.prog E 14 [DBxs l, .v (.int .i64 w), .v (.int .i64 pen)] [] (fun d H => d = (if validL l w && penB pen then (if ((bstL l w pen (ptN l - 1)).getD 0 (0, 0)).1 < 0 then .tup [.v (.slice none 0 0), .v (.int .i64 0), .v (.int .i64 2)] else .tup [DLns (linesR l w pen).1, .v (.int .i64 (linesR l w pen).2.1), .v (.int .i64 0)]) else .tup [.v (.slice none 0 0), .v (.int .i64 0), .v (.int .i64 1)])) := by
  refine GCall.body (C := ⟨Tryd.prog, E, true⟩) Tryd.func14 rfl (fun _ => rfl) (by kernel_rfl) rfl ?_
  refine SCode.seqR ?_
  refine SOps.boxF rfl rfl rfl ?_
  refine SOps.assign rfl ?_
  refine SOps.assign rfl ?_
  refine SOps.assign rfl ?_
  refine SOps.nil ?_
  refine SCode.seq ?_
  refine SCode.seqR ?_
  refine SOps.move rfl ?_
  refine SOps.move rfl ?_
  refine SOps.callP (sValid hV _ _ (by assumption)) rfl ?_
  rintro _ rfl
  refine SOps.un rfl rfl ?_
  refine SOps.move rfl ?_
  refine SOps.caseB 17 rfl (fun hb1 => ?_) (fun hb1 => ?_)
  · try simp only [decide_eq_true_eq, decide_eq_false_iff_not, Bool.not_eq_true', Bool.not_eq_false', beq_iff_eq, bne_iff_ne, ne_eq, beq_eq_false_iff_ne, bne_eq_false_iff_eq, Int.not_lt, Int.not_le, Nat.not_lt, Nat.not_le, Int.ofNat_lt, Int.ofNat_le, Bool.not_eq_eq_eq_not, Bool.not_true, Bool.not_false] at hb1
    refine SOps.skip rfl ?_
    refine SOps.skip rfl ?_
    refine SOps.pick rfl rfl ?_
    refine SOps.move rfl ?_
    refine SOps.skip rfl ?_
    refine SOps.skip rfl ?_
    refine SOps.pick rfl rfl ?_
    refine SOps.nil ?_
    refine SCode.cond rfl (fun _ => ?_) (fun h => by cases h)
    refine SCode.seqR ?_
    refine SOps.assign rfl ?_
    refine SOps.assign rfl ?_
    refine SOps.assign rfl ?_
    refine SOps.nil ?_
    refine SCode.ret ?_
    exact ⟨_, Res.three (.tmp rfl) (.tmp rfl) (.tmp rfl), by rw [if_neg (by intro h9; have h8 := Bool.and_eq_true_iff.1 h9; have h7 := penB_iff.1 h8.2; first | omega | simp_all)]⟩
  · try simp only [decide_eq_true_eq, decide_eq_false_iff_not, Bool.not_eq_true', Bool.not_eq_false', beq_iff_eq, bne_iff_ne, ne_eq, beq_eq_false_iff_ne, bne_eq_false_iff_eq, Int.not_lt, Int.not_le, Nat.not_lt, Nat.not_le, Int.ofNat_lt, Int.ofNat_le, Bool.not_eq_eq_eq_not, Bool.not_true, Bool.not_false] at hb1
    refine SOps.loadPin rfl flatB_3 ?_
    refine SOps.bin rfl rfl rfl ?_
    refine SOps.pick rfl rfl ?_
    refine SOps.move rfl ?_
    refine SOps.caseB 21 rfl (fun hb2 => ?_) (fun hb2 => ?_)
    · try simp only [decide_eq_true_eq, decide_eq_false_iff_not, Bool.not_eq_true', Bool.not_eq_false', beq_iff_eq, bne_iff_ne, ne_eq, beq_eq_false_iff_ne, bne_eq_false_iff_eq, Int.not_lt, Int.not_le, Nat.not_lt, Nat.not_le, Int.ofNat_lt, Int.ofNat_le, Bool.not_eq_eq_eq_not, Bool.not_true, Bool.not_false] at hb2
      refine SOps.skip rfl ?_
      refine SOps.skip rfl ?_
      refine SOps.pick rfl rfl ?_
      refine SOps.nil ?_
      refine SCode.cond rfl (fun _ => ?_) (fun h => by cases h)
      refine SCode.seqR ?_
      refine SOps.assign rfl ?_
      refine SOps.assign rfl ?_
      refine SOps.assign rfl ?_
      refine SOps.nil ?_
      refine SCode.ret ?_
      exact ⟨_, Res.three (.tmp rfl) (.tmp rfl) (.tmp rfl), by rw [if_neg (by intro h9; have h8 := Bool.and_eq_true_iff.1 h9; have h7 := penB_iff.1 h8.2; first | omega | simp_all)]⟩
    · try simp only [decide_eq_true_eq, decide_eq_false_iff_not, Bool.not_eq_true', Bool.not_eq_false', beq_iff_eq, bne_iff_ne, ne_eq, beq_eq_false_iff_ne, bne_eq_false_iff_eq, Int.not_lt, Int.not_le, Nat.not_lt, Nat.not_le, Int.ofNat_lt, Int.ofNat_le, Bool.not_eq_eq_eq_not, Bool.not_true, Bool.not_false] at hb2
      refine SOps.loadPin rfl flatB_3 ?_
      refine SOps.bin rfl rfl rfl ?_
      refine SOps.pick rfl rfl ?_
      refine SOps.nil ?_
      refine SCode.cond rfl (fun hc3 => ?_) (fun hc3 => ?_)
      · try simp only [decide_eq_true_eq, decide_eq_false_iff_not, Bool.not_eq_true', Bool.not_eq_false', beq_iff_eq, bne_iff_ne, ne_eq, beq_eq_false_iff_ne, bne_eq_false_iff_eq, Int.not_lt, Int.not_le, Nat.not_lt, Nat.not_le, Int.ofNat_lt, Int.ofNat_le, Bool.not_eq_eq_eq_not, Bool.not_true, Bool.not_false] at hc3
        refine SCode.seqR ?_
        refine SOps.assign rfl ?_
        refine SOps.assign rfl ?_
        refine SOps.assign rfl ?_
        refine SOps.nil ?_
        refine SCode.ret ?_
        exact ⟨_, Res.three (.tmp rfl) (.tmp rfl) (.tmp rfl), by rw [if_neg (by intro h9; have h8 := Bool.and_eq_true_iff.1 h9; have h7 := penB_iff.1 h8.2; first | omega | simp_all)]⟩
      · try simp only [decide_eq_true_eq, decide_eq_false_iff_not, Bool.not_eq_true', Bool.not_eq_false', beq_iff_eq, bne_iff_ne, ne_eq, beq_eq_false_iff_ne, bne_eq_false_iff_eq, Int.not_lt, Int.not_le, Nat.not_lt, Nat.not_le, Int.ofNat_lt, Int.ofNat_le, Bool.not_eq_eq_eq_not, Bool.not_true, Bool.not_false] at hc3
        refine SCode.skip ?_
        show SCode _ _ _ _
        refine SCode.seqR ?_
        have hvl : validL l w = true := by simp_all
        obtain ⟨hpe1, hpe2⟩ : 0 ≤ pen ∧ pen ≤ 1000000 := by omega
        have hpen : penB pen = true := penB_iff.2 ⟨hpe1, hpe2⟩
        have hok : (validL l w && penB pen) = true := by rw [hvl, hpen]; rfl
        obtain ⟨hwv, hbv⟩ : wideB w = true ∧ boxesB l = true := by unfold validL at hvl; exact Bool.and_eq_true_iff.1 hvl
        have hbn := bnds_of hbv
        have hN := near_of hbv
        have hN1 := hN.1
        have hN2 := hN.2.1
        obtain ⟨hw1, hw2⟩ := wideB_iff.1 hwv
        have hp3 : (pts3 l).length = ptN l := rfl
        refine SOps.move rfl ?_
        refine SOps.move rfl ?_
        refine SOps.callP (sOpen l w (fun b h => by have := hbn.word b h; omega) (fun b h => by have := hbn.pts b h; omega) (fun b h q hq => by have := hbn.pos b h q hq; omega) (by have := hbn.len; omega)) rfl ?_
        rintro _ rfl
        refine SOps.alloc (sz := 1) zeroIs_57 (fun b0 hb_0 => ?_)
        refine SOps.storeM 0 rfl rfl oneB_57 rfl ?_
        refine SOps.freezeRef (t := 9) 0 0 rfl rfl rfl rfl rfl ?_
        refine SOps.nil ?_
        refine SCode.seqR ?_
        refine SOps.loadPin rfl flatB_57 ?_
        refine SOps.nilCheck rfl rfl ?_
        refine SOps.fieldPin rfl fieldB_62_1_1 ?_
        refine SOps.loadPin rfl flatB_60 ?_
        refine SOps.lenM rfl sliceB_60_67_3 ?_
        refine SOps.makeK (f := encI) ((ptN l)) (0) sliceB_41_3_1 elemB_3_1_8 zeroIs_3 rfl rfl (by first | omega | (simp only [lenB] <;> omega)) (by first | omega | (simp only [lenB] <;> omega)) rfl (by first | omega | (simp only [lenB] <;> omega)) (by simp only [lenB]; omega) (fun b1 hb_1 => ?_)
        refine SOps.alloc (sz := 1) zeroIs_41 (fun b2 hb_2 => ?_)
        refine SOps.storeM 0 rfl rfl oneB_41 rfl ?_
        refine SOps.freezeRef (t := 10) 0 0 rfl rfl rfl rfl rfl ?_
        refine SOps.nil ?_
        refine SCode.seqR ?_
        refine SOps.loadPin rfl flatB_57 ?_
        refine SOps.nilCheck rfl rfl ?_
        refine SOps.fieldPin rfl fieldB_62_1_1 ?_
        refine SOps.loadPin rfl flatB_60 ?_
        refine SOps.lenM rfl sliceB_60_67_3 ?_
        refine SOps.makeK (f := encI) ((ptN l)) (0) sliceB_41_3_1 elemB_3_1_8 zeroIs_3 rfl rfl (by first | omega | (simp only [lenB] <;> omega)) (by first | omega | (simp only [lenB] <;> omega)) rfl (by first | omega | (simp only [lenB] <;> omega)) (by simp only [lenB]; omega) (fun b3 hb_3 => ?_)
        refine SOps.alloc (sz := 1) zeroIs_41 (fun b4 hb_4 => ?_)
        refine SOps.storeM 0 rfl rfl oneB_41 rfl ?_
        refine SOps.freezeRef (t := 11) 0 0 rfl rfl rfl rfl rfl ?_
        refine SOps.nil ?_
        refine SCode.seq ?_
        refine SCode.seqR ?_
        refine SOps.swap01 ?_
        refine SOps.loadPin rfl flatB_57 ?_
        refine SOps.callP (sLast l w hN) rfl ?_
        rintro _ rfl
        refine SOps.subI rfl rfl (by first | omega | (simp only [lenB] <;> omega)) (by first | omega | (simp only [lenB] <;> omega)) ?_
        refine SOps.reSlot (t := 42) rfl (show _ = DV.v (.int .i64 (((ptN l - 1 : Nat) : Int) - 1 - ((0 : Nat) : Int))) from congrArg (fun z => DV.v (.int .i64 z)) (by omega)) ?_
        refine SOps.alloc (sz := 1) zeroIs_3 (fun b5 hb_5 => ?_)
        refine SOps.storeM 0 rfl rfl oneB_3 rfl ?_
        refine SOps.nil ?_
        refine SCode.block ?_
        refine SCode.loop4 (fun (j : Nat) (bI : Nat) (bs : List Int) (nx : List Int) => (⟨65, [(5, .ipin [.v (.int .i64 pen)]), (9, .ipin [.ipin (encPar l w)]), (10, .ipin [.sl b1 1 0 (ptN l)]), (11, .ipin [.sl b3 1 0 (ptN l)]), (12, .ref bI 0)], [(bI, .row 3 1 [[.v (.int .i64 (((ptN l - 1 : Nat) : Int) - 1 - (j : Int)))]]), (b1, DO.row 3 1 (bs.map encI)), (b3, DO.row 3 1 (nx.map encI))]⟩ : St)) (fun (j : Nat) (bI : Nat) (bs : List Int) (nx : List Int) => bs.length = ptN l ∧ nx.length = ptN l ∧ j ≤ ptN l - 1 ∧ bs = List.replicate (ptN l - 1 - j) 0 ++ (bstL l w pen j).map (·.1) ∧ nx = List.replicate (ptN l - 1 - j) 0 ++ (bstL l w pen j).map (·.2)) (fun (j : Nat) (bI : Nat) (bs : List Int) (nx : List Int) => ptN l - j) (0) (b5) ((List.replicate (ptN l) 0)) ((List.replicate (ptN l) 0)) (by have h9 : List.replicate (ptN l) (0 : Int) = List.replicate (ptN l - 1 - 0) 0 ++ [0] := (by rw [← List.replicate_succ', show ptN l - 1 - 0 + 1 = ptN l by omega]); exact ⟨List.length_replicate, List.length_replicate, Nat.zero_le _, h9, h9⟩) (St.Le.of ⟨(by first | rfl | (show some _ = some _; simp)), (by first | rfl | (show some _ = some _; simp)), (by first | rfl | (show some _ = some _; simp)), (by first | rfl | (show some _ = some _; simp)), (by first | rfl | (show some _ = some _; simp)), trivial⟩ rfl (by first | rfl | (simp))) ?_
        rintro j bI bs nx ⟨hnl, hxl, hjle, hbs, hnx⟩
        refine SCode.seq ?_
        refine SCode.seqR ?_
        refine SOps.loadRef 0 0 0 rfl flatB_3 rfl rfl rfl rfl ?_
        refine SOps.bin rfl rfl rfl ?_
        refine SOps.nil ?_
        refine SCode.cond rfl (fun hc4 => ?_) (fun hc4 => ?_)
        · try simp only [decide_eq_true_eq, decide_eq_false_iff_not, Bool.not_eq_true', Bool.not_eq_false', beq_iff_eq, bne_iff_ne, ne_eq, beq_eq_false_iff_ne, bne_eq_false_iff_eq, Int.not_lt, Int.not_le, Nat.not_lt, Nat.not_le, Int.ofNat_lt, Int.ofNat_le, Bool.not_eq_eq_eq_not, Bool.not_true, Bool.not_false] at hc4
          obtain ⟨i, hi9⟩ : ∃ i : Nat, i = ptN l - 2 - j := ⟨_, rfl⟩
          have hi8 : (((ptN l - 1 : Nat) : Int) - 1 - (j : Int)) = (i : Int) := by omega
          have hsg := stopP_gt l w i
          have hsl := stopP_le (l := l) (w := w) (show i < ptN l by omega)
          rw [show ptN l - 1 - j = i + 1 by omega] at hbs
          rw [show ptN l - 1 - j = i + 1 by omega] at hnx
          have hbok := bstL_ok (pen := pen) hbv ⟨(by omega : 0 ≤ w), hw2⟩ ⟨hpe1, hpe2⟩ j hjle
          have hbl := bstL_len l w pen j
          have hil : i < bs.length := by omega
          have hN3 := ptN_le hbv
          have hbb : ∀ z ∈ bs, z ≤ 1000000000000000000 := fun z hz => by rw [hbs] at hz; exact (List.mem_append.1 hz).elim (fun h => by have := List.eq_of_mem_replicate h; omega) (fun h => by obtain ⟨y, hy, rfl⟩ := List.mem_map.1 h; have := hbok.1 y hy; show y.1 ≤ _; omega)
          refine SCode.skip ?_
          show SCode _ _ _ _
          refine SCode.seq ?_
          refine SCode.block ?_
          refine SCode.seqR ?_
          refine SOps.loadPin rfl flatB_41 ?_
          refine SOps.loadRef 0 0 0 rfl flatB_3 rfl rfl rfl rfl ?_
          refine SOps.indexS (i) rfl rfl sliceB_41_3_1 (by first | omega | (simp only [lenB] <;> omega)) (by first | omega | (simp only [lenB] <;> omega)) ?_
          refine SOps.storeK 1 (i) rfl rfl oneB_3 rfl (by first | omega | (simp only [lenB] <;> omega)) (by first | omega | (simp; done) | (simp; omega)) rfl (fun _ => rfl) ?_
          refine SOps.nil ?_
          refine SCode.region ?_
          refine SOps.loadPin rfl flatB_57 ?_
          refine SOps.freezeRef (t := 12) 0 0 rfl rfl rfl rfl rfl ?_
          refine SOps.loadPin rfl flatB_3 ?_
          refine SOps.reSlot (t := 51) rfl (show _ = DV.v (.int .i64 (i : Int)) from congrArg (fun z => DV.v (.int .i64 z)) hi8) ?_
          refine SOps.reSlot (t := 12) rfl (show _ = DV.ipin [.v (.int .i64 (i : Int))] from congrArg (fun z => DV.ipin [.v (.int .i64 z)]) hi8) ?_
          refine SOps.makeFunc rfl ?_
          have hfe : ∀ n, i < n → n < stopP l w i → GCall Tryd.prog E 41 ([.v (.int .i64 ((n : Nat) : Int))] ++ [.ipin [.sl b1 1 0 (ptN l)], .ipin [.ipin (encPar l w)], .ipin [.v (.int .i64 ((i : Nat) : Int))], .ipin [.v (.int .i64 pen)], .ipin [.sl b3 1 0 (ptN l)]]) ((fun n => [(b1, DO.row 3 1 ((bs.set i (bstV l w pen i (bstL l w pen j) (n - (i + 1))).1).map encI)), (b3, DO.row 3 1 ((nx.set i (bstV l w pen i (bstL l w pen j) (n - (i + 1))).2).map encI))]) n) (fun d H => H = (fun n => [(b1, DO.row 3 1 ((bs.set i (bstV l w pen i (bstL l w pen j) (n - (i + 1))).1).map encI)), (b3, DO.row 3 1 ((nx.set i (bstV l w pen i (bstL l w pen j) (n - (i + 1))).2).map encI))]) (n + 1)) := fun n h1 h2 => by
            obtain ⟨x, hx⟩ : ∃ x, (bstV l w pen i (bstL l w pen j) (n - (i + 1))) = x := ⟨_, rfl⟩
            have e8 : ∀ v, (bs.set i v).length = ptN l := fun v => by rw [List.length_set]; exact hnl
            have e9 : ∀ v, (nx.set i v).length = ptN l := fun v => by rw [List.length_set]; exact hxl
            have hlb := lenP_bound hbv (show i < ptN l by omega) (show n < ptN l by omega)
            have hnb : (bs.set i x.1)[n]'(by rw [e8]; omega) ≤ 1000000000000000000 := by
              rw [List.getElem_set_ne (by omega)]
              exact hbb _ (List.getElem_mem _)
            have h9 := sLines1 (E := E) l w pen (bs.set i x.1) (nx.set i x.2) b1 b3 i n hN h1 (by omega) (e8 _) (e9 _) (by omega) (by omega) hpe1 hpe2 (by omega) (stopP_fit h1 h2) hnb
            rw [line_step hbs hnx (show n = i + 1 + (n - (i + 1)) by omega), e8, e9] at h9
            show GCall _ _ _ _ ((fun n => [(b1, DO.row 3 1 ((bs.set i (bstV l w pen i (bstL l w pen j) (n - (i + 1))).1).map encI)), (b3, DO.row 3 1 ((nx.set i (bstV l w pen i (bstL l w pen j) (n - (i + 1))).2).map encI))]) n) (fun d H => H = (fun n => [(b1, DO.row 3 1 ((bs.set i (bstV l w pen i (bstL l w pen j) (n - (i + 1))).1).map encI)), (b3, DO.row 3 1 ((nx.set i (bstV l w pen i (bstL l w pen j) (n - (i + 1))).2).map encI))]) (n + 1))
            have e7 : (bstV l w pen i (bstL l w pen j) ((n + 1) - (i + 1))) = stepB l w pen i (bstL l w pen j) x (n - (i + 1)) := by rw [show n + 1 - (i + 1) = (n - (i + 1)) + 1 by omega, bstV, hx]
            simp only [hx, e7]
            exact h9
          have hS0 : [(b1, DO.row 3 1 ((bs.set i (-1)).map encI)), (b3, DO.row 3 1 (nx.map encI))] = (fun n => [(b1, DO.row 3 1 ((bs.set i (bstV l w pen i (bstL l w pen j) (n - (i + 1))).1).map encI)), (b3, DO.row 3 1 ((nx.set i (bstV l w pen i (bstL l w pen j) (n - (i + 1))).2).map encI))]) (i + 1) := by
            have e6 : (bstV l w pen i (bstL l w pen j) ((i + 1) - (i + 1))) = (-1, 0) := by rw [Nat.sub_self]; rfl
            have e5 : nx.set i 0 = nx := by rw [hnx]; exact rep_set0
            simp only [e6, e5]
          refine SOps.callH [] ((fun n => [(b1, DO.row 3 1 ((bs.set i (bstV l w pen i (bstL l w pen j) (n - (i + 1))).1).map encI)), (b3, DO.row 3 1 ((nx.set i (bstV l w pen i (bstL l w pen j) (n - (i + 1))).2).map encI))]) (i + 1)) [] (sEnds l w i (stopP l w i) (fun n => [(b1, DO.row 3 1 ((bs.set i (bstV l w pen i (bstL l w pen j) (n - (i + 1))).1).map encI)), (b3, DO.row 3 1 ((nx.set i (bstV l w pen i (bstL l w pen j) (n - (i + 1))).2).map encI))]) hN (stopP_gt l w i) (stopP_le (by omega)) (fun n h1 h2 => stopP_fit h1 h2) (stopP_stop (by omega)) hfe) rfl (Eq.trans (show _ = [] ++ ([(b1, DO.row 3 1 ((bs.set i (-1)).map encI)), (b3, DO.row 3 1 (nx.map encI))] ++ []) from rfl) (congrArg (fun z => [] ++ (z ++ [])) (hS0))) (fun d H hR => ?_)
          subst hR
          refine SOps.nil ?_
          show SCode _ _ _ _
          refine SCode.seq ?_
          refine SCode.seqR ?_
          refine SOps.loadPin rfl flatB_3 ?_
          refine SOps.nil ?_
          refine SCode.region ?_
          refine SOps.alloc (sz := 1) zeroIs_3 (fun b6 hb_6 => ?_)
          refine SOps.storeM 0 rfl rfl oneB_3 rfl ?_
          refine SOps.nil ?_
          show SCode _ _ _ _
          refine SCode.region ?_
          refine SOps.loadRef 0 0 0 rfl flatB_3 rfl rfl rfl rfl ?_
          refine SOps.subI rfl rfl (by first | omega | (simp only [lenB] <;> omega)) (by first | omega | (simp only [lenB] <;> omega)) ?_
          refine SOps.reSlot (t := 46) rfl (show _ = DV.v (.int .i64 (((ptN l - 1 : Nat) : Int) - 1 - ((j + 1 : Nat) : Int))) from congrArg (fun z => DV.v (.int .i64 z)) (by omega)) ?_
          refine SOps.storeM 0 rfl rfl oneB_3 rfl ?_
          refine SOps.nil ?_
          have hbs2 : bs.set i (bstV l w pen i (bstL l w pen j) (stopP l w i - (i + 1))).1 = List.replicate (ptN l - 1 - (j + 1)) 0 ++ (bstL l w pen (j + 1)).map (·.1) := by rw [hbs, rep_set, bstL, show ptN l - 2 - j = i by omega, show ptN l - 1 - j = i + 1 by omega, show ptN l - 1 - (j + 1) = i by omega]; rfl
          have hnx2 : nx.set i (bstV l w pen i (bstL l w pen j) (stopP l w i - (i + 1))).2 = List.replicate (ptN l - 1 - (j + 1)) 0 ++ (bstL l w pen (j + 1)).map (·.2) := by rw [hnx, rep_set, bstL, show ptN l - 2 - j = i by omega, show ptN l - 1 - j = i + 1 by omega, show ptN l - 1 - (j + 1) = i by omega]; rfl
          exact ⟨j + 1, b6, _, _, ⟨by rw [List.length_set]; exact hnl, by rw [List.length_set]; exact hxl, by omega, hbs2, hnx2⟩, by omega, St.Le.of ⟨rfl, rfl, rfl, rfl, rfl, trivial⟩⟩
        · try simp only [decide_eq_true_eq, decide_eq_false_iff_not, Bool.not_eq_true', Bool.not_eq_false', beq_iff_eq, bne_iff_ne, ne_eq, beq_eq_false_iff_ne, bne_eq_false_iff_eq, Int.not_lt, Int.not_le, Nat.not_lt, Nat.not_le, Int.ofNat_lt, Int.ofNat_le, Bool.not_eq_eq_eq_not, Bool.not_true, Bool.not_false] at hc4
          have hjl : j = ptN l - 1 := by omega
          rw [hjl, Nat.sub_self] at hbs hnx
          have hbs3 : bs = (bstL l w pen (ptN l - 1)).map (·.1) := hbs
          have hnx3 : nx = (bstL l w pen (ptN l - 1)).map (·.2) := hnx
          have h0l : 0 < bs.length := by omega
          have hb0 : bs[0] = ((bstL l w pen (ptN l - 1)).getD 0 (0, 0)).1 := by rw [← getD_lt (d := 0) h0l, hbs3, List.getD_eq_getElem?_getD, List.getD_eq_getElem?_getD, List.getElem?_map]; cases (bstL l w pen (ptN l - 1))[0]? <;> rfl
          refine SCode.exit ?_
          show SCode _ _ _ _
          refine SCode.seq ?_
          refine SCode.seqR ?_
          refine SOps.freezePin (t := 11) 2 rfl rfl rfl (by rw [List.length_map]; omega) ?_
          refine SOps.loadPin rfl flatB_41 ?_
          refine SOps.indexS (0) rfl rfl sliceB_41_3_1 (by first | omega | (simp only [lenB] <;> omega)) (by first | omega | (simp only [lenB] <;> omega)) ?_
          refine SOps.loadK 1 (0) rfl flatB_3 rfl (by first | omega | (simp only [lenB] <;> omega)) (by first | omega | (simp; done) | (simp; omega)) rfl ?_
          refine SOps.bin rfl rfl rfl ?_
          refine SOps.nil ?_
          refine SCode.cond rfl (fun hc5 => ?_) (fun hc5 => ?_)
          · try simp only [decide_eq_true_eq, decide_eq_false_iff_not, Bool.not_eq_true', Bool.not_eq_false', beq_iff_eq, bne_iff_ne, ne_eq, beq_eq_false_iff_ne, bne_eq_false_iff_eq, Int.not_lt, Int.not_le, Nat.not_lt, Nat.not_le, Int.ofNat_lt, Int.ofNat_le, Bool.not_eq_eq_eq_not, Bool.not_true, Bool.not_false] at hc5
            have hng : ((bstL l w pen (ptN l - 1)).getD 0 (0, 0)).1 < 0 := by rw [← hb0]; omega
            refine SCode.seqR ?_
            refine SOps.assign rfl ?_
            refine SOps.assign rfl ?_
            refine SOps.assign rfl ?_
            refine SOps.nil ?_
            refine SCode.drop ?_
            refine SCode.ret ?_
            exact ⟨_, Res.three (.tmp rfl) (.tmp rfl) (.tmp rfl), by rw [if_pos hok, if_pos hng]⟩
          · try simp only [decide_eq_true_eq, decide_eq_false_iff_not, Bool.not_eq_true', Bool.not_eq_false', beq_iff_eq, bne_iff_ne, ne_eq, beq_eq_false_iff_ne, bne_eq_false_iff_eq, Int.not_lt, Int.not_le, Nat.not_lt, Nat.not_le, Int.ofNat_lt, Int.ofNat_le, Bool.not_eq_eq_eq_not, Bool.not_true, Bool.not_false] at hc5
            have hng : ¬ ((bstL l w pen (ptN l - 1)).getD 0 (0, 0)).1 < 0 := by rw [← hb0]; omega
            have hpth : Pth nx 0 (pathF (ptN l - 1) nx (ptN l) 0) (ptN l - 1) := by rw [hnx3]; exact best_path hbv ⟨(by omega : 0 ≤ w), hw2⟩ ⟨hpe1, hpe2⟩ hng
            have hlr : linesR l w pen = (linesOf l 0 (pathF (ptN l - 1) nx (ptN l) 0), bs[0], 0) := by unfold linesR; rw [if_pos hok, if_neg hng, ← hnx3, ← hb0]
            refine SCode.skip ?_
            show SCode _ _ _ _
            refine SCode.seq ?_
            apply SCode.drawAuto mixed_ [59, 60, 61, 62, 63, 64, 6, 7, 8] [[.inr 9], [.inr 11], [.inl 0, .inl 1], [.inr 10], [.inl 3], [.inl 4], [.inl 2], [.inl 5], []]
            · kernel_rfl
            · kernel_rfl
            · apply DOk.cons 59 
              · rfl
              · exact (NeedIs.inr _ rfl NeedIs.nil)
              · intro rest
                refine SOps.loadPin rfl flatB_57 ?_
                exact SOps.nil rfl
              apply DOk.cons 60 
              · rfl
              · exact (NeedIs.inr _ rfl NeedIs.nil)
              · intro rest
                refine SOps.loadPin rfl flatB_41 ?_
                exact SOps.nil rfl
              apply DOk.cons 61 
              · rfl
              · exact (NeedIs.inl 1 _ _ rfl rfl (NeedIs.inl 0 _ _ rfl rfl NeedIs.nil))
              · intro rest
                refine SOps.callP (sLinesM l w nx (pathF (ptN l - 1) nx (ptN l) 0) hbv hxl hpth) rfl ?_
                rintro _ rfl
                exact SOps.nil rfl
              apply DOk.cons 62 
              · rfl
              · exact (NeedIs.inr _ rfl NeedIs.nil)
              · intro rest
                refine SOps.loadPin rfl flatB_41 ?_
                exact SOps.nil rfl
              apply DOk.cons 63 
              · rfl
              · exact (NeedIs.inl 0 _ _ rfl rfl NeedIs.nil)
              · intro rest
                refine SOps.indexS (0) rfl rfl sliceB_41_3_1 (by first | omega | (simp only [lenB] <;> omega)) (by first | omega | (simp only [lenB] <;> omega)) ?_
                exact SOps.nil rfl
              apply DOk.cons 64 
              · rfl
              · exact (NeedIs.inl 0 _ _ rfl rfl NeedIs.nil)
              · intro rest
                refine SOps.loadK 1 (0) rfl flatB_3 rfl (by first | omega | (simp only [lenB] <;> omega)) (by first | omega | (simp; done) | (simp; omega)) rfl ?_
                exact SOps.nil rfl
              apply DOk.cons 6 
              · rfl
              · exact (NeedIs.inl 3 _ _ rfl rfl NeedIs.nil)
              · intro rest
                refine SOps.assign rfl ?_
                exact SOps.nil rfl
              apply DOk.cons 7 
              · rfl
              · exact (NeedIs.inl 1 _ _ rfl rfl NeedIs.nil)
              · intro rest
                refine SOps.assign rfl ?_
                exact SOps.nil rfl
              apply DOk.cons 8 
              · rfl
              · exact NeedIs.nil
              · intro rest
                refine SOps.assign rfl ?_
                exact SOps.nil rfl
              exact DOk.nil
            · rfl
            · show SCode _ _ _ _
              refine SCode.drop ?_
              refine SCode.ret ?_
              exact ⟨_, Res.three (.tmp rfl) (.tmp rfl) (.tmp rfl), by rw [if_pos hok, if_neg hng, hlr]⟩
end Go.GH
namespace Go.GH
open Go Go.Lib
def wA : ByteArray := ⟨#[97, 97, 97]⟩
def wB : ByteArray := ⟨#[98, 98]⟩
def wC : ByteArray := ⟨#[99, 99]⟩
def wD : ByteArray := ⟨#[100, 100, 100, 100, 100]⟩
def wH : ByteArray := ⟨#[97, 98, 99, 100, 101, 102, 103, 104]⟩
def wH1 : ByteArray := ⟨#[97, 98, 99, 100, 101]⟩
def wH2 : ByteArray := ⟨#[102, 103, 104]⟩
def aw1 : List Bx := [wA, wB, wC, wD].map plainB
def aw2 : List Bx := [⟨wH, [3, 5]⟩]
def aw3 : List Bx := [wH].map plainB
theorem aw_lines1 : linesR aw1 6 10 = ([⟨[wA], false⟩, ⟨[wB, wC], false⟩, ⟨[wD], false⟩], 10, 0) := by kernel_rfl
theorem aw_greedy : greedyR aw1 6 = ([⟨[wA, wB], false⟩, ⟨[wC], false⟩, ⟨[wD], false⟩], 0) := by kernel_rfl
theorem aw_breaks : breaksR aw1 6 = (3, 0) := by kernel_rfl
theorem aw_lines2 : linesR aw2 6 10 = ([⟨[wH1], true⟩, ⟨[wH2], false⟩], 10, 0) := by kernel_rfl
theorem aw_lines3 : linesR aw3 6 10 = ([], 0, 2) := by kernel_rfl
theorem aw_lines4 : linesR aw1 0 10 = ([], 0, 1) := by kernel_rfl
theorem aw_valid : validL aw2 6 = true := by kernel_rfl
theorem aw_t1 : textL ⟨[wB, wC], false⟩ = ⟨#[98, 98, 32, 99, 99]⟩ := by kernel_rfl
theorem aw_t2 : textL ⟨[wA, wB], false⟩ = ⟨#[97, 97, 97, 32, 98, 98]⟩ := by kernel_rfl
theorem aw_t3 : textL ⟨[wH1], true⟩ = ⟨#[97, 98, 99, 100, 101, 45]⟩ := by kernel_rfl
end Go.GH
