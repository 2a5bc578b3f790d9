/-
  The walks of the laws on joins and the longest onset. No conditions.
-/
import Derived.Test.YtnelkblhplellaaDoorSh
import Derived.Test.YtnelkblhplellaaDoorSr
set_option linter.unusedVariables false
set_option linter.unusedSimpArgs false
namespace Go.GH
open Go Go.Proofs
variable {E : Env}
theorem lawJoins (hV : VS E) (hA : AW E) (a : List Letter) (ons : List (List Int)) (ml mr : Int) (s : ByteArray)  : GCall Tryd.prog E 8 [DLs a, DP ons ml mr, .v (.string s)] [] (fun d H => d = .v (.bool true) ∧ H = []) := by
  have hrl := runes_len s
  have hsl := splitA_len a ons s
  refine GCall.body (C := ⟨Tryd.prog, E, true⟩) Tryd.func8 rfl (fun _ => rfl) (by kernel_rfl) rfl ?_
  refine SCode.seqR ?_
  refine SOps.boxAM rfl rfl ?_
  refine SOps.assign rfl ?_
  refine SOps.nil ?_
  refine SCode.seq ?_
  refine SCode.seqR ?_
  refine SOps.callP hA rfl ?_
  rintro _ rfl
  refine SOps.un rfl rfl ?_
  refine SOps.move rfl ?_
  refine SOps.move rfl ?_
  refine SOps.loadPinA rfl aggB_24_3 (Nat.le_of_ble_eq_true rfl) ?_
  refine SOps.move rfl ?_
  refine SOps.callP (lFew _ _ _ _ _) rfl ?_
  rintro _ rfl
  refine SOps.un rfl rfl ?_
  refine SOps.pick rfl rfl ?_
  refine SOps.nil ?_
  refine SCode.cond rfl (fun hc1 => ?_) (fun hc1 => ?_)
  · try simp only [decide_eq_true_eq, decide_eq_false_iff_not, Bool.not_eq_true', Bool.not_eq_false', beq_iff_eq, bne_iff_ne, ne_eq, beq_eq_false_iff_ne, bne_eq_false_iff_eq, Int.not_lt, Int.not_le, Nat.not_lt, Nat.not_le, Int.ofNat_lt, Int.ofNat_le, Bool.not_eq_eq_eq_not, Bool.not_true, Bool.not_false] at hc1
    refine SCode.seqR ?_
    refine SOps.callP hA rfl ?_
    rintro _ rfl
    refine SOps.assign rfl ?_
    refine SOps.nil ?_
    refine SCode.ret ?_
    exact ⟨_, Res.one (.tmp rfl), rfl, rfl⟩
  · try simp only [decide_eq_true_eq, decide_eq_false_iff_not, Bool.not_eq_true', Bool.not_eq_false', beq_iff_eq, bne_iff_ne, ne_eq, beq_eq_false_iff_ne, bne_eq_false_iff_eq, Int.not_lt, Int.not_le, Nat.not_lt, Nat.not_le, Int.ofNat_lt, Int.ofNat_le, Bool.not_eq_eq_eq_not, Bool.not_true, Bool.not_false] at hc1
    have hfew := fewA_spec hc1
    refine SCode.skip ?_
    show SCode _ _ _ _
    refine SCode.seqR ?_
    refine SOps.move rfl ?_
    refine SOps.loadPinA rfl aggB_24_3 (Nat.le_of_ble_eq_true rfl) ?_
    refine SOps.move rfl ?_
    refine SOps.callP (sSplit hV _ _ _ _ _ (by omega)) rfl ?_
    rintro _ rfl
    refine SOps.move rfl ?_
    refine SOps.extract rfl rfl ?_
    refine SOps.extract rfl rfl ?_
    refine SOps.assign rfl ?_
    refine SOps.assign rfl ?_
    refine SOps.nil ?_
    refine SCode.seq ?_
    refine SCode.seqR ?_
    refine SOps.move rfl ?_
    refine SOps.bin rfl rfl rfl ?_
    refine SOps.nil ?_
    refine SCode.cond rfl (fun hc2 => ?_) (fun hc2 => ?_)
    · try simp only [decide_eq_true_eq, decide_eq_false_iff_not, Bool.not_eq_true', Bool.not_eq_false', beq_iff_eq, bne_iff_ne, ne_eq, beq_eq_false_iff_ne, bne_eq_false_iff_eq, Int.not_lt, Int.not_le, Nat.not_lt, Nat.not_le, Int.ofNat_lt, Int.ofNat_le, Bool.not_eq_eq_eq_not, Bool.not_true, Bool.not_false] at hc2
      have hck : checkE a ons ml mr s ≠ 0 := by simpa using hc2
      refine SCode.seqR ?_
      refine SOps.move rfl ?_
      refine SOps.lenM rfl sliceB_35_9_1 ?_
      refine SOps.bin rfl rfl rfl ?_
      refine SOps.assign rfl ?_
      refine SOps.nil ?_
      refine SCode.ret ?_
      exact ⟨_, Res.one (.tmp rfl), congrArg (fun b => DV.v (.bool b)) (by rw [if_neg hck]; rfl), rfl⟩
    · try simp only [decide_eq_true_eq, decide_eq_false_iff_not, Bool.not_eq_true', Bool.not_eq_false', beq_iff_eq, bne_iff_ne, ne_eq, beq_eq_false_iff_ne, bne_eq_false_iff_eq, Int.not_lt, Int.not_le, Nat.not_lt, Nat.not_le, Int.ofNat_lt, Int.ofNat_le, Bool.not_eq_eq_eq_not, Bool.not_true, Bool.not_false] at hc2
      have hck : checkE a ons ml mr s = 0 := by simpa using hc2
      refine SCode.skip ?_
      show SCode _ _ _ _
      refine SCode.seqR ?_
      refine SOps.reSlot (t := 7) rfl (show _ = DStrs (splitA a ons s) from by rw [if_pos hck]) ?_
      have hps : ∀ p ∈ (splitA a ons s), p.size ≤ 800 := fun p hp => by have := piece_size hp; omega
      refine SOps.assign rfl ?_
      refine SOps.nil ?_
      refine SCode.seq ?_
      refine SCode.seqR ?_
      refine SOps.assign rfl ?_
      refine SOps.nil ?_
      refine SCode.block ?_
      refine SCode.loop1 (fun (i : Nat) => (⟨84, [(0, DLs a), (2, .v (.string s)), (7, DStrs (splitA a ons s)), (9, .v (.string (joinB ((splitA a ons s).take i)))), (10, .v (.int .i64 (i : Int)))], []⟩ : St)) (fun (i : Nat) => i ≤ (splitA a ons s).length) (fun (i : Nat) => (splitA a ons s).length - i) (0) (by exact Nat.zero_le _) (St.Le.of ⟨(by first | rfl | (show some _ = some _; simp)), (by first | rfl | (show some _ = some _; simp)), (by first | rfl | (show some _ = some _; simp)), (by first | rfl | (show some _ = some _; simp)), (by first | rfl | (show some _ = some _; simp)), trivial⟩ rfl (by first | rfl | (simp))) ?_
      rintro i hi
      refine SCode.seq ?_
      refine SCode.seqR ?_
      refine SOps.move rfl ?_
      refine SOps.move rfl ?_
      refine SOps.lenM rfl sliceB_35_9_1 ?_
      refine SOps.bin rfl rfl rfl ?_
      refine SOps.nil ?_
      refine SCode.cond rfl (fun hc3 => ?_) (fun hc3 => ?_)
      · try simp only [decide_eq_true_eq, decide_eq_false_iff_not, Bool.not_eq_true', Bool.not_eq_false', beq_iff_eq, bne_iff_ne, ne_eq, beq_eq_false_iff_ne, bne_eq_false_iff_eq, Int.not_lt, Int.not_le, Nat.not_lt, Nat.not_le, Int.ofNat_lt, Int.ofNat_le, Bool.not_eq_eq_eq_not, Bool.not_true, Bool.not_false] at hc3
        have hi3 : i < (splitA a ons s).length := by omega
        refine SCode.skip ?_
        show SCode _ _ _ _
        refine SCode.seq ?_
        refine SCode.block ?_
        refine SCode.seq ?_
        refine SCode.seqR ?_
        have hmem := List.getElem_mem hi3
        have hpne := piece_ne hmem
        have hpz := hps _ hmem
        have hjz := joinB_take_size (l := (splitA a ons s)) i hps
        refine SOps.move rfl ?_
        refine SOps.move rfl ?_
        refine SOps.indexM (i) rfl rfl sliceB_35_9_1 (by first | omega | (simp only [lenB]; omega)) (by first | omega | (simp only [lenB]; omega)) ?_
        refine SOps.loadPin rfl flatB_9 ?_
        refine SOps.bin rfl rfl rfl ?_
        refine SOps.move rfl ?_
        refine SOps.caseB 44 rfl (fun hb4 => ?_) (fun hb4 => ?_)
        · try simp only [decide_eq_true_eq, decide_eq_false_iff_not, Bool.not_eq_true', Bool.not_eq_false', beq_iff_eq, bne_iff_ne, ne_eq, beq_eq_false_iff_ne, bne_eq_false_iff_eq, Int.not_lt, Int.not_le, Nat.not_lt, Nat.not_le, Int.ofNat_lt, Int.ofNat_le, Bool.not_eq_eq_eq_not, Bool.not_true, Bool.not_false] at hb4
          exact absurd hb4 hpne
        · try simp only [decide_eq_true_eq, decide_eq_false_iff_not, Bool.not_eq_true', Bool.not_eq_false', beq_iff_eq, bne_iff_ne, ne_eq, beq_eq_false_iff_ne, bne_eq_false_iff_eq, Int.not_lt, Int.not_le, Nat.not_lt, Nat.not_le, Int.ofNat_lt, Int.ofNat_le, Bool.not_eq_eq_eq_not, Bool.not_true, Bool.not_false] at hb4
          refine SOps.move rfl ?_
          refine SOps.move rfl ?_
          refine SOps.callP (sNuclei _ _ (by omega)) rfl ?_
          rintro _ rfl
          refine SOps.lenM rfl sliceB_30_3_1 ?_
          refine SOps.bin rfl rfl rfl ?_
          refine SOps.move rfl ?_
          refine SOps.caseB 50 rfl (fun hb5 => ?_) (fun hb5 => ?_)
          · try simp only [decide_eq_true_eq, decide_eq_false_iff_not, Bool.not_eq_true', Bool.not_eq_false', beq_iff_eq, bne_iff_ne, ne_eq, beq_eq_false_iff_ne, bne_eq_false_iff_eq, Int.not_lt, Int.not_le, Nat.not_lt, Nat.not_le, Int.ofNat_lt, Int.ofNat_le, Bool.not_eq_eq_eq_not, Bool.not_true, Bool.not_false] at hb5
            have hnn : nuclei a s ≠ [] := by intro e; rw [e] at hb5; simp at hb5
            refine SOps.move rfl ?_
            refine SOps.move rfl ?_
            refine SOps.move rfl ?_
            refine SOps.indexM (i) rfl rfl sliceB_35_9_1 (by first | omega | (simp only [lenB]; omega)) (by first | omega | (simp only [lenB]; omega)) ?_
            refine SOps.loadPin rfl flatB_9 ?_
            refine SOps.callP (sNuclei _ _ (by omega)) rfl ?_
            rintro _ rfl
            refine SOps.lenM rfl sliceB_30_3_1 ?_
            refine SOps.bin rfl rfl rfl ?_
            refine SOps.pick rfl rfl ?_
            refine SOps.pick rfl rfl ?_
            refine SOps.nil ?_
            refine SCode.cond rfl (fun hc6 => ?_) (fun hc6 => ?_)
            · try simp only [decide_eq_true_eq, decide_eq_false_iff_not, Bool.not_eq_true', Bool.not_eq_false', beq_iff_eq, bne_iff_ne, ne_eq, beq_eq_false_iff_ne, bne_eq_false_iff_eq, Int.not_lt, Int.not_le, Nat.not_lt, Nat.not_le, Int.ofNat_lt, Int.ofNat_le, Bool.not_eq_eq_eq_not, Bool.not_true, Bool.not_false] at hc6
              exact absurd (joins_piece hmem hnn) (by omega)
            · try simp only [decide_eq_true_eq, decide_eq_false_iff_not, Bool.not_eq_true', Bool.not_eq_false', beq_iff_eq, bne_iff_ne, ne_eq, beq_eq_false_iff_ne, bne_eq_false_iff_eq, Int.not_lt, Int.not_le, Nat.not_lt, Nat.not_le, Int.ofNat_lt, Int.ofNat_le, Bool.not_eq_eq_eq_not, Bool.not_true, Bool.not_false] at hc6
              refine SCode.skip ?_
              show SCode _ _ _ _
              refine SCode.region ?_
              refine SOps.move rfl ?_
              refine SOps.move rfl ?_
              refine SOps.move rfl ?_
              refine SOps.indexM (i) rfl rfl sliceB_35_9_1 (by first | omega | (simp only [lenB]; omega)) (by first | omega | (simp only [lenB]; omega)) ?_
              refine SOps.loadPin rfl flatB_9 ?_
              refine SOps.concat rfl rfl (by first | omega | (simp only [lenB]; omega)) ?_
              refine SOps.assign rfl ?_
              refine SOps.nil ?_
              show SCode _ _ _ _
              refine SCode.region ?_
              refine SOps.move rfl ?_
              refine SOps.addI rfl rfl (by first | omega | (simp only [lenB]; omega)) (by first | omega | (simp only [lenB]; omega)) ?_
              refine SOps.assign rfl ?_
              refine SOps.nil ?_
              exact ⟨i + 1, by omega, by omega, St.Le.of ⟨rfl, rfl, rfl, (by show some _ = some _; rw [List.take_add_one, List.getElem?_eq_getElem hi3, Option.toList_some, joinB_snoc]), rfl, trivial⟩⟩
          · try simp only [decide_eq_true_eq, decide_eq_false_iff_not, Bool.not_eq_true', Bool.not_eq_false', beq_iff_eq, bne_iff_ne, ne_eq, beq_eq_false_iff_ne, bne_eq_false_iff_eq, Int.not_lt, Int.not_le, Nat.not_lt, Nat.not_le, Int.ofNat_lt, Int.ofNat_le, Bool.not_eq_eq_eq_not, Bool.not_true, Bool.not_false] at hb5
            refine SOps.skip rfl ?_
            refine SOps.skip rfl ?_
            refine SOps.skip rfl ?_
            refine SOps.skip rfl ?_
            refine SOps.skip rfl ?_
            refine SOps.skip rfl ?_
            refine SOps.skip rfl ?_
            refine SOps.skip rfl ?_
            refine SOps.pick rfl rfl ?_
            refine SOps.pick rfl rfl ?_
            refine SOps.nil ?_
            refine SCode.cond rfl (fun h => by cases h) (fun _ => ?_)
            refine SCode.skip ?_
            show SCode _ _ _ _
            refine SCode.region ?_
            refine SOps.move rfl ?_
            refine SOps.move rfl ?_
            refine SOps.move rfl ?_
            refine SOps.indexM (i) rfl rfl sliceB_35_9_1 (by first | omega | (simp only [lenB]; omega)) (by first | omega | (simp only [lenB]; omega)) ?_
            refine SOps.loadPin rfl flatB_9 ?_
            refine SOps.concat rfl rfl (by first | omega | (simp only [lenB]; omega)) ?_
            refine SOps.assign rfl ?_
            refine SOps.nil ?_
            show SCode _ _ _ _
            refine SCode.region ?_
            refine SOps.move rfl ?_
            refine SOps.addI rfl rfl (by first | omega | (simp only [lenB]; omega)) (by first | omega | (simp only [lenB]; omega)) ?_
            refine SOps.assign rfl ?_
            refine SOps.nil ?_
            exact ⟨i + 1, by omega, by omega, St.Le.of ⟨rfl, rfl, rfl, (by show some _ = some _; rw [List.take_add_one, List.getElem?_eq_getElem hi3, Option.toList_some, joinB_snoc]), rfl, trivial⟩⟩
      · try simp only [decide_eq_true_eq, decide_eq_false_iff_not, Bool.not_eq_true', Bool.not_eq_false', beq_iff_eq, bne_iff_ne, ne_eq, beq_eq_false_iff_ne, bne_eq_false_iff_eq, Int.not_lt, Int.not_le, Nat.not_lt, Nat.not_le, Int.ofNat_lt, Int.ofNat_le, Bool.not_eq_eq_eq_not, Bool.not_true, Bool.not_false] at hc3
        refine SCode.exit ?_
        show SCode _ _ _ _
        refine SCode.seqR ?_
        have hfin : joinB ((splitA a ons s).take i) = s := by rw [List.take_of_length_le (by omega), splitA_join, encs_runes (check_utf8 hck)]
        have hjl := joins_len a ons s
        refine SOps.reSlot (t := 9) rfl (show _ = DV.v (.string s) from by rw [hfin]) ?_
        refine SOps.move rfl ?_
        refine SOps.move rfl ?_
        refine SOps.bin rfl rfl rfl ?_
        refine SOps.move rfl ?_
        refine SOps.caseB 70 rfl (fun hb7 => ?_) (fun hb7 => ?_)
        · try simp only [decide_eq_true_eq, decide_eq_false_iff_not, Bool.not_eq_true', Bool.not_eq_false', beq_iff_eq, bne_iff_ne, ne_eq, beq_eq_false_iff_ne, bne_eq_false_iff_eq, Int.not_lt, Int.not_le, Nat.not_lt, Nat.not_le, Int.ofNat_lt, Int.ofNat_le, Bool.not_eq_eq_eq_not, Bool.not_true, Bool.not_false] at hb7
          refine SOps.move rfl ?_
          refine SOps.lenM rfl sliceB_35_9_1 ?_
          refine SOps.bin rfl rfl rfl ?_
          refine SOps.move rfl ?_
          refine SOps.caseB 74 rfl (fun hb8 => ?_) (fun hb8 => ?_)
          · try simp only [decide_eq_true_eq, decide_eq_false_iff_not, Bool.not_eq_true', Bool.not_eq_false', beq_iff_eq, bne_iff_ne, ne_eq, beq_eq_false_iff_ne, bne_eq_false_iff_eq, Int.not_lt, Int.not_le, Nat.not_lt, Nat.not_le, Int.ofNat_lt, Int.ofNat_le, Bool.not_eq_eq_eq_not, Bool.not_true, Bool.not_false] at hb8
            refine SOps.skip rfl ?_
            refine SOps.skip rfl ?_
            refine SOps.skip rfl ?_
            refine SOps.skip rfl ?_
            refine SOps.skip rfl ?_
            refine SOps.skip rfl ?_
            refine SOps.skip rfl ?_
            refine SOps.pick rfl rfl ?_
            refine SOps.pick rfl rfl ?_
            refine SOps.assign rfl ?_
            refine SOps.nil ?_
            refine SCode.ret ?_
            exact ⟨_, Res.one (.tmp rfl), rfl, rfl⟩
          · try simp only [decide_eq_true_eq, decide_eq_false_iff_not, Bool.not_eq_true', Bool.not_eq_false', beq_iff_eq, bne_iff_ne, ne_eq, beq_eq_false_iff_ne, bne_eq_false_iff_eq, Int.not_lt, Int.not_le, Nat.not_lt, Nat.not_le, Int.ofNat_lt, Int.ofNat_le, Bool.not_eq_eq_eq_not, Bool.not_true, Bool.not_false] at hb8
            refine SOps.move rfl ?_
            refine SOps.move rfl ?_
            refine SOps.callP (sNuclei _ _ (by omega)) rfl ?_
            rintro _ rfl
            refine SOps.lenM rfl sliceB_30_3_1 ?_
            refine SOps.move rfl ?_
            refine SOps.lenM rfl sliceB_35_9_1 ?_
            refine SOps.bin rfl rfl rfl ?_
            refine SOps.pick rfl rfl ?_
            refine SOps.pick rfl rfl ?_
            refine SOps.assign rfl ?_
            refine SOps.nil ?_
            refine SCode.ret ?_
            exact ⟨_, Res.one (.tmp rfl), congrArg (fun b => DV.v (.bool b)) (by rw [hjl.resolve_left (by omega)]; simp), rfl⟩
        · try simp only [decide_eq_true_eq, decide_eq_false_iff_not, Bool.not_eq_true', Bool.not_eq_false', beq_iff_eq, bne_iff_ne, ne_eq, beq_eq_false_iff_ne, bne_eq_false_iff_eq, Int.not_lt, Int.not_le, Nat.not_lt, Nat.not_le, Int.ofNat_lt, Int.ofNat_le, Bool.not_eq_eq_eq_not, Bool.not_true, Bool.not_false] at hb7
          exact absurd hb7 (by simp)
theorem lawMaximal (hV : VS E) (hA : AW E) (a : List Letter) (ons : List (List Int)) (ml mr : Int) (s : ByteArray)  : GCall Tryd.prog E 9 [DLs a, DP ons ml mr, .v (.string s)] [] (fun d H => d = .v (.bool true) ∧ H = []) := by
  have hrl := runes_len s
  have hsl := splitA_len a ons s
  refine GCall.body (C := ⟨Tryd.prog, E, true⟩) Tryd.func9 rfl (fun _ => rfl) (by kernel_rfl) rfl ?_
  refine SCode.seqR ?_
  refine SOps.boxAM rfl rfl ?_
  refine SOps.assign rfl ?_
  refine SOps.nil ?_
  refine SCode.seq ?_
  refine SCode.seqR ?_
  refine SOps.callP hA rfl ?_
  rintro _ rfl
  refine SOps.un rfl rfl ?_
  refine SOps.move rfl ?_
  refine SOps.move rfl ?_
  refine SOps.loadPinA rfl aggB_24_3 (Nat.le_of_ble_eq_true rfl) ?_
  refine SOps.move rfl ?_
  refine SOps.callP (lFew _ _ _ _ _) rfl ?_
  rintro _ rfl
  refine SOps.un rfl rfl ?_
  refine SOps.pick rfl rfl ?_
  refine SOps.nil ?_
  refine SCode.cond rfl (fun hc1 => ?_) (fun hc1 => ?_)
  · try simp only [decide_eq_true_eq, decide_eq_false_iff_not, Bool.not_eq_true', Bool.not_eq_false', beq_iff_eq, bne_iff_ne, ne_eq, beq_eq_false_iff_ne, bne_eq_false_iff_eq, Int.not_lt, Int.not_le, Nat.not_lt, Nat.not_le, Int.ofNat_lt, Int.ofNat_le, Bool.not_eq_eq_eq_not, Bool.not_true, Bool.not_false] at hc1
    refine SCode.seqR ?_
    refine SOps.callP hA rfl ?_
    rintro _ rfl
    refine SOps.assign rfl ?_
    refine SOps.nil ?_
    refine SCode.ret ?_
    exact ⟨_, Res.one (.tmp rfl), rfl, rfl⟩
  · try simp only [decide_eq_true_eq, decide_eq_false_iff_not, Bool.not_eq_true', Bool.not_eq_false', beq_iff_eq, bne_iff_ne, ne_eq, beq_eq_false_iff_ne, bne_eq_false_iff_eq, Int.not_lt, Int.not_le, Nat.not_lt, Nat.not_le, Int.ofNat_lt, Int.ofNat_le, Bool.not_eq_eq_eq_not, Bool.not_true, Bool.not_false] at hc1
    have hfew := fewA_spec hc1
    refine SCode.skip ?_
    show SCode _ _ _ _
    refine SCode.seqR ?_
    refine SOps.move rfl ?_
    refine SOps.loadPinA rfl aggB_24_3 (Nat.le_of_ble_eq_true rfl) ?_
    refine SOps.move rfl ?_
    refine SOps.callP (sSplit hV _ _ _ _ _ (by omega)) rfl ?_
    rintro _ rfl
    refine SOps.move rfl ?_
    refine SOps.extract rfl rfl ?_
    refine SOps.extract rfl rfl ?_
    refine SOps.assign rfl ?_
    refine SOps.assign rfl ?_
    refine SOps.nil ?_
    refine SCode.seq ?_
    refine SCode.seqR ?_
    obtain ⟨L, hLd⟩ : ∃ L, (if checkE a ons ml mr s = 0 then (splitA a ons s) else []) = L := ⟨_, rfl⟩
    have hLs : L = [] ∨ L = (splitA a ons s) := by by_cases h : checkE a ons ml mr s = 0; (right; rw [← hLd, if_pos h]); (left; rw [← hLd, if_neg h])
    refine SOps.reSlot (t := 7) rfl (show _ = DStrs L from by rw [hLd]) ?_
    clear hLd
    refine SOps.fact (isl_len (t := 7) rfl) (fun hB => ?_)
    simp only [List.length_map, lenB] at hB
    refine SOps.assign rfl ?_
    refine SOps.nil ?_
    refine SCode.block ?_
    refine SCode.loop1 (fun (i : Nat) => (⟨101, [(0, DLs a), (4, .ipin [DOns ons, .v (.int .i64 ml), .v (.int .i64 mr)]), (7, DStrs L), (9, .v (.int .i64 (i : Int)))], []⟩ : St)) (fun (i : Nat) => 1 ≤ i ∧ i ≤ L.length + 1) (fun (i : Nat) => L.length - i) (1) (by exact ⟨Nat.le_refl _, by omega⟩) (St.Le.of ⟨(by first | rfl | (show some _ = some _; simp)), (by first | rfl | (show some _ = some _; simp)), (by first | rfl | (show some _ = some _; simp)), (by first | rfl | (show some _ = some _; simp)), trivial⟩ rfl (by first | rfl | (simp))) ?_
    rintro i ⟨hi1, hi2⟩
    refine SCode.seq ?_
    refine SCode.seqR ?_
    refine SOps.move rfl ?_
    refine SOps.move rfl ?_
    refine SOps.lenM rfl sliceB_35_9_1 ?_
    refine SOps.bin rfl rfl rfl ?_
    refine SOps.nil ?_
    refine SCode.cond rfl (fun hc2 => ?_) (fun hc2 => ?_)
    · try simp only [decide_eq_true_eq, decide_eq_false_iff_not, Bool.not_eq_true', Bool.not_eq_false', beq_iff_eq, bne_iff_ne, ne_eq, beq_eq_false_iff_ne, bne_eq_false_iff_eq, Int.not_lt, Int.not_le, Nat.not_lt, Nat.not_le, Int.ofNat_lt, Int.ofNat_le, Bool.not_eq_eq_eq_not, Bool.not_true, Bool.not_false] at hc2
      have hi3 : i < L.length := by omega
      have hLe : L = (splitA a ons s) := hLs.resolve_left (fun e => by rw [e] at hi3; simp at hi3)
      subst hLe
      obtain ⟨gm, kn, R0, R1, hn1, hn0, hr1, hr0, hk1, hg0, hR0, hR1, hbeg, hlong⟩ := maximal_facts (a := a) (ons := ons) (s := s) hi1 hi3
      have hzb : (encs (R1.take kn)).size ≤ 1000 := by have := encs_size (R1.take kn); simp only [List.length_take] at this; omega
      have hre : (R0.drop (gm + 1)).length ≤ 4000 := by rw [List.length_drop]; omega
      have hz1 := piece_size (List.getElem_mem hi3)
      have hz0 := piece_size (List.getElem_mem (show i - 1 < (splitA a ons s).length by omega))
      refine SCode.skip ?_
      show SCode _ _ _ _
      refine SCode.seq ?_
      refine SCode.block ?_
      refine SCode.seq ?_
      refine SCode.drawPure mixed_ [(38, DLs a), (39, DStrs (splitA a ons s)), (40, .v (.int .i64 (i : Int))), (41, .ipin (encS ((splitA a ons s)[i]))), (42, .v (.string (((splitA a ons s)[i])))), (43, DNats (nuclei a ((splitA a ons s)[i]))), (44, DLs a), (45, DStrs (splitA a ons s)), (46, .v (.int .i64 (i : Int))), (47, .v (.int .i64 ((i : Int) - 1))), (48, .ipin (encS ((splitA a ons s)[i - 1]))), (49, .v (.string (((splitA a ons s)[i - 1])))), (50, DNats (nuclei a ((splitA a ons s)[i - 1]))), (10, DNats (nuclei a ((splitA a ons s)[i]))), (11, DNats (nuclei a ((splitA a ons s)[i - 1])))] [38, 39, 40, 41, 42, 43, 44, 45, 46, 47, 48, 49, 50, 10, 11] [[.inr 0], [.inr 7], [.inr 9], [.inl 1, .inl 2], [.inl 3], [.inl 0, .inl 4], [.inr 0], [.inr 7], [.inr 9], [.inl 8], [.inl 7, .inl 9], [.inl 10], [.inl 6, .inl 11], [.inl 5], [.inl 12]] [[(0, DLs a)], [(7, DStrs (splitA a ons s))], [(9, .v (.int .i64 (i : Int)))], [(39, DStrs (splitA a ons s)), (40, .v (.int .i64 (i : Int)))], [(41, .ipin (encS ((splitA a ons s)[i])))], [(38, DLs a), (42, .v (.string (((splitA a ons s)[i]))))], [(0, DLs a)], [(7, DStrs (splitA a ons s))], [(9, .v (.int .i64 (i : Int)))], [(46, .v (.int .i64 (i : Int)))], [(45, DStrs (splitA a ons s)), (47, .v (.int .i64 ((i : Int) - 1)))], [(48, .ipin (encS ((splitA a ons s)[i - 1])))], [(44, DLs a), (49, .v (.string (((splitA a ons s)[i - 1]))))], [(43, DNats (nuclei a ((splitA a ons s)[i])))], [(50, DNats (nuclei a ((splitA a ons s)[i - 1])))]] rfl (by kernel_rfl) (by kernel_rfl) rfl ?_ ?_
      · refine OpsOk.cons (fun rest => ?_) ?_
        · refine SOps.move rfl ?_
          exact SOps.nil (by first | rfl | simp_all)
        refine OpsOk.cons (fun rest => ?_) ?_
        · refine SOps.move rfl ?_
          exact SOps.nil (by first | rfl | simp_all)
        refine OpsOk.cons (fun rest => ?_) ?_
        · refine SOps.move rfl ?_
          exact SOps.nil (by first | rfl | simp_all)
        refine OpsOk.cons (fun rest => ?_) ?_
        · refine SOps.indexM (i) rfl rfl sliceB_35_9_1 (by first | omega | (simp only [lenB]; omega)) (by first | omega | (simp only [lenB]; omega)) ?_
          exact SOps.nil (by first | rfl | simp_all)
        refine OpsOk.cons (fun rest => ?_) ?_
        · refine SOps.loadPin rfl flatB_9 ?_
          exact SOps.nil (by first | rfl | simp_all)
        refine OpsOk.cons (fun rest => ?_) ?_
        · refine SOps.callP (sNuclei _ _ (by omega)) rfl ?_
          rintro _ rfl
          exact SOps.nil (by first | rfl | simp_all)
        refine OpsOk.cons (fun rest => ?_) ?_
        · refine SOps.move rfl ?_
          exact SOps.nil (by first | rfl | simp_all)
        refine OpsOk.cons (fun rest => ?_) ?_
        · refine SOps.move rfl ?_
          exact SOps.nil (by first | rfl | simp_all)
        refine OpsOk.cons (fun rest => ?_) ?_
        · refine SOps.move rfl ?_
          exact SOps.nil (by first | rfl | simp_all)
        refine OpsOk.cons (fun rest => ?_) ?_
        · refine SOps.subI rfl rfl (by first | omega | (simp only [lenB]; omega)) (by first | omega | (simp only [lenB]; omega)) ?_
          exact SOps.nil (by first | rfl | simp_all)
        refine OpsOk.cons (fun rest => ?_) ?_
        · refine SOps.indexM ((i - 1)) rfl rfl sliceB_35_9_1 (by first | omega | (simp only [lenB]; omega)) (by first | omega | (simp only [lenB]; omega)) ?_
          exact SOps.nil (by first | rfl | simp_all)
        refine OpsOk.cons (fun rest => ?_) ?_
        · refine SOps.loadPin rfl flatB_9 ?_
          exact SOps.nil (by first | rfl | simp_all)
        refine OpsOk.cons (fun rest => ?_) ?_
        · refine SOps.callP (sNuclei _ _ (by omega)) rfl ?_
          rintro _ rfl
          exact SOps.nil (by first | rfl | simp_all)
        refine OpsOk.cons (fun rest => ?_) ?_
        · refine SOps.assign rfl ?_
          exact SOps.nil (by first | rfl | simp_all)
        refine OpsOk.cons (fun rest => ?_) ?_
        · refine SOps.assign rfl ?_
          exact SOps.nil (by first | rfl | simp_all)
        exact OpsOk.nil
      · show SCode _ _ _ _
        refine SCode.seq ?_
        refine SCode.seqR ?_
        refine SOps.reSlot (t := 10) rfl (show _ = DNats [kn] from by rw [hn1]) ?_
        refine SOps.reSlot (t := 11) rfl (show _ = DNats [gm] from by rw [hn0]) ?_
        refine SOps.move rfl ?_
        refine SOps.lenM rfl sliceB_30_3_1 ?_
        refine SOps.bin rfl rfl rfl ?_
        refine SOps.move rfl ?_
        refine SOps.caseB 54 rfl (fun hb3 => ?_) (fun hb3 => ?_)
        · try simp only [decide_eq_true_eq, decide_eq_false_iff_not, Bool.not_eq_true', Bool.not_eq_false', beq_iff_eq, bne_iff_ne, ne_eq, beq_eq_false_iff_ne, bne_eq_false_iff_eq, Int.not_lt, Int.not_le, Nat.not_lt, Nat.not_le, Int.ofNat_lt, Int.ofNat_le, Bool.not_eq_eq_eq_not, Bool.not_true, Bool.not_false] at hb3
          exact absurd hb3 (by simp)
        · try simp only [decide_eq_true_eq, decide_eq_false_iff_not, Bool.not_eq_true', Bool.not_eq_false', beq_iff_eq, bne_iff_ne, ne_eq, beq_eq_false_iff_ne, bne_eq_false_iff_eq, Int.not_lt, Int.not_le, Nat.not_lt, Nat.not_le, Int.ofNat_lt, Int.ofNat_le, Bool.not_eq_eq_eq_not, Bool.not_true, Bool.not_false] at hb3
          refine SOps.move rfl ?_
          refine SOps.lenM rfl sliceB_30_3_1 ?_
          refine SOps.bin rfl rfl rfl ?_
          refine SOps.pick rfl rfl ?_
          refine SOps.nil ?_
          refine SCode.cond rfl (fun hc4 => ?_) (fun hc4 => ?_)
          · try simp only [decide_eq_true_eq, decide_eq_false_iff_not, Bool.not_eq_true', Bool.not_eq_false', beq_iff_eq, bne_iff_ne, ne_eq, beq_eq_false_iff_ne, bne_eq_false_iff_eq, Int.not_lt, Int.not_le, Nat.not_lt, Nat.not_le, Int.ofNat_lt, Int.ofNat_le, Bool.not_eq_eq_eq_not, Bool.not_true, Bool.not_false] at hc4
            exact absurd hc4 (by simp)
          · try simp only [decide_eq_true_eq, decide_eq_false_iff_not, Bool.not_eq_true', Bool.not_eq_false', beq_iff_eq, bne_iff_ne, ne_eq, beq_eq_false_iff_ne, bne_eq_false_iff_eq, Int.not_lt, Int.not_le, Nat.not_lt, Nat.not_le, Int.ofNat_lt, Int.ofNat_le, Bool.not_eq_eq_eq_not, Bool.not_true, Bool.not_false] at hc4
            refine SCode.skip ?_
            show SCode _ _ _ _
            refine SCode.seq ?_
            refine SCode.drawPure mixed_ [(59, DStrs (splitA a ons s)), (60, .v (.int .i64 (i : Int))), (61, .ipin (encS ((splitA a ons s)[i]))), (62, .v (.string (((splitA a ons s)[i])))), (63, DRunes R1), (64, DNats [kn]), (65, .ipin (encN kn)), (66, .v (.int .i64 (kn : Int))), (67, DRunes (R1.take kn)), (68, DStrs (splitA a ons s)), (69, .v (.int .i64 (i : Int))), (70, .v (.int .i64 ((i : Int) - 1))), (71, .ipin (encS ((splitA a ons s)[i - 1]))), (72, .v (.string (((splitA a ons s)[i - 1])))), (73, DRunes R0), (74, DNats [gm]), (75, .ipin (encN gm)), (76, .v (.int .i64 (gm : Int))), (77, .v (.int .i64 ((gm : Int) + 1))), (78, DRunes (R0.drop (gm + 1))), (12, DRunes (R1.take kn)), (13, DRunes (R0.drop (gm + 1)))] [59, 60, 61, 62, 63, 64, 65, 66, 67, 68, 69, 70, 71, 72, 73, 74, 75, 76, 77, 78, 12, 13] [[.inr 7], [.inr 9], [.inl 0, .inl 1], [.inl 2], [.inl 3], [.inr 10], [.inl 5], [.inl 6], [.inl 4, .inl 7], [.inr 7], [.inr 9], [.inl 10], [.inl 9, .inl 11], [.inl 12], [.inl 13], [.inr 11], [.inl 15], [.inl 16], [.inl 17], [.inl 14, .inl 18], [.inl 8], [.inl 19]] [[(7, DStrs (splitA a ons s))], [(9, .v (.int .i64 (i : Int)))], [(59, DStrs (splitA a ons s)), (60, .v (.int .i64 (i : Int)))], [(61, .ipin (encS ((splitA a ons s)[i])))], [(62, .v (.string (((splitA a ons s)[i]))))], [(10, DNats [kn])], [(64, DNats [kn])], [(65, .ipin (encN kn))], [(63, DRunes R1), (66, .v (.int .i64 (kn : Int)))], [(7, DStrs (splitA a ons s))], [(9, .v (.int .i64 (i : Int)))], [(69, .v (.int .i64 (i : Int)))], [(68, DStrs (splitA a ons s)), (70, .v (.int .i64 ((i : Int) - 1)))], [(71, .ipin (encS ((splitA a ons s)[i - 1])))], [(72, .v (.string (((splitA a ons s)[i - 1]))))], [(11, DNats [gm])], [(74, DNats [gm])], [(75, .ipin (encN gm))], [(76, .v (.int .i64 (gm : Int)))], [(73, DRunes R0), (77, .v (.int .i64 ((gm : Int) + 1)))], [(67, DRunes (R1.take kn))], [(78, DRunes (R0.drop (gm + 1)))]] rfl (by kernel_rfl) (by kernel_rfl) rfl ?_ ?_
            · refine OpsOk.cons (fun rest => ?_) ?_
              · refine SOps.move rfl ?_
                exact SOps.nil (by first | rfl | simp_all)
              refine OpsOk.cons (fun rest => ?_) ?_
              · refine SOps.move rfl ?_
                exact SOps.nil (by first | rfl | simp_all)
              refine OpsOk.cons (fun rest => ?_) ?_
              · refine SOps.indexM (i) rfl rfl sliceB_35_9_1 (by first | omega | (simp only [lenB]; omega)) (by first | omega | (simp only [lenB]; omega)) ?_
                exact SOps.nil (by first | rfl | simp_all)
              refine OpsOk.cons (fun rest => ?_) ?_
              · refine SOps.loadPin rfl flatB_9 ?_
                exact SOps.nil (by first | rfl | simp_all)
              refine OpsOk.cons (fun rest => ?_) ?_
              · refine SOps.runesF rfl rfl strB_9 sliceB_40_21_1 intB_21_i32 ?_
                exact SOps.nil (by rw [hr1]; rfl)
              refine OpsOk.cons (fun rest => ?_) ?_
              · refine SOps.move rfl ?_
                exact SOps.nil (by first | rfl | simp_all)
              refine OpsOk.cons (fun rest => ?_) ?_
              · refine SOps.indexM (0) rfl rfl sliceB_30_3_1 (by first | omega | (simp only [lenB]; omega)) (by first | omega | (simp only [lenB]; omega)) ?_
                exact SOps.nil (by first | rfl | simp_all)
              refine OpsOk.cons (fun rest => ?_) ?_
              · refine SOps.loadPin rfl flatB_3 ?_
                exact SOps.nil (by first | rfl | simp_all)
              refine OpsOk.cons (fun rest => ?_) ?_
              · refine SOps.sliceT (n1 := 0) (kn) sliceB_40_21_1 rfl rfl (by first | omega | (simp only [lenB]; omega)) (by first | omega | (simp only [lenB]; omega)) ?_
                exact SOps.nil (by first | rfl | simp_all)
              refine OpsOk.cons (fun rest => ?_) ?_
              · refine SOps.move rfl ?_
                exact SOps.nil (by first | rfl | simp_all)
              refine OpsOk.cons (fun rest => ?_) ?_
              · refine SOps.move rfl ?_
                exact SOps.nil (by first | rfl | simp_all)
              refine OpsOk.cons (fun rest => ?_) ?_
              · refine SOps.subI rfl rfl (by first | omega | (simp only [lenB]; omega)) (by first | omega | (simp only [lenB]; omega)) ?_
                exact SOps.nil (by first | rfl | simp_all)
              refine OpsOk.cons (fun rest => ?_) ?_
              · refine SOps.indexM ((i - 1)) rfl rfl sliceB_35_9_1 (by first | omega | (simp only [lenB]; omega)) (by first | omega | (simp only [lenB]; omega)) ?_
                exact SOps.nil (by first | rfl | simp_all)
              refine OpsOk.cons (fun rest => ?_) ?_
              · refine SOps.loadPin rfl flatB_9 ?_
                exact SOps.nil (by first | rfl | simp_all)
              refine OpsOk.cons (fun rest => ?_) ?_
              · refine SOps.runesF rfl rfl strB_9 sliceB_40_21_1 intB_21_i32 ?_
                exact SOps.nil (by rw [hr0]; rfl)
              refine OpsOk.cons (fun rest => ?_) ?_
              · refine SOps.move rfl ?_
                exact SOps.nil (by first | rfl | simp_all)
              refine OpsOk.cons (fun rest => ?_) ?_
              · refine SOps.indexM (0) rfl rfl sliceB_30_3_1 (by first | omega | (simp only [lenB]; omega)) (by first | omega | (simp only [lenB]; omega)) ?_
                exact SOps.nil (by first | rfl | simp_all)
              refine OpsOk.cons (fun rest => ?_) ?_
              · refine SOps.loadPin rfl flatB_3 ?_
                exact SOps.nil (by first | rfl | simp_all)
              refine OpsOk.cons (fun rest => ?_) ?_
              · refine SOps.addI rfl rfl (by first | omega | (simp only [lenB]; omega)) (by first | omega | (simp only [lenB]; omega)) ?_
                exact SOps.nil (by first | rfl | simp_all)
              refine OpsOk.cons (fun rest => ?_) ?_
              · refine SOps.sliceD (n1 := 0) ((gm + 1)) sliceB_40_21_1 rfl rfl (by first | omega | (simp only [lenB]; omega)) (by first | omega | (simp only [lenB]; omega)) ?_
                exact SOps.nil (by first | rfl | simp_all)
              refine OpsOk.cons (fun rest => ?_) ?_
              · refine SOps.assign rfl ?_
                exact SOps.nil (by first | rfl | simp_all)
              refine OpsOk.cons (fun rest => ?_) ?_
              · refine SOps.assign rfl ?_
                exact SOps.nil (by first | rfl | simp_all)
              exact OpsOk.nil
            · show SCode _ _ _ _
              refine SCode.seq ?_
              refine SCode.seqR ?_
              refine SOps.move rfl ?_
              refine SOps.loadPinA rfl aggB_24_3 (Nat.le_of_ble_eq_true rfl) ?_
              refine SOps.move rfl ?_
              refine SOps.convRunesStr rfl sliceB_40_21_1 intB_21_i32 strB_9 (by simp [lenB] <;> (first | omega | (simp only [lenB]; omega))) ?_
              refine SOps.callP (sOnset _ _ _ _ _ (by omega)) rfl ?_
              rintro _ rfl
              refine SOps.un rfl rfl ?_
              refine SOps.nil ?_
              refine SCode.cond rfl (fun hc5 => ?_) (fun hc5 => ?_)
              · try simp only [decide_eq_true_eq, decide_eq_false_iff_not, Bool.not_eq_true', Bool.not_eq_false', beq_iff_eq, bne_iff_ne, ne_eq, beq_eq_false_iff_ne, bne_eq_false_iff_eq, Int.not_lt, Int.not_le, Nat.not_lt, Nat.not_le, Int.ofNat_lt, Int.ofNat_le, Bool.not_eq_eq_eq_not, Bool.not_true, Bool.not_false] at hc5
                exact absurd hc5 (by rw [hbeg]; simp)
              · try simp only [decide_eq_true_eq, decide_eq_false_iff_not, Bool.not_eq_true', Bool.not_eq_false', beq_iff_eq, bne_iff_ne, ne_eq, beq_eq_false_iff_ne, bne_eq_false_iff_eq, Int.not_lt, Int.not_le, Nat.not_lt, Nat.not_le, Int.ofNat_lt, Int.ofNat_le, Bool.not_eq_eq_eq_not, Bool.not_true, Bool.not_false] at hc5
                refine SCode.skip ?_
                show SCode _ _ _ _
                refine SCode.seqR ?_
                refine SOps.assign rfl ?_
                refine SOps.nil ?_
                refine SCode.block ?_
                refine SCode.loop1 (fun (j : Nat) => (⟨101, [(0, DLs a), (4, .ipin [DOns ons, .v (.int .i64 ml), .v (.int .i64 mr)]), (7, DStrs (splitA a ons s)), (9, .v (.int .i64 (i : Int))), (12, DRunes (R1.take kn)), (13, DRunes (R0.drop (gm + 1))), (14, .v (.int .i64 (j : Int)))], []⟩ : St)) (fun (j : Nat) => j ≤ (R0.drop (gm + 1)).length) (fun (j : Nat) => (R0.drop (gm + 1)).length - j) (0) (by exact Nat.zero_le _) (St.Le.of ⟨(by first | rfl | (show some _ = some _; simp)), (by first | rfl | (show some _ = some _; simp)), (by first | rfl | (show some _ = some _; simp)), (by first | rfl | (show some _ = some _; simp)), (by first | rfl | (show some _ = some _; simp)), (by first | rfl | (show some _ = some _; simp)), (by first | rfl | (show some _ = some _; simp)), trivial⟩ rfl (by first | rfl | (simp))) ?_
                rintro j hj
                refine SCode.seq ?_
                refine SCode.seqR ?_
                refine SOps.move rfl ?_
                refine SOps.move rfl ?_
                refine SOps.lenM rfl sliceB_40_21_1 ?_
                refine SOps.bin rfl rfl rfl ?_
                refine SOps.nil ?_
                refine SCode.cond rfl (fun hc6 => ?_) (fun hc6 => ?_)
                · try simp only [decide_eq_true_eq, decide_eq_false_iff_not, Bool.not_eq_true', Bool.not_eq_false', beq_iff_eq, bne_iff_ne, ne_eq, beq_eq_false_iff_ne, bne_eq_false_iff_eq, Int.not_lt, Int.not_le, Nat.not_lt, Nat.not_le, Int.ofNat_lt, Int.ofNat_le, Bool.not_eq_eq_eq_not, Bool.not_true, Bool.not_false] at hc6
                  have hj3 : j < (R0.drop (gm + 1)).length := by omega
                  have hzc : (encs ((R0.drop (gm + 1)).drop j) ++ encs (R1.take kn)).size ≤ 3000 := by (have hy1 := encs_size ((R0.drop (gm + 1)).drop j); simp only [List.length_drop] at hy1; rw [ByteArray.size_append]; omega)
                  refine SCode.skip ?_
                  show SCode _ _ _ _
                  refine SCode.seq ?_
                  refine SCode.block ?_
                  refine SCode.seq ?_
                  refine SCode.drawPure mixed_ [(91, DLs a), (92, DP ons ml mr), (93, DRunes (R0.drop (gm + 1))), (94, .v (.int .i64 (j : Int))), (95, DRunes ((R0.drop (gm + 1)).drop j)), (96, .v (.string (encs ((R0.drop (gm + 1)).drop j)))), (97, DRunes (R1.take kn)), (98, .v (.string (encs (R1.take kn)))), (99, .v (.string (encs ((R0.drop (gm + 1)).drop j) ++ encs (R1.take kn)))), (100, .v (.bool (onset a ons (encs ((R0.drop (gm + 1)).drop j) ++ encs (R1.take kn)))))] [91, 92, 93, 94, 95, 96, 97, 98, 99, 100] [[.inr 0], [.inr 4], [.inr 13], [.inr 14], [.inl 2, .inl 3], [.inl 4], [.inr 12], [.inl 6], [.inl 5, .inl 7], [.inl 0, .inl 1, .inl 8]] [[(0, DLs a)], [(4, .ipin [DOns ons, .v (.int .i64 ml), .v (.int .i64 mr)])], [(13, DRunes (R0.drop (gm + 1)))], [(14, .v (.int .i64 (j : Int)))], [(93, DRunes (R0.drop (gm + 1))), (94, .v (.int .i64 (j : Int)))], [(95, DRunes ((R0.drop (gm + 1)).drop j))], [(12, DRunes (R1.take kn))], [(97, DRunes (R1.take kn))], [(96, .v (.string (encs ((R0.drop (gm + 1)).drop j)))), (98, .v (.string (encs (R1.take kn))))], [(91, DLs a), (92, DP ons ml mr), (99, .v (.string (encs ((R0.drop (gm + 1)).drop j) ++ encs (R1.take kn))))]] rfl (by kernel_rfl) (by kernel_rfl) rfl ?_ ?_
                  · refine OpsOk.cons (fun rest => ?_) ?_
                    · refine SOps.move rfl ?_
                      exact SOps.nil (by first | rfl | simp_all)
                    refine OpsOk.cons (fun rest => ?_) ?_
                    · refine SOps.loadPinA rfl aggB_24_3 (Nat.le_of_ble_eq_true rfl) ?_
                      exact SOps.nil (by first | rfl | simp_all)
                    refine OpsOk.cons (fun rest => ?_) ?_
                    · refine SOps.move rfl ?_
                      exact SOps.nil (by first | rfl | simp_all)
                    refine OpsOk.cons (fun rest => ?_) ?_
                    · refine SOps.move rfl ?_
                      exact SOps.nil (by first | rfl | simp_all)
                    refine OpsOk.cons (fun rest => ?_) ?_
                    · refine SOps.sliceD (n1 := 0) (j) sliceB_40_21_1 rfl rfl (by first | omega | (simp only [lenB]; omega)) (by first | omega | (simp only [lenB]; omega)) ?_
                      exact SOps.nil (by first | rfl | simp_all)
                    refine OpsOk.cons (fun rest => ?_) ?_
                    · refine SOps.convRunesStr rfl sliceB_40_21_1 intB_21_i32 strB_9 (by simp [lenB] <;> (first | omega | (simp only [lenB]; omega))) ?_
                      exact SOps.nil (by first | rfl | simp_all)
                    refine OpsOk.cons (fun rest => ?_) ?_
                    · refine SOps.move rfl ?_
                      exact SOps.nil (by first | rfl | simp_all)
                    refine OpsOk.cons (fun rest => ?_) ?_
                    · refine SOps.convRunesStr rfl sliceB_40_21_1 intB_21_i32 strB_9 (by simp [lenB] <;> (first | omega | (simp only [lenB]; omega))) ?_
                      exact SOps.nil (by first | rfl | simp_all)
                    refine OpsOk.cons (fun rest => ?_) ?_
                    · refine SOps.concat rfl rfl (by simp only [lenB]; have hy1 := encs_size ((R0.drop (gm + 1)).drop j); have hy2 := encs_size (R1.take kn); simp only [List.length_drop, List.length_take] at hy1 hy2; omega) ?_
                      exact SOps.nil (by first | rfl | simp_all)
                    refine OpsOk.cons (fun rest => ?_) ?_
                    · refine SOps.callP (sOnset _ _ _ _ _ (by omega)) rfl ?_
                      rintro _ rfl
                      exact SOps.nil (by first | rfl | simp_all)
                    exact OpsOk.nil
                  · show SCode _ _ _ _
                    refine SCode.cond rfl (fun hc7 => ?_) (fun hc7 => ?_)
                    · try simp only [decide_eq_true_eq, decide_eq_false_iff_not, Bool.not_eq_true', Bool.not_eq_false', beq_iff_eq, bne_iff_ne, ne_eq, beq_eq_false_iff_ne, bne_eq_false_iff_eq, Int.not_lt, Int.not_le, Nat.not_lt, Nat.not_le, Int.ofNat_lt, Int.ofNat_le, Bool.not_eq_eq_eq_not, Bool.not_true, Bool.not_false] at hc7
                      exact absurd (hc7.symm.trans (hlong j hj3)) (by simp)
                    · try simp only [decide_eq_true_eq, decide_eq_false_iff_not, Bool.not_eq_true', Bool.not_eq_false', beq_iff_eq, bne_iff_ne, ne_eq, beq_eq_false_iff_ne, bne_eq_false_iff_eq, Int.not_lt, Int.not_le, Nat.not_lt, Nat.not_le, Int.ofNat_lt, Int.ofNat_le, Bool.not_eq_eq_eq_not, Bool.not_true, Bool.not_false] at hc7
                      refine SCode.skip ?_
                      show SCode _ _ _ _
                      refine SCode.region ?_
                      refine SOps.move rfl ?_
                      refine SOps.addI rfl rfl (by first | omega | (simp only [lenB]; omega)) (by first | omega | (simp only [lenB]; omega)) ?_
                      refine SOps.assign rfl ?_
                      refine SOps.nil ?_
                      exact ⟨j + 1, by omega, by omega, (St.Le.of ⟨(by first | rfl | (show some _ = some _; simp)), (by first | rfl | (show some _ = some _; simp)), (by first | rfl | (show some _ = some _; simp)), (by first | rfl | (show some _ = some _; simp)), (by first | rfl | (show some _ = some _; simp)), (by first | rfl | (show some _ = some _; simp)), (by first | rfl | (show some _ = some _; simp)), trivial⟩ rfl (by first | rfl | (simp)))⟩
                · try simp only [decide_eq_true_eq, decide_eq_false_iff_not, Bool.not_eq_true', Bool.not_eq_false', beq_iff_eq, bne_iff_ne, ne_eq, beq_eq_false_iff_ne, bne_eq_false_iff_eq, Int.not_lt, Int.not_le, Nat.not_lt, Nat.not_le, Int.ofNat_lt, Int.ofNat_le, Bool.not_eq_eq_eq_not, Bool.not_true, Bool.not_false] at hc6
                  refine SCode.exit ?_
                  show SCode _ _ _ _
                  refine SCode.region ?_
                  refine SOps.move rfl ?_
                  refine SOps.addI rfl rfl (by first | omega | (simp only [lenB]; omega)) (by first | omega | (simp only [lenB]; omega)) ?_
                  refine SOps.assign rfl ?_
                  refine SOps.nil ?_
                  exact ⟨i + 1, by exact ⟨by omega, by omega⟩, by omega, (St.Le.of ⟨(by first | rfl | (show some _ = some _; simp)), (by first | rfl | (show some _ = some _; simp)), (by first | rfl | (show some _ = some _; simp)), (by first | rfl | (show some _ = some _; simp)), trivial⟩ rfl (by first | rfl | (simp)))⟩
    · try simp only [decide_eq_true_eq, decide_eq_false_iff_not, Bool.not_eq_true', Bool.not_eq_false', beq_iff_eq, bne_iff_ne, ne_eq, beq_eq_false_iff_ne, bne_eq_false_iff_eq, Int.not_lt, Int.not_le, Nat.not_lt, Nat.not_le, Int.ofNat_lt, Int.ofNat_le, Bool.not_eq_eq_eq_not, Bool.not_true, Bool.not_false] at hc2
      refine SCode.exit ?_
      show SCode _ _ _ _
      refine SCode.seqR ?_
      refine SOps.assign rfl ?_
      refine SOps.nil ?_
      refine SCode.ret ?_
      exact ⟨_, Res.one (.tmp rfl), rfl, rfl⟩
end Go.GH
