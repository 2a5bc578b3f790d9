/-
  The walks of the functions on rules, second part. No conditions.
-/
import Derived.Test.YtjcihlpjlpackaaDoorPc
set_option linter.unusedVariables false
set_option linter.unusedSimpArgs false
namespace Go.GH
open Go Go.Proofs
variable {E : Env}
theorem rSites0 (hV : VS E) (a : List Letter) (r : Rule) (s : ByteArray) (hr : SmR r) (hs : s.size ≤ 1048576) : GCall Tryd.prog E 17 [DLs a, .agg (encR r), .v (.string s)] [] (fun d H => d = (if okR a r s then DNats (sitesF (siteB a r (runes s)) (runes s)) else .v (.slice none 0 0)) ∧ H = []) := by
  refine GCall.body (C := ⟨Tryd.prog, E, true⟩) Tryd.func17 rfl (fun _ => rfl) (by kernel_rfl) rfl ?_
  refine SCode.seqR ?_
  refine SOps.boxAM rfl rfl ?_
  refine SOps.assign rfl ?_
  refine SOps.nil ?_
  refine SCode.scope ?_
  refine SCode.seq ?_
  refine SCode.seqR ?_
  refine SOps.move rfl ?_
  refine SOps.loadPinA rfl aggB_25_6 (Nat.le_of_ble_eq_true rfl) ?_
  refine SOps.callP (rValid hV _ _ (by assumption)) rfl ?_
  rintro _ rfl
  refine SOps.un rfl rfl ?_
  refine SOps.move rfl ?_
  refine SOps.caseB 15 rfl (fun hb1 => ?_) (fun hb1 => ?_)
  · try simp only [decide_eq_true_eq, decide_eq_false_iff_not, Bool.not_eq_true', Bool.not_eq_false', beq_iff_eq, bne_iff_ne, ne_eq, beq_eq_false_iff_ne, bne_eq_false_iff_eq, Int.not_lt, Int.not_le, Nat.not_lt, Nat.not_le, Int.ofNat_lt, Int.ofNat_le, Bool.not_eq_eq_eq_not, Bool.not_true, Bool.not_false] at hb1
    refine SOps.skip rfl ?_
    refine SOps.skip rfl ?_
    refine SOps.skip rfl ?_
    refine SOps.skip rfl ?_
    refine SOps.pick rfl rfl ?_
    refine SOps.nil ?_
    refine SCode.cond rfl (fun _ => ?_) (fun h => by cases h)
    refine SCode.seqR ?_
    refine SOps.assign rfl ?_
    refine SOps.nil ?_
    refine SCode.ret ?_
    exact ⟨_, Res.one (.tmp rfl), by first | (rw [if_neg (by simp_all [okR])]; done) | (rw [if_pos hok, ← ho]; rfl), rfl⟩
  · try simp only [decide_eq_true_eq, decide_eq_false_iff_not, Bool.not_eq_true', Bool.not_eq_false', beq_iff_eq, bne_iff_ne, ne_eq, beq_eq_false_iff_ne, bne_eq_false_iff_eq, Int.not_lt, Int.not_le, Nat.not_lt, Nat.not_le, Int.ofNat_lt, Int.ofNat_le, Bool.not_eq_eq_eq_not, Bool.not_true, Bool.not_false] at hb1
    refine SOps.move rfl ?_
    refine SOps.move rfl ?_
    refine SOps.callP (lIsWord hV _ _) rfl ?_
    rintro _ rfl
    refine SOps.un rfl rfl ?_
    refine SOps.pick rfl rfl ?_
    refine SOps.nil ?_
    refine SCode.cond rfl (fun hc2 => ?_) (fun hc2 => ?_)
    · try simp only [decide_eq_true_eq, decide_eq_false_iff_not, Bool.not_eq_true', Bool.not_eq_false', beq_iff_eq, bne_iff_ne, ne_eq, beq_eq_false_iff_ne, bne_eq_false_iff_eq, Int.not_lt, Int.not_le, Nat.not_lt, Nat.not_le, Int.ofNat_lt, Int.ofNat_le, Bool.not_eq_eq_eq_not, Bool.not_true, Bool.not_false] at hc2
      refine SCode.seqR ?_
      refine SOps.assign rfl ?_
      refine SOps.nil ?_
      refine SCode.ret ?_
      exact ⟨_, Res.one (.tmp rfl), by first | (rw [if_neg (by simp_all [okR])]; done) | (rw [if_pos hok, ← ho]; rfl), rfl⟩
    · try simp only [decide_eq_true_eq, decide_eq_false_iff_not, Bool.not_eq_true', Bool.not_eq_false', beq_iff_eq, bne_iff_ne, ne_eq, beq_eq_false_iff_ne, bne_eq_false_iff_eq, Int.not_lt, Int.not_le, Nat.not_lt, Nat.not_le, Int.ofNat_lt, Int.ofNat_le, Bool.not_eq_eq_eq_not, Bool.not_true, Bool.not_false] at hc2
      refine SCode.skip ?_
      show SCode _ _ _ _
      refine SCode.seqR ?_
      refine SOps.move rfl ?_
      refine SOps.runesF rfl rfl strB_9 sliceB_35_21_1 intB_21_i32 ?_
      refine SOps.assign rfl ?_
      refine SOps.nil ?_
      refine SCode.seqR ?_
      refine SOps.assign rfl ?_
      refine SOps.nil ?_
      refine SCode.seq ?_
      refine SCode.label ?_
      show SCode _ _ _ _
      refine SCode.seq ?_
      refine SCode.seqR ?_
      refine SOps.assign rfl ?_
      refine SOps.nil ?_
      refine SCode.block ?_
      have hok : okR a r s = true := by simp_all [okR]
      have hw40 : (runes s).length ≤ 40 := by have h40 : consS a 40 s = true := (by simp_all); rw [consS_eq] at h40; simp only [Bool.and_eq_true, decide_eq_true_eq] at h40; exact h40.1.2
      refine SCode.loop3 (fun (i : Nat) (out : List Nat) (k : Nat) => (⟨69, [(0, DLs a), (4, .ipin (encR r)), (7, DRunes (runes s)), (8, accD 1 k (out.map encN)), (9, .v (.int .i64 (i : Int)))], accH 3 1 k (out.map encN) ++ []⟩ : St)) (fun (i : Nat) (out : List Nat) (k : Nat) => i ≤ (runes s).length + 1 ∧ (List.range i).filter (siteB a r (runes s)) = out) (fun (i : Nat) (out : List Nat) (k : Nat) => (runes s).length + 1 - i) (0) ([]) (0) (by exact ⟨Nat.zero_le _, rfl⟩) (St.Le.of ⟨(by first | rfl | (show some _ = some _; simp)), (by first | rfl | (show some _ = some _; simp)), (by first | rfl | (show some _ = some _; simp)), (by first | rfl | (show some _ = some _; simp)), (by first | rfl | (show some _ = some _; simp)), trivial⟩ rfl (by first | rfl | (simp))) ?_
      rintro i out k ⟨hi, ho⟩
      have hol := filter_len (siteB a r (runes s)) i
      rw [ho] at hol
      refine SCode.seq ?_
      refine SCode.seqR ?_
      refine SOps.move rfl ?_
      refine SOps.move rfl ?_
      refine SOps.lenM rfl sliceB_35_21_1 ?_
      refine SOps.bin rfl rfl rfl ?_
      refine SOps.nil ?_
      refine SCode.cond rfl (fun hc3 => ?_) (fun hc3 => ?_)
      · try simp only [decide_eq_true_eq, decide_eq_false_iff_not, Bool.not_eq_true', Bool.not_eq_false', beq_iff_eq, bne_iff_ne, ne_eq, beq_eq_false_iff_ne, bne_eq_false_iff_eq, Int.not_lt, Int.not_le, Nat.not_lt, Nat.not_le, Int.ofNat_lt, Int.ofNat_le, Bool.not_eq_eq_eq_not, Bool.not_true, Bool.not_false] at hc3
        refine SCode.skip ?_
        show SCode _ _ _ _
        refine SCode.seq ?_
        refine SCode.block ?_
        refine SCode.seqR ?_
        refine SOps.move rfl ?_
        refine SOps.assign rfl ?_
        refine SOps.nil ?_
        refine SCode.seq ?_
        refine SCode.seqR ?_
        refine SOps.fieldPin rfl fieldB_25_0_0 ?_
        refine SOps.loadPin rfl flatB_21 ?_
        refine SOps.bin rfl rfl rfl ?_
        refine SOps.nil ?_
        refine SCode.cond rfl (fun hc4 => ?_) (fun hc4 => ?_)
        · try simp only [decide_eq_true_eq, decide_eq_false_iff_not, Bool.not_eq_true', Bool.not_eq_false', beq_iff_eq, bne_iff_ne, ne_eq, beq_eq_false_iff_ne, bne_eq_false_iff_eq, Int.not_lt, Int.not_le, Nat.not_lt, Nat.not_le, Int.ofNat_lt, Int.ofNat_le, Bool.not_eq_eq_eq_not, Bool.not_true, Bool.not_false] at hc4
          refine SCode.seq ?_
          refine SCode.seq ?_
          rcases (show i = (runes s).length ∨ i < (runes s).length from by omega) with hq | hq
          · refine SCode.drawPure mixed_ [(33, .v (.int .i64 (i : Int))), (34, DRunes (runes s)), (35, .v (.int .i64 (((runes s).length : Nat) : Int))), (36, .v (.bool true)), (37, .v (.bool true)), (38, .v (.tuple #[])), (39, .v (.tuple #[])), (40, .v (.tuple #[])), (41, .v (.tuple #[])), (42, .v (.tuple #[])), (43, .v (.tuple #[])), (44, .v (.tuple #[])), (45, .v (.bool true))] [33, 34, 35, 36, 37, 38, 39, 40, 41, 42, 43, 44, 45] [[.inr 9], [.inr 7], [.inl 1], [.inl 0, .inl 2], [.inl 3], [.inl 4], [.inl 4], [.inl 4], [.inl 4], [.inl 4], [.inl 4], [.inl 4], [.inl 4, .inl 11]] [[(9, .v (.int .i64 (i : Int)))], [(7, DRunes (runes s))], [(34, DRunes (runes s))], [(33, .v (.int .i64 (i : Int))), (35, .v (.int .i64 (((runes s).length : Nat) : Int)))], [(36, .v (.bool true))], [(37, .v (.bool true))], [(37, .v (.bool true))], [(37, .v (.bool true))], [(37, .v (.bool true))], [(37, .v (.bool true))], [(37, .v (.bool true))], [(37, .v (.bool true))], [(37, .v (.bool true)), (44, .v (.tuple #[]))]] rfl (by kernel_rfl) (by kernel_rfl) rfl ?_ ?_
            · refine OpsOk.cons (fun rest => ?_) ?_
              · refine SOps.move rfl ?_
                exact SOps.nil (by first | rfl | simp_all)
              refine OpsOk.cons (fun rest => ?_) ?_
              · refine SOps.move rfl ?_
                exact SOps.nil (by first | rfl | simp_all)
              refine OpsOk.cons (fun rest => ?_) ?_
              · refine SOps.lenM rfl sliceB_35_21_1 ?_
                exact SOps.nil (by first | rfl | simp_all)
              refine OpsOk.cons (fun rest => ?_) ?_
              · refine SOps.bin rfl rfl rfl ?_
                exact SOps.nil (by exact congrArg (fun b => St.put _ _ (.v (.bool b))) (beq_iff_eq.2 (by omega)))
              refine OpsOk.cons (fun rest => ?_) ?_
              · refine SOps.move rfl ?_
                exact SOps.nil (by first | rfl | simp_all)
              refine OpsOk.cons (fun rest => ?_) ?_
              · refine SOps.skip rfl ?_
                exact SOps.nil (by first | rfl | simp_all)
              refine OpsOk.cons (fun rest => ?_) ?_
              · refine SOps.skip rfl ?_
                exact SOps.nil (by first | rfl | simp_all)
              refine OpsOk.cons (fun rest => ?_) ?_
              · refine SOps.skip rfl ?_
                exact SOps.nil (by first | rfl | simp_all)
              refine OpsOk.cons (fun rest => ?_) ?_
              · refine SOps.skip rfl ?_
                exact SOps.nil (by first | rfl | simp_all)
              refine OpsOk.cons (fun rest => ?_) ?_
              · refine SOps.skip rfl ?_
                exact SOps.nil (by first | rfl | simp_all)
              refine OpsOk.cons (fun rest => ?_) ?_
              · refine SOps.skip rfl ?_
                exact SOps.nil (by first | rfl | simp_all)
              refine OpsOk.cons (fun rest => ?_) ?_
              · refine SOps.skip rfl ?_
                exact SOps.nil (by first | rfl | simp_all)
              refine OpsOk.cons (fun rest => ?_) ?_
              · refine SOps.pick rfl rfl ?_
                exact SOps.nil (by first | rfl | simp_all)
              exact OpsOk.nil
            · show SCode _ _ _ _
              refine SCode.cond rfl (fun _ => ?_) (fun h => by cases h)
              refine SCode.exit ?_
              show SCode _ _ _ _
              refine SCode.region ?_
              refine SOps.move rfl ?_
              refine SOps.addI rfl rfl (by first | omega | (simp only [lenB]; omega)) (by first | omega | (simp only [lenB]; omega)) ?_
              refine SOps.assign rfl ?_
              refine SOps.nil ?_
              first
                | exact ⟨i + 1, out ++ [i], b0, ⟨by omega, by rw [filter_succ, if_pos (by simp_all [siteB]), ho]⟩, by omega, St.Le.of ⟨rfl, rfl, rfl, (by show some _ = some _; rw [List.map_append]; rfl), rfl, trivial⟩ rfl (by rw [List.map_append]; rfl)⟩
                | exact ⟨i + 1, out ++ [i], b1, ⟨by omega, by rw [filter_succ, if_pos (by simp_all [siteB]), ho]⟩, by omega, St.Le.of ⟨rfl, rfl, rfl, (by show some _ = some _; rw [List.map_append]; rfl), rfl, trivial⟩ rfl (by rw [List.map_append]; rfl)⟩
                | exact ⟨i + 1, out, k, ⟨by omega, by rw [filter_succ, if_neg (by simp_all [siteB]), ho, List.append_nil]⟩, by omega, St.Le.of ⟨rfl, rfl, rfl, rfl, rfl, trivial⟩⟩
          · refine SCode.drawPure mixed_ [(33, .v (.int .i64 (i : Int))), (34, DRunes (runes s)), (35, .v (.int .i64 (((runes s).length : Nat) : Int))), (36, .v (.bool false)), (37, .v (.bool false)), (38, DRunes (runes s)), (39, .v (.int .i64 (i : Int))), (40, .ipin (rcell ((runes s)[i]))), (41, .v (.int .i32 ((runes s)[i]))), (42, .ipin ((encR r).drop 0)), (43, .v (.int .i32 r.fr)), (44, .v (.bool (!decide ((runes s)[i] = r.fr)))), (45, .v (.bool (!decide ((runes s)[i] = r.fr))))] [33, 34, 35, 36, 37, 38, 39, 40, 41, 42, 43, 44, 45] [[.inr 9], [.inr 7], [.inl 1], [.inl 0, .inl 2], [.inl 3], [.inl 4, .inr 7], [.inl 4, .inr 9], [.inl 4, .inl 5, .inl 6], [.inl 4, .inl 7], [.inl 4, .inr 4], [.inl 4, .inl 9], [.inl 4, .inl 8, .inl 10], [.inl 4, .inl 11]] [[(9, .v (.int .i64 (i : Int)))], [(7, DRunes (runes s))], [(34, DRunes (runes s))], [(33, .v (.int .i64 (i : Int))), (35, .v (.int .i64 (((runes s).length : Nat) : Int)))], [(36, .v (.bool false))], [(37, .v (.bool false)), (7, DRunes (runes s))], [(37, .v (.bool false)), (9, .v (.int .i64 (i : Int)))], [(37, .v (.bool false)), (38, DRunes (runes s)), (39, .v (.int .i64 (i : Int)))], [(37, .v (.bool false)), (40, .ipin (rcell ((runes s)[i])))], [(37, .v (.bool false)), (4, .ipin (encR r))], [(37, .v (.bool false)), (42, .ipin ((encR r).drop 0))], [(37, .v (.bool false)), (41, .v (.int .i32 ((runes s)[i]))), (43, .v (.int .i32 r.fr))], [(37, .v (.bool false)), (44, .v (.bool (!decide ((runes s)[i] = r.fr))))]] rfl (by kernel_rfl) (by kernel_rfl) rfl ?_ ?_
            · refine OpsOk.cons (fun rest => ?_) ?_
              · refine SOps.move rfl ?_
                exact SOps.nil (by first | rfl | simp_all)
              refine OpsOk.cons (fun rest => ?_) ?_
              · refine SOps.move rfl ?_
                exact SOps.nil (by first | rfl | simp_all)
              refine OpsOk.cons (fun rest => ?_) ?_
              · refine SOps.lenM rfl sliceB_35_21_1 ?_
                exact SOps.nil (by first | rfl | simp_all)
              refine OpsOk.cons (fun rest => ?_) ?_
              · refine SOps.bin rfl rfl rfl ?_
                exact SOps.nil (by exact congrArg (fun b => St.put _ _ (.v (.bool b))) (beq_eq_false_iff_ne.2 (by omega)))
              refine OpsOk.cons (fun rest => ?_) ?_
              · refine SOps.move rfl ?_
                exact SOps.nil (by first | rfl | simp_all)
              refine OpsOk.cons (fun rest => ?_) ?_
              · refine SOps.move rfl ?_
                exact SOps.nil (by first | rfl | simp_all)
              refine OpsOk.cons (fun rest => ?_) ?_
              · refine SOps.move rfl ?_
                exact SOps.nil (by first | rfl | simp_all)
              refine OpsOk.cons (fun rest => ?_) ?_
              · refine SOps.indexM (i) rfl rfl sliceB_35_21_1 (by first | omega | (simp only [lenB]; omega)) (by first | omega | (simp only [lenB]; omega)) ?_
                exact SOps.nil (by first | rfl | simp_all)
              refine OpsOk.cons (fun rest => ?_) ?_
              · refine SOps.loadPin rfl flatB_21 ?_
                exact SOps.nil (by first | rfl | simp_all)
              refine OpsOk.cons (fun rest => ?_) ?_
              · refine SOps.fieldPin rfl fieldB_25_0_0 ?_
                exact SOps.nil (by first | rfl | simp_all)
              refine OpsOk.cons (fun rest => ?_) ?_
              · refine SOps.loadPin rfl flatB_21 ?_
                exact SOps.nil (by first | rfl | simp_all)
              refine OpsOk.cons (fun rest => ?_) ?_
              · refine SOps.bin rfl rfl rfl ?_
                exact SOps.nil (by first | rfl | simp_all)
              refine OpsOk.cons (fun rest => ?_) ?_
              · refine SOps.pick rfl rfl ?_
                exact SOps.nil (by first | rfl | simp_all)
              exact OpsOk.nil
            · show SCode _ _ _ _
              refine SCode.cond rfl (fun hc5 => ?_) (fun hc5 => ?_)
              · try simp only [decide_eq_true_eq, decide_eq_false_iff_not, Bool.not_eq_true', Bool.not_eq_false', beq_iff_eq, bne_iff_ne, ne_eq, beq_eq_false_iff_ne, bne_eq_false_iff_eq, Int.not_lt, Int.not_le, Nat.not_lt, Nat.not_le, Int.ofNat_lt, Int.ofNat_le, Bool.not_eq_eq_eq_not, Bool.not_true, Bool.not_false] at hc5
                refine SCode.exit ?_
                show SCode _ _ _ _
                refine SCode.region ?_
                refine SOps.move rfl ?_
                refine SOps.addI rfl rfl (by first | omega | (simp only [lenB]; omega)) (by first | omega | (simp only [lenB]; omega)) ?_
                refine SOps.assign rfl ?_
                refine SOps.nil ?_
                first
                  | exact ⟨i + 1, out ++ [i], b0, ⟨by omega, by rw [filter_succ, if_pos (by simp_all [siteB]), ho]⟩, by omega, St.Le.of ⟨rfl, rfl, rfl, (by show some _ = some _; rw [List.map_append]; rfl), rfl, trivial⟩ rfl (by rw [List.map_append]; rfl)⟩
                  | exact ⟨i + 1, out ++ [i], b1, ⟨by omega, by rw [filter_succ, if_pos (by simp_all [siteB]), ho]⟩, by omega, St.Le.of ⟨rfl, rfl, rfl, (by show some _ = some _; rw [List.map_append]; rfl), rfl, trivial⟩ rfl (by rw [List.map_append]; rfl)⟩
                  | exact ⟨i + 1, out, k, ⟨by omega, by rw [filter_succ, if_neg (by simp_all [siteB]), ho, List.append_nil]⟩, by omega, St.Le.of ⟨rfl, rfl, rfl, rfl, rfl, trivial⟩⟩
              · try simp only [decide_eq_true_eq, decide_eq_false_iff_not, Bool.not_eq_true', Bool.not_eq_false', beq_iff_eq, bne_iff_ne, ne_eq, beq_eq_false_iff_ne, bne_eq_false_iff_eq, Int.not_lt, Int.not_le, Nat.not_lt, Nat.not_le, Int.ofNat_lt, Int.ofNat_le, Bool.not_eq_eq_eq_not, Bool.not_true, Bool.not_false] at hc5
                refine SCode.skip ?_
                show SCode _ _ _ _
                refine SCode.region ?_
                refine SOps.move rfl ?_
                refine SOps.addI rfl rfl (by first | omega | (simp only [lenB]; omega)) (by first | omega | (simp only [lenB]; omega)) ?_
                refine SOps.assign rfl ?_
                refine SOps.nil ?_
                show SCode _ _ _ _
                refine SCode.seq ?_
                have hz1 := encs_take_size (runes s) i hw40
                have hz2 := encs_drop_size (runes s) (i + 1) hw40
                rcases hq3 : followsR a r (encs ((runes s).take i)) with _ | _
                · refine SCode.drawPure mixed_ [(48, DLs a), (49, .agg (encR r)), (50, DRunes (runes s)), (51, .v (.int .i64 (i : Int))), (52, DRunes ((runes s).take i)), (53, .v (.string (encs ((runes s).take i)))), (54, .v (.bool false)), (55, .v (.bool false)), (56, .v (.tuple #[])), (57, .v (.tuple #[])), (58, .v (.tuple #[])), (59, .v (.tuple #[])), (60, .v (.tuple #[])), (61, .v (.tuple #[])), (62, .v (.tuple #[])), (63, .v (.bool false))] [48, 49, 50, 51, 52, 53, 54, 55, 56, 57, 58, 59, 60, 61, 62, 63] [[.inr 0], [.inr 4], [.inr 7], [.inr 9], [.inl 2, .inl 3], [.inl 4], [.inl 0, .inl 1, .inl 5], [.inl 6], [.inl 7], [.inl 7], [.inl 7], [.inl 7], [.inl 7], [.inl 7], [.inl 7], [.inl 7, .inl 14]] [[(0, DLs a)], [(4, .ipin (encR r))], [(7, DRunes (runes s))], [(9, .v (.int .i64 (i : Int)))], [(50, DRunes (runes s)), (51, .v (.int .i64 (i : Int)))], [(52, DRunes ((runes s).take i))], [(48, DLs a), (49, .agg (encR r)), (53, .v (.string (encs ((runes s).take i))))], [(54, .v (.bool false))], [(55, .v (.bool false))], [(55, .v (.bool false))], [(55, .v (.bool false))], [(55, .v (.bool false))], [(55, .v (.bool false))], [(55, .v (.bool false))], [(55, .v (.bool false))], [(55, .v (.bool false)), (62, .v (.tuple #[]))]] rfl (by kernel_rfl) (by kernel_rfl) rfl ?_ ?_
                  · refine OpsOk.cons (fun rest => ?_) ?_
                    · refine SOps.move rfl ?_
                      exact SOps.nil (by first | rfl | simp_all)
                    refine OpsOk.cons (fun rest => ?_) ?_
                    · refine SOps.loadPinA rfl aggB_25_6 (Nat.le_of_ble_eq_true rfl) ?_
                      exact SOps.nil (by first | rfl | simp_all)
                    refine OpsOk.cons (fun rest => ?_) ?_
                    · refine SOps.move rfl ?_
                      exact SOps.nil (by first | rfl | simp_all)
                    refine OpsOk.cons (fun rest => ?_) ?_
                    · refine SOps.move rfl ?_
                      exact SOps.nil (by first | rfl | simp_all)
                    refine OpsOk.cons (fun rest => ?_) ?_
                    · refine SOps.sliceT (n1 := 0) (i) sliceB_35_21_1 rfl rfl (by first | omega | (simp only [lenB]; omega)) (by first | omega | (simp only [lenB]; omega)) ?_
                      exact SOps.nil (by first | rfl | simp_all)
                    refine OpsOk.cons (fun rest => ?_) ?_
                    · refine SOps.convRunesStr rfl sliceB_35_21_1 intB_21_i32 strB_9 (by simp [lenB] <;> (first | omega | (simp only [lenB]; omega))) ?_
                      exact SOps.nil (by first | rfl | simp_all)
                    refine OpsOk.cons (fun rest => ?_) ?_
                    · refine SOps.callP (rFollows hV _ _ _ hr hz1) rfl ?_
                      rintro _ rfl
                      exact SOps.nil (by exact congrArg (fun b => St.put _ _ (.v (.bool b))) hq3)
                    refine OpsOk.cons (fun rest => ?_) ?_
                    · refine SOps.move rfl ?_
                      exact SOps.nil (by first | rfl | simp_all)
                    refine OpsOk.cons (fun rest => ?_) ?_
                    · refine SOps.skip rfl ?_
                      exact SOps.nil (by first | rfl | simp_all)
                    refine OpsOk.cons (fun rest => ?_) ?_
                    · refine SOps.skip rfl ?_
                      exact SOps.nil (by first | rfl | simp_all)
                    refine OpsOk.cons (fun rest => ?_) ?_
                    · refine SOps.skip rfl ?_
                      exact SOps.nil (by first | rfl | simp_all)
                    refine OpsOk.cons (fun rest => ?_) ?_
                    · refine SOps.skip rfl ?_
                      exact SOps.nil (by first | rfl | simp_all)
                    refine OpsOk.cons (fun rest => ?_) ?_
                    · refine SOps.skip rfl ?_
                      exact SOps.nil (by first | rfl | simp_all)
                    refine OpsOk.cons (fun rest => ?_) ?_
                    · refine SOps.skip rfl ?_
                      exact SOps.nil (by first | rfl | simp_all)
                    refine OpsOk.cons (fun rest => ?_) ?_
                    · refine SOps.skip rfl ?_
                      exact SOps.nil (by first | rfl | simp_all)
                    refine OpsOk.cons (fun rest => ?_) ?_
                    · refine SOps.pick rfl rfl ?_
                      exact SOps.nil (by first | rfl | simp_all)
                    exact OpsOk.nil
                  · show SCode _ _ _ _
                    refine SCode.cond rfl (fun h => by cases h) (fun _ => ?_)
                    refine SCode.skip ?_
                    show SCode _ _ _ _
                    refine SCode.region ?_
                    refine SOps.move rfl ?_
                    refine SOps.addI rfl rfl (by first | omega | (simp only [lenB]; omega)) (by first | omega | (simp only [lenB]; omega)) ?_
                    refine SOps.assign rfl ?_
                    refine SOps.nil ?_
                    first
                      | exact ⟨i + 1, out ++ [i], b0, ⟨by omega, by rw [filter_succ, if_pos (by simp_all [siteB]), ho]⟩, by omega, St.Le.of ⟨rfl, rfl, rfl, (by show some _ = some _; rw [List.map_append]; rfl), rfl, trivial⟩ rfl (by rw [List.map_append]; rfl)⟩
                      | exact ⟨i + 1, out ++ [i], b1, ⟨by omega, by rw [filter_succ, if_pos (by simp_all [siteB]), ho]⟩, by omega, St.Le.of ⟨rfl, rfl, rfl, (by show some _ = some _; rw [List.map_append]; rfl), rfl, trivial⟩ rfl (by rw [List.map_append]; rfl)⟩
                      | exact ⟨i + 1, out, k, ⟨by omega, by rw [filter_succ, if_neg (by simp_all [siteB]), ho, List.append_nil]⟩, by omega, St.Le.of ⟨rfl, rfl, rfl, rfl, rfl, trivial⟩⟩
                · refine SCode.drawPure mixed_ [(48, DLs a), (49, .agg (encR r)), (50, DRunes (runes s)), (51, .v (.int .i64 (i : Int))), (52, DRunes ((runes s).take i)), (53, .v (.string (encs ((runes s).take i)))), (54, .v (.bool true)), (55, .v (.bool true)), (56, DLs a), (57, .agg (encR r)), (58, DRunes (runes s)), (59, .v (.int .i64 ((i : Int) + 1))), (60, DRunes ((runes s).drop (i + 1))), (61, .v (.string (encs ((runes s).drop (i + 1))))), (62, .v (.bool (precedesR a r (encs ((runes s).drop (i + 1)))))), (63, .v (.bool (precedesR a r (encs ((runes s).drop (i + 1))))))] [48, 49, 50, 51, 52, 53, 54, 55, 56, 57, 58, 59, 60, 61, 62, 63] [[.inr 0], [.inr 4], [.inr 7], [.inr 9], [.inl 2, .inl 3], [.inl 4], [.inl 0, .inl 1, .inl 5], [.inl 6], [.inl 7, .inr 0], [.inl 7, .inr 4], [.inl 7, .inr 7], [.inl 7, .inr 10], [.inl 7, .inl 10, .inl 11], [.inl 7, .inl 12], [.inl 7, .inl 8, .inl 9, .inl 13], [.inl 7, .inl 14]] [[(0, DLs a)], [(4, .ipin (encR r))], [(7, DRunes (runes s))], [(9, .v (.int .i64 (i : Int)))], [(50, DRunes (runes s)), (51, .v (.int .i64 (i : Int)))], [(52, DRunes ((runes s).take i))], [(48, DLs a), (49, .agg (encR r)), (53, .v (.string (encs ((runes s).take i))))], [(54, .v (.bool true))], [(55, .v (.bool true)), (0, DLs a)], [(55, .v (.bool true)), (4, .ipin (encR r))], [(55, .v (.bool true)), (7, DRunes (runes s))], [(55, .v (.bool true)), (10, .v (.int .i64 ((i : Int) + 1)))], [(55, .v (.bool true)), (58, DRunes (runes s)), (59, .v (.int .i64 ((i : Int) + 1)))], [(55, .v (.bool true)), (60, DRunes ((runes s).drop (i + 1)))], [(55, .v (.bool true)), (56, DLs a), (57, .agg (encR r)), (61, .v (.string (encs ((runes s).drop (i + 1)))))], [(55, .v (.bool true)), (62, .v (.bool (precedesR a r (encs ((runes s).drop (i + 1))))))]] rfl (by kernel_rfl) (by kernel_rfl) rfl ?_ ?_
                  · refine OpsOk.cons (fun rest => ?_) ?_
                    · refine SOps.move rfl ?_
                      exact SOps.nil (by first | rfl | simp_all)
                    refine OpsOk.cons (fun rest => ?_) ?_
                    · refine SOps.loadPinA rfl aggB_25_6 (Nat.le_of_ble_eq_true rfl) ?_
                      exact SOps.nil (by first | rfl | simp_all)
                    refine OpsOk.cons (fun rest => ?_) ?_
                    · refine SOps.move rfl ?_
                      exact SOps.nil (by first | rfl | simp_all)
                    refine OpsOk.cons (fun rest => ?_) ?_
                    · refine SOps.move rfl ?_
                      exact SOps.nil (by first | rfl | simp_all)
                    refine OpsOk.cons (fun rest => ?_) ?_
                    · refine SOps.sliceT (n1 := 0) (i) sliceB_35_21_1 rfl rfl (by first | omega | (simp only [lenB]; omega)) (by first | omega | (simp only [lenB]; omega)) ?_
                      exact SOps.nil (by first | rfl | simp_all)
                    refine OpsOk.cons (fun rest => ?_) ?_
                    · refine SOps.convRunesStr rfl sliceB_35_21_1 intB_21_i32 strB_9 (by simp [lenB] <;> (first | omega | (simp only [lenB]; omega))) ?_
                      exact SOps.nil (by first | rfl | simp_all)
                    refine OpsOk.cons (fun rest => ?_) ?_
                    · refine SOps.callP (rFollows hV _ _ _ hr hz1) rfl ?_
                      rintro _ rfl
                      exact SOps.nil (by exact congrArg (fun b => St.put _ _ (.v (.bool b))) hq3)
                    refine OpsOk.cons (fun rest => ?_) ?_
                    · refine SOps.move rfl ?_
                      exact SOps.nil (by first | rfl | simp_all)
                    refine OpsOk.cons (fun rest => ?_) ?_
                    · refine SOps.move rfl ?_
                      exact SOps.nil (by first | rfl | simp_all)
                    refine OpsOk.cons (fun rest => ?_) ?_
                    · refine SOps.loadPinA rfl aggB_25_6 (Nat.le_of_ble_eq_true rfl) ?_
                      exact SOps.nil (by first | rfl | simp_all)
                    refine OpsOk.cons (fun rest => ?_) ?_
                    · refine SOps.move rfl ?_
                      exact SOps.nil (by first | rfl | simp_all)
                    refine OpsOk.cons (fun rest => ?_) ?_
                    · refine SOps.move rfl ?_
                      exact SOps.nil (by first | rfl | simp_all)
                    refine OpsOk.cons (fun rest => ?_) ?_
                    · refine SOps.sliceD (n1 := 0) (i + 1) sliceB_35_21_1 rfl rfl (by first | omega | (simp only [lenB]; omega)) (by first | omega | (simp only [lenB]; omega)) ?_
                      exact SOps.nil (by first | rfl | simp_all)
                    refine OpsOk.cons (fun rest => ?_) ?_
                    · refine SOps.convRunesStr rfl sliceB_35_21_1 intB_21_i32 strB_9 (by simp [lenB] <;> (first | omega | (simp only [lenB]; omega))) ?_
                      exact SOps.nil (by first | rfl | simp_all)
                    refine OpsOk.cons (fun rest => ?_) ?_
                    · refine SOps.callP (rPrecedes hV _ _ _ hr hz2) rfl ?_
                      rintro _ rfl
                      exact SOps.nil (by first | rfl | simp_all)
                    refine OpsOk.cons (fun rest => ?_) ?_
                    · refine SOps.pick rfl rfl ?_
                      exact SOps.nil (by first | rfl | simp_all)
                    exact OpsOk.nil
                  · show SCode _ _ _ _
                    refine SCode.cond rfl (fun hc6 => ?_) (fun hc6 => ?_)
                    · try simp only [decide_eq_true_eq, decide_eq_false_iff_not, Bool.not_eq_true', Bool.not_eq_false', beq_iff_eq, bne_iff_ne, ne_eq, beq_eq_false_iff_ne, bne_eq_false_iff_eq, Int.not_lt, Int.not_le, Nat.not_lt, Nat.not_le, Int.ofNat_lt, Int.ofNat_le, Bool.not_eq_eq_eq_not, Bool.not_true, Bool.not_false] at hc6
                      refine SCode.region ?_
                      refine SOps.move rfl ?_
                      refine SOps.move rfl ?_
                      refine SOps.litF rfl sliceB_30_3_1 zeroIs_3 rfl ?_
                      refine SOps.appendAcc [] [] sliceB_30_3_1 elemB_3_1_8 rfl rfl rfl SrcD.isl (by simp) (by simp [lenB] <;> (first | omega | (simp only [lenB]; omega))) (by simp <;> (first | omega | (simp only [lenB]; omega))) (fun b0 => ?_)
                      refine SOps.assign rfl ?_
                      refine SOps.nil ?_
                      show SCode _ _ _ _
                      refine SCode.region ?_
                      refine SOps.move rfl ?_
                      refine SOps.addI rfl rfl (by first | omega | (simp only [lenB]; omega)) (by first | omega | (simp only [lenB]; omega)) ?_
                      refine SOps.assign rfl ?_
                      refine SOps.nil ?_
                      first
                        | exact ⟨i + 1, out ++ [i], b0, ⟨by omega, by rw [filter_succ, if_pos (by simp_all [siteB]), ho]⟩, by omega, St.Le.of ⟨rfl, rfl, rfl, (by show some _ = some _; rw [List.map_append]; rfl), rfl, trivial⟩ rfl (by rw [List.map_append]; rfl)⟩
                        | exact ⟨i + 1, out ++ [i], b1, ⟨by omega, by rw [filter_succ, if_pos (by simp_all [siteB]), ho]⟩, by omega, St.Le.of ⟨rfl, rfl, rfl, (by show some _ = some _; rw [List.map_append]; rfl), rfl, trivial⟩ rfl (by rw [List.map_append]; rfl)⟩
                        | exact ⟨i + 1, out, k, ⟨by omega, by rw [filter_succ, if_neg (by simp_all [siteB]), ho, List.append_nil]⟩, by omega, St.Le.of ⟨rfl, rfl, rfl, rfl, rfl, trivial⟩⟩
                    · try simp only [decide_eq_true_eq, decide_eq_false_iff_not, Bool.not_eq_true', Bool.not_eq_false', beq_iff_eq, bne_iff_ne, ne_eq, beq_eq_false_iff_ne, bne_eq_false_iff_eq, Int.not_lt, Int.not_le, Nat.not_lt, Nat.not_le, Int.ofNat_lt, Int.ofNat_le, Bool.not_eq_eq_eq_not, Bool.not_true, Bool.not_false] at hc6
                      refine SCode.skip ?_
                      show SCode _ _ _ _
                      refine SCode.region ?_
                      refine SOps.move rfl ?_
                      refine SOps.addI rfl rfl (by first | omega | (simp only [lenB]; omega)) (by first | omega | (simp only [lenB]; omega)) ?_
                      refine SOps.assign rfl ?_
                      refine SOps.nil ?_
                      first
                        | exact ⟨i + 1, out ++ [i], b0, ⟨by omega, by rw [filter_succ, if_pos (by simp_all [siteB]), ho]⟩, by omega, St.Le.of ⟨rfl, rfl, rfl, (by show some _ = some _; rw [List.map_append]; rfl), rfl, trivial⟩ rfl (by rw [List.map_append]; rfl)⟩
                        | exact ⟨i + 1, out ++ [i], b1, ⟨by omega, by rw [filter_succ, if_pos (by simp_all [siteB]), ho]⟩, by omega, St.Le.of ⟨rfl, rfl, rfl, (by show some _ = some _; rw [List.map_append]; rfl), rfl, trivial⟩ rfl (by rw [List.map_append]; rfl)⟩
                        | exact ⟨i + 1, out, k, ⟨by omega, by rw [filter_succ, if_neg (by simp_all [siteB]), ho, List.append_nil]⟩, by omega, St.Le.of ⟨rfl, rfl, rfl, rfl, rfl, trivial⟩⟩
        · try simp only [decide_eq_true_eq, decide_eq_false_iff_not, Bool.not_eq_true', Bool.not_eq_false', beq_iff_eq, bne_iff_ne, ne_eq, beq_eq_false_iff_ne, bne_eq_false_iff_eq, Int.not_lt, Int.not_le, Nat.not_lt, Nat.not_le, Int.ofNat_lt, Int.ofNat_le, Bool.not_eq_eq_eq_not, Bool.not_true, Bool.not_false] at hc4
          refine SCode.skip ?_
          show SCode _ _ _ _
          refine SCode.seq ?_
          have hz1 := encs_take_size (runes s) i hw40
          have hz2 := encs_drop_size (runes s) (i) hw40
          rcases hq3 : followsR a r (encs ((runes s).take i)) with _ | _
          · refine SCode.drawPure mixed_ [(48, DLs a), (49, .agg (encR r)), (50, DRunes (runes s)), (51, .v (.int .i64 (i : Int))), (52, DRunes ((runes s).take i)), (53, .v (.string (encs ((runes s).take i)))), (54, .v (.bool false)), (55, .v (.bool false)), (56, .v (.tuple #[])), (57, .v (.tuple #[])), (58, .v (.tuple #[])), (59, .v (.tuple #[])), (60, .v (.tuple #[])), (61, .v (.tuple #[])), (62, .v (.tuple #[])), (63, .v (.bool false))] [48, 49, 50, 51, 52, 53, 54, 55, 56, 57, 58, 59, 60, 61, 62, 63] [[.inr 0], [.inr 4], [.inr 7], [.inr 9], [.inl 2, .inl 3], [.inl 4], [.inl 0, .inl 1, .inl 5], [.inl 6], [.inl 7], [.inl 7], [.inl 7], [.inl 7], [.inl 7], [.inl 7], [.inl 7], [.inl 7, .inl 14]] [[(0, DLs a)], [(4, .ipin (encR r))], [(7, DRunes (runes s))], [(9, .v (.int .i64 (i : Int)))], [(50, DRunes (runes s)), (51, .v (.int .i64 (i : Int)))], [(52, DRunes ((runes s).take i))], [(48, DLs a), (49, .agg (encR r)), (53, .v (.string (encs ((runes s).take i))))], [(54, .v (.bool false))], [(55, .v (.bool false))], [(55, .v (.bool false))], [(55, .v (.bool false))], [(55, .v (.bool false))], [(55, .v (.bool false))], [(55, .v (.bool false))], [(55, .v (.bool false))], [(55, .v (.bool false)), (62, .v (.tuple #[]))]] rfl (by kernel_rfl) (by kernel_rfl) rfl ?_ ?_
            · refine OpsOk.cons (fun rest => ?_) ?_
              · refine SOps.move rfl ?_
                exact SOps.nil (by first | rfl | simp_all)
              refine OpsOk.cons (fun rest => ?_) ?_
              · refine SOps.loadPinA rfl aggB_25_6 (Nat.le_of_ble_eq_true rfl) ?_
                exact SOps.nil (by first | rfl | simp_all)
              refine OpsOk.cons (fun rest => ?_) ?_
              · refine SOps.move rfl ?_
                exact SOps.nil (by first | rfl | simp_all)
              refine OpsOk.cons (fun rest => ?_) ?_
              · refine SOps.move rfl ?_
                exact SOps.nil (by first | rfl | simp_all)
              refine OpsOk.cons (fun rest => ?_) ?_
              · refine SOps.sliceT (n1 := 0) (i) sliceB_35_21_1 rfl rfl (by first | omega | (simp only [lenB]; omega)) (by first | omega | (simp only [lenB]; omega)) ?_
                exact SOps.nil (by first | rfl | simp_all)
              refine OpsOk.cons (fun rest => ?_) ?_
              · refine SOps.convRunesStr rfl sliceB_35_21_1 intB_21_i32 strB_9 (by simp [lenB] <;> (first | omega | (simp only [lenB]; omega))) ?_
                exact SOps.nil (by first | rfl | simp_all)
              refine OpsOk.cons (fun rest => ?_) ?_
              · refine SOps.callP (rFollows hV _ _ _ hr hz1) rfl ?_
                rintro _ rfl
                exact SOps.nil (by exact congrArg (fun b => St.put _ _ (.v (.bool b))) hq3)
              refine OpsOk.cons (fun rest => ?_) ?_
              · refine SOps.move rfl ?_
                exact SOps.nil (by first | rfl | simp_all)
              refine OpsOk.cons (fun rest => ?_) ?_
              · refine SOps.skip rfl ?_
                exact SOps.nil (by first | rfl | simp_all)
              refine OpsOk.cons (fun rest => ?_) ?_
              · refine SOps.skip rfl ?_
                exact SOps.nil (by first | rfl | simp_all)
              refine OpsOk.cons (fun rest => ?_) ?_
              · refine SOps.skip rfl ?_
                exact SOps.nil (by first | rfl | simp_all)
              refine OpsOk.cons (fun rest => ?_) ?_
              · refine SOps.skip rfl ?_
                exact SOps.nil (by first | rfl | simp_all)
              refine OpsOk.cons (fun rest => ?_) ?_
              · refine SOps.skip rfl ?_
                exact SOps.nil (by first | rfl | simp_all)
              refine OpsOk.cons (fun rest => ?_) ?_
              · refine SOps.skip rfl ?_
                exact SOps.nil (by first | rfl | simp_all)
              refine OpsOk.cons (fun rest => ?_) ?_
              · refine SOps.skip rfl ?_
                exact SOps.nil (by first | rfl | simp_all)
              refine OpsOk.cons (fun rest => ?_) ?_
              · refine SOps.pick rfl rfl ?_
                exact SOps.nil (by first | rfl | simp_all)
              exact OpsOk.nil
            · show SCode _ _ _ _
              refine SCode.cond rfl (fun h => by cases h) (fun _ => ?_)
              refine SCode.skip ?_
              show SCode _ _ _ _
              refine SCode.region ?_
              refine SOps.move rfl ?_
              refine SOps.addI rfl rfl (by first | omega | (simp only [lenB]; omega)) (by first | omega | (simp only [lenB]; omega)) ?_
              refine SOps.assign rfl ?_
              refine SOps.nil ?_
              first
                | exact ⟨i + 1, out ++ [i], b0, ⟨by omega, by rw [filter_succ, if_pos (by simp_all [siteB]), ho]⟩, by omega, St.Le.of ⟨rfl, rfl, rfl, (by show some _ = some _; rw [List.map_append]; rfl), rfl, trivial⟩ rfl (by rw [List.map_append]; rfl)⟩
                | exact ⟨i + 1, out ++ [i], b1, ⟨by omega, by rw [filter_succ, if_pos (by simp_all [siteB]), ho]⟩, by omega, St.Le.of ⟨rfl, rfl, rfl, (by show some _ = some _; rw [List.map_append]; rfl), rfl, trivial⟩ rfl (by rw [List.map_append]; rfl)⟩
                | exact ⟨i + 1, out, k, ⟨by omega, by rw [filter_succ, if_neg (by simp_all [siteB]), ho, List.append_nil]⟩, by omega, St.Le.of ⟨rfl, rfl, rfl, rfl, rfl, trivial⟩⟩
          · refine SCode.drawPure mixed_ [(48, DLs a), (49, .agg (encR r)), (50, DRunes (runes s)), (51, .v (.int .i64 (i : Int))), (52, DRunes ((runes s).take i)), (53, .v (.string (encs ((runes s).take i)))), (54, .v (.bool true)), (55, .v (.bool true)), (56, DLs a), (57, .agg (encR r)), (58, DRunes (runes s)), (59, .v (.int .i64 (i : Int))), (60, DRunes ((runes s).drop (i))), (61, .v (.string (encs ((runes s).drop (i))))), (62, .v (.bool (precedesR a r (encs ((runes s).drop (i)))))), (63, .v (.bool (precedesR a r (encs ((runes s).drop (i))))))] [48, 49, 50, 51, 52, 53, 54, 55, 56, 57, 58, 59, 60, 61, 62, 63] [[.inr 0], [.inr 4], [.inr 7], [.inr 9], [.inl 2, .inl 3], [.inl 4], [.inl 0, .inl 1, .inl 5], [.inl 6], [.inl 7, .inr 0], [.inl 7, .inr 4], [.inl 7, .inr 7], [.inl 7, .inr 10], [.inl 7, .inl 10, .inl 11], [.inl 7, .inl 12], [.inl 7, .inl 8, .inl 9, .inl 13], [.inl 7, .inl 14]] [[(0, DLs a)], [(4, .ipin (encR r))], [(7, DRunes (runes s))], [(9, .v (.int .i64 (i : Int)))], [(50, DRunes (runes s)), (51, .v (.int .i64 (i : Int)))], [(52, DRunes ((runes s).take i))], [(48, DLs a), (49, .agg (encR r)), (53, .v (.string (encs ((runes s).take i))))], [(54, .v (.bool true))], [(55, .v (.bool true)), (0, DLs a)], [(55, .v (.bool true)), (4, .ipin (encR r))], [(55, .v (.bool true)), (7, DRunes (runes s))], [(55, .v (.bool true)), (10, .v (.int .i64 (i : Int)))], [(55, .v (.bool true)), (58, DRunes (runes s)), (59, .v (.int .i64 (i : Int)))], [(55, .v (.bool true)), (60, DRunes ((runes s).drop (i)))], [(55, .v (.bool true)), (56, DLs a), (57, .agg (encR r)), (61, .v (.string (encs ((runes s).drop (i)))))], [(55, .v (.bool true)), (62, .v (.bool (precedesR a r (encs ((runes s).drop (i))))))]] rfl (by kernel_rfl) (by kernel_rfl) rfl ?_ ?_
            · refine OpsOk.cons (fun rest => ?_) ?_
              · refine SOps.move rfl ?_
                exact SOps.nil (by first | rfl | simp_all)
              refine OpsOk.cons (fun rest => ?_) ?_
              · refine SOps.loadPinA rfl aggB_25_6 (Nat.le_of_ble_eq_true rfl) ?_
                exact SOps.nil (by first | rfl | simp_all)
              refine OpsOk.cons (fun rest => ?_) ?_
              · refine SOps.move rfl ?_
                exact SOps.nil (by first | rfl | simp_all)
              refine OpsOk.cons (fun rest => ?_) ?_
              · refine SOps.move rfl ?_
                exact SOps.nil (by first | rfl | simp_all)
              refine OpsOk.cons (fun rest => ?_) ?_
              · refine SOps.sliceT (n1 := 0) (i) sliceB_35_21_1 rfl rfl (by first | omega | (simp only [lenB]; omega)) (by first | omega | (simp only [lenB]; omega)) ?_
                exact SOps.nil (by first | rfl | simp_all)
              refine OpsOk.cons (fun rest => ?_) ?_
              · refine SOps.convRunesStr rfl sliceB_35_21_1 intB_21_i32 strB_9 (by simp [lenB] <;> (first | omega | (simp only [lenB]; omega))) ?_
                exact SOps.nil (by first | rfl | simp_all)
              refine OpsOk.cons (fun rest => ?_) ?_
              · refine SOps.callP (rFollows hV _ _ _ hr hz1) rfl ?_
                rintro _ rfl
                exact SOps.nil (by exact congrArg (fun b => St.put _ _ (.v (.bool b))) hq3)
              refine OpsOk.cons (fun rest => ?_) ?_
              · refine SOps.move rfl ?_
                exact SOps.nil (by first | rfl | simp_all)
              refine OpsOk.cons (fun rest => ?_) ?_
              · refine SOps.move rfl ?_
                exact SOps.nil (by first | rfl | simp_all)
              refine OpsOk.cons (fun rest => ?_) ?_
              · refine SOps.loadPinA rfl aggB_25_6 (Nat.le_of_ble_eq_true rfl) ?_
                exact SOps.nil (by first | rfl | simp_all)
              refine OpsOk.cons (fun rest => ?_) ?_
              · refine SOps.move rfl ?_
                exact SOps.nil (by first | rfl | simp_all)
              refine OpsOk.cons (fun rest => ?_) ?_
              · refine SOps.move rfl ?_
                exact SOps.nil (by first | rfl | simp_all)
              refine OpsOk.cons (fun rest => ?_) ?_
              · refine SOps.sliceD (n1 := 0) (i) sliceB_35_21_1 rfl rfl (by first | omega | (simp only [lenB]; omega)) (by first | omega | (simp only [lenB]; omega)) ?_
                exact SOps.nil (by first | rfl | simp_all)
              refine OpsOk.cons (fun rest => ?_) ?_
              · refine SOps.convRunesStr rfl sliceB_35_21_1 intB_21_i32 strB_9 (by simp [lenB] <;> (first | omega | (simp only [lenB]; omega))) ?_
                exact SOps.nil (by first | rfl | simp_all)
              refine OpsOk.cons (fun rest => ?_) ?_
              · refine SOps.callP (rPrecedes hV _ _ _ hr hz2) rfl ?_
                rintro _ rfl
                exact SOps.nil (by first | rfl | simp_all)
              refine OpsOk.cons (fun rest => ?_) ?_
              · refine SOps.pick rfl rfl ?_
                exact SOps.nil (by first | rfl | simp_all)
              exact OpsOk.nil
            · show SCode _ _ _ _
              refine SCode.cond rfl (fun hc7 => ?_) (fun hc7 => ?_)
              · try simp only [decide_eq_true_eq, decide_eq_false_iff_not, Bool.not_eq_true', Bool.not_eq_false', beq_iff_eq, bne_iff_ne, ne_eq, beq_eq_false_iff_ne, bne_eq_false_iff_eq, Int.not_lt, Int.not_le, Nat.not_lt, Nat.not_le, Int.ofNat_lt, Int.ofNat_le, Bool.not_eq_eq_eq_not, Bool.not_true, Bool.not_false] at hc7
                refine SCode.region ?_
                refine SOps.move rfl ?_
                refine SOps.move rfl ?_
                refine SOps.litF rfl sliceB_30_3_1 zeroIs_3 rfl ?_
                refine SOps.appendAcc [] [] sliceB_30_3_1 elemB_3_1_8 rfl rfl rfl SrcD.isl (by simp) (by simp [lenB] <;> (first | omega | (simp only [lenB]; omega))) (by simp <;> (first | omega | (simp only [lenB]; omega))) (fun b1 => ?_)
                refine SOps.assign rfl ?_
                refine SOps.nil ?_
                show SCode _ _ _ _
                refine SCode.region ?_
                refine SOps.move rfl ?_
                refine SOps.addI rfl rfl (by first | omega | (simp only [lenB]; omega)) (by first | omega | (simp only [lenB]; omega)) ?_
                refine SOps.assign rfl ?_
                refine SOps.nil ?_
                first
                  | exact ⟨i + 1, out ++ [i], b0, ⟨by omega, by rw [filter_succ, if_pos (by simp_all [siteB]), ho]⟩, by omega, St.Le.of ⟨rfl, rfl, rfl, (by show some _ = some _; rw [List.map_append]; rfl), rfl, trivial⟩ rfl (by rw [List.map_append]; rfl)⟩
                  | exact ⟨i + 1, out ++ [i], b1, ⟨by omega, by rw [filter_succ, if_pos (by simp_all [siteB]), ho]⟩, by omega, St.Le.of ⟨rfl, rfl, rfl, (by show some _ = some _; rw [List.map_append]; rfl), rfl, trivial⟩ rfl (by rw [List.map_append]; rfl)⟩
                  | exact ⟨i + 1, out, k, ⟨by omega, by rw [filter_succ, if_neg (by simp_all [siteB]), ho, List.append_nil]⟩, by omega, St.Le.of ⟨rfl, rfl, rfl, rfl, rfl, trivial⟩⟩
              · try simp only [decide_eq_true_eq, decide_eq_false_iff_not, Bool.not_eq_true', Bool.not_eq_false', beq_iff_eq, bne_iff_ne, ne_eq, beq_eq_false_iff_ne, bne_eq_false_iff_eq, Int.not_lt, Int.not_le, Nat.not_lt, Nat.not_le, Int.ofNat_lt, Int.ofNat_le, Bool.not_eq_eq_eq_not, Bool.not_true, Bool.not_false] at hc7
                refine SCode.skip ?_
                show SCode _ _ _ _
                refine SCode.region ?_
                refine SOps.move rfl ?_
                refine SOps.addI rfl rfl (by first | omega | (simp only [lenB]; omega)) (by first | omega | (simp only [lenB]; omega)) ?_
                refine SOps.assign rfl ?_
                refine SOps.nil ?_
                first
                  | exact ⟨i + 1, out ++ [i], b0, ⟨by omega, by rw [filter_succ, if_pos (by simp_all [siteB]), ho]⟩, by omega, St.Le.of ⟨rfl, rfl, rfl, (by show some _ = some _; rw [List.map_append]; rfl), rfl, trivial⟩ rfl (by rw [List.map_append]; rfl)⟩
                  | exact ⟨i + 1, out ++ [i], b1, ⟨by omega, by rw [filter_succ, if_pos (by simp_all [siteB]), ho]⟩, by omega, St.Le.of ⟨rfl, rfl, rfl, (by show some _ = some _; rw [List.map_append]; rfl), rfl, trivial⟩ rfl (by rw [List.map_append]; rfl)⟩
                  | exact ⟨i + 1, out, k, ⟨by omega, by rw [filter_succ, if_neg (by simp_all [siteB]), ho, List.append_nil]⟩, by omega, St.Le.of ⟨rfl, rfl, rfl, rfl, rfl, trivial⟩⟩
      · try simp only [decide_eq_true_eq, decide_eq_false_iff_not, Bool.not_eq_true', Bool.not_eq_false', beq_iff_eq, bne_iff_ne, ne_eq, beq_eq_false_iff_ne, bne_eq_false_iff_eq, Int.not_lt, Int.not_le, Nat.not_lt, Nat.not_le, Int.ofNat_lt, Int.ofNat_le, Bool.not_eq_eq_eq_not, Bool.not_true, Bool.not_false] at hc3
        refine SCode.exit ?_
        show SCode _ _ _ _
        refine SCode.seqR ?_
        refine SOps.freezeAcc (t := 8) [] [] rfl rfl rfl ?_
        obtain rfl : i = (runes s).length + 1 := by omega
        refine SOps.move rfl ?_
        refine SOps.assign rfl ?_
        refine SOps.nil ?_
        refine SCode.ret ?_
        exact ⟨_, Res.one (.tmp rfl), by first | (rw [if_neg (by simp_all [okR])]; done) | (rw [if_pos hok, ← ho]; rfl), rfl⟩
def sitesR (a : List Letter) (r : Rule) (s : ByteArray) : List Nat := if okR a r s then sitesF (siteB a r (runes s)) (runes s) else []
theorem rSites (hV : VS E) (a : List Letter) (r : Rule) (s : ByteArray) (hr : SmR r) (hs : s.size ≤ 1048576) : GCall Tryd.prog E 17 [DLs a, .agg (encR r), .v (.string s)] [] (fun d H => d = DNats (sitesR a r s) ∧ H = []) :=
  (rSites0 hV a r s hr hs).nilI.mono (fun d H h => ⟨h.1.trans (by unfold sitesR; split <;> rfl), h.2⟩)
def sitesQ (a : List Letter) (r : Rule) (s : ByteArray) : List Nat := if okR a r s then sitesF (siteQ a r (runes s)) (runes s) else []
theorem qSites (hV : VS E) (a : List Letter) (r : Rule) (s : ByteArray) (hs : s.size ≤ 1048576) : GCall Tryd.prog E 18 [DLs a, .agg (encR r), .v (.string s)] [] (fun d H => d = DNats (sitesQ a r s) ∧ H = []) := by
  refine GCall.body (C := ⟨Tryd.prog, E, true⟩) Tryd.func18 rfl (fun _ => rfl) (by kernel_rfl) rfl ?_
  refine SCode.seqR ?_
  refine SOps.boxAM rfl rfl ?_
  refine SOps.assign rfl ?_
  refine SOps.nil ?_
  refine SCode.seqR ?_
  refine SOps.litO sliceB_30_3_1 zeroIs_3 rfl (fun b0 hb_0 => ?_)
  refine SOps.assign rfl ?_
  refine SOps.nil ?_
  refine SCode.seq ?_
  refine SCode.seqR ?_
  refine SOps.move rfl ?_
  refine SOps.loadPinA rfl aggB_25_6 (Nat.le_of_ble_eq_true rfl) ?_
  refine SOps.callP (qValid hV _ _) rfl ?_
  rintro _ rfl
  refine SOps.un rfl rfl ?_
  refine SOps.move rfl ?_
  refine SOps.caseB 16 rfl (fun hb1 => ?_) (fun hb1 => ?_)
  · try simp only [decide_eq_true_eq, decide_eq_false_iff_not, Bool.not_eq_true', Bool.not_eq_false', beq_iff_eq, bne_iff_ne, ne_eq, beq_eq_false_iff_ne, bne_eq_false_iff_eq, Int.not_lt, Int.not_le, Nat.not_lt, Nat.not_le, Int.ofNat_lt, Int.ofNat_le, Bool.not_eq_eq_eq_not, Bool.not_true, Bool.not_false] at hb1
    refine SOps.skip rfl ?_
    refine SOps.skip rfl ?_
    refine SOps.skip rfl ?_
    refine SOps.skip rfl ?_
    refine SOps.pick rfl rfl ?_
    refine SOps.nil ?_
    refine SCode.cond rfl (fun _ => ?_) (fun h => by cases h)
    refine SCode.seqR ?_
    refine SOps.freezeS (t := 7) 0 rfl rfl rfl rfl ?_
    refine SOps.move rfl ?_
    refine SOps.assign rfl ?_
    refine SOps.nil ?_
    refine SCode.drop ?_
    refine SCode.ret ?_
    exact ⟨_, Res.one (.tmp rfl), by first | (rw [sitesQ, if_neg (by simp_all [okR])]; rfl) | (rw [sitesQ, if_pos hok, ← ho]; rfl), rfl⟩
  · try simp only [decide_eq_true_eq, decide_eq_false_iff_not, Bool.not_eq_true', Bool.not_eq_false', beq_iff_eq, bne_iff_ne, ne_eq, beq_eq_false_iff_ne, bne_eq_false_iff_eq, Int.not_lt, Int.not_le, Nat.not_lt, Nat.not_le, Int.ofNat_lt, Int.ofNat_le, Bool.not_eq_eq_eq_not, Bool.not_true, Bool.not_false] at hb1
    refine SOps.move rfl ?_
    refine SOps.move rfl ?_
    refine SOps.callP (qWord hV _ _) rfl ?_
    rintro _ rfl
    refine SOps.un rfl rfl ?_
    refine SOps.pick rfl rfl ?_
    refine SOps.nil ?_
    refine SCode.cond rfl (fun hc2 => ?_) (fun hc2 => ?_)
    · try simp only [decide_eq_true_eq, decide_eq_false_iff_not, Bool.not_eq_true', Bool.not_eq_false', beq_iff_eq, bne_iff_ne, ne_eq, beq_eq_false_iff_ne, bne_eq_false_iff_eq, Int.not_lt, Int.not_le, Nat.not_lt, Nat.not_le, Int.ofNat_lt, Int.ofNat_le, Bool.not_eq_eq_eq_not, Bool.not_true, Bool.not_false] at hc2
      refine SCode.seqR ?_
      refine SOps.freezeS (t := 7) 0 rfl rfl rfl rfl ?_
      refine SOps.move rfl ?_
      refine SOps.assign rfl ?_
      refine SOps.nil ?_
      refine SCode.drop ?_
      refine SCode.ret ?_
      exact ⟨_, Res.one (.tmp rfl), by first | (rw [sitesQ, if_neg (by simp_all [okR])]; rfl) | (rw [sitesQ, if_pos hok, ← ho]; rfl), rfl⟩
    · try simp only [decide_eq_true_eq, decide_eq_false_iff_not, Bool.not_eq_true', Bool.not_eq_false', beq_iff_eq, bne_iff_ne, ne_eq, beq_eq_false_iff_ne, bne_eq_false_iff_eq, Int.not_lt, Int.not_le, Nat.not_lt, Nat.not_le, Int.ofNat_lt, Int.ofNat_le, Bool.not_eq_eq_eq_not, Bool.not_true, Bool.not_false] at hc2
      refine SCode.skip ?_
      show SCode _ _ _ _
      refine SCode.seqR ?_
      refine SOps.move rfl ?_
      refine SOps.runesF rfl rfl strB_9 sliceB_35_21_1 intB_21_i32 ?_
      refine SOps.assign rfl ?_
      refine SOps.nil ?_
      refine SCode.seq ?_
      refine SCode.seqR ?_
      refine SOps.assign rfl ?_
      refine SOps.nil ?_
      refine SCode.block ?_
      have hok : okR a r s = true := by simp_all [okR]
      have hw40 : (runes s).length ≤ 40 := by have h40 : consS a 40 s = true := (by simp_all); rw [consS_eq] at h40; simp only [Bool.and_eq_true, decide_eq_true_eq] at h40; exact h40.1.2
      refine SCode.loop3 (fun (i : Nat) (out : List Nat) (k : Nat) => (⟨69, [(0, DLs a), (4, .ipin (encR r)), (7, .sl k 1 0 out.length), (8, DRunes (runes s)), (9, .v (.int .i64 (i : Int)))], [(k, .row 3 1 (out.map encN))]⟩ : St)) (fun (i : Nat) (out : List Nat) (k : Nat) => i ≤ (runes s).length + 1 ∧ (List.range i).filter (siteQ a r (runes s)) = out) (fun (i : Nat) (out : List Nat) (k : Nat) => (runes s).length + 1 - i) (0) ([]) (b0) (by exact ⟨Nat.zero_le _, rfl⟩) (St.Le.of ⟨(by first | rfl | (show some _ = some _; simp)), (by first | rfl | (show some _ = some _; simp)), (by first | rfl | (show some _ = some _; simp)), (by first | rfl | (show some _ = some _; simp)), (by first | rfl | (show some _ = some _; simp)), trivial⟩ rfl (by first | rfl | (simp))) ?_
      rintro i out k ⟨hi, ho⟩
      have hol := filter_len (siteQ a r (runes s)) i
      rw [ho] at hol
      refine SCode.seq ?_
      refine SCode.seqR ?_
      refine SOps.move rfl ?_
      refine SOps.move rfl ?_
      refine SOps.lenM rfl sliceB_35_21_1 ?_
      refine SOps.bin rfl rfl rfl ?_
      refine SOps.nil ?_
      refine SCode.cond rfl (fun hc3 => ?_) (fun hc3 => ?_)
      · try simp only [decide_eq_true_eq, decide_eq_false_iff_not, Bool.not_eq_true', Bool.not_eq_false', beq_iff_eq, bne_iff_ne, ne_eq, beq_eq_false_iff_ne, bne_eq_false_iff_eq, Int.not_lt, Int.not_le, Nat.not_lt, Nat.not_le, Int.ofNat_lt, Int.ofNat_le, Bool.not_eq_eq_eq_not, Bool.not_true, Bool.not_false] at hc3
        refine SCode.skip ?_
        show SCode _ _ _ _
        refine SCode.seq ?_
        refine SCode.block ?_
        refine SCode.seqR ?_
        refine SOps.move rfl ?_
        refine SOps.assign rfl ?_
        refine SOps.nil ?_
        refine SCode.seq ?_
        refine SCode.seqR ?_
        refine SOps.fieldPin rfl fieldB_25_0_0 ?_
        refine SOps.loadPin rfl flatB_21 ?_
        refine SOps.bin rfl rfl rfl ?_
        refine SOps.nil ?_
        refine SCode.cond rfl (fun hc4 => ?_) (fun hc4 => ?_)
        · try simp only [decide_eq_true_eq, decide_eq_false_iff_not, Bool.not_eq_true', Bool.not_eq_false', beq_iff_eq, bne_iff_ne, ne_eq, beq_eq_false_iff_ne, bne_eq_false_iff_eq, Int.not_lt, Int.not_le, Nat.not_lt, Nat.not_le, Int.ofNat_lt, Int.ofNat_le, Bool.not_eq_eq_eq_not, Bool.not_true, Bool.not_false] at hc4
          refine SCode.seq ?_
          refine SCode.seq ?_
          rcases (show i = (runes s).length ∨ i < (runes s).length from by omega) with hq | hq
          · refine SCode.drawPure mixed_ [(35, .v (.int .i64 (i : Int))), (36, DRunes (runes s)), (37, .v (.int .i64 (((runes s).length : Nat) : Int))), (38, .v (.bool true)), (39, .v (.bool true)), (40, .v (.tuple #[])), (41, .v (.tuple #[])), (42, .v (.tuple #[])), (43, .v (.tuple #[])), (44, .v (.tuple #[])), (45, .v (.tuple #[])), (46, .v (.tuple #[])), (47, .v (.bool true))] [35, 36, 37, 38, 39, 40, 41, 42, 43, 44, 45, 46, 47] [[.inr 9], [.inr 8], [.inl 1], [.inl 0, .inl 2], [.inl 3], [.inl 4], [.inl 4], [.inl 4], [.inl 4], [.inl 4], [.inl 4], [.inl 4], [.inl 4, .inl 11]] [[(9, .v (.int .i64 (i : Int)))], [(8, DRunes (runes s))], [(36, DRunes (runes s))], [(35, .v (.int .i64 (i : Int))), (37, .v (.int .i64 (((runes s).length : Nat) : Int)))], [(38, .v (.bool true))], [(39, .v (.bool true))], [(39, .v (.bool true))], [(39, .v (.bool true))], [(39, .v (.bool true))], [(39, .v (.bool true))], [(39, .v (.bool true))], [(39, .v (.bool true))], [(39, .v (.bool true)), (46, .v (.tuple #[]))]] rfl (by kernel_rfl) (by kernel_rfl) rfl ?_ ?_
            · refine OpsOk.cons (fun rest => ?_) ?_
              · refine SOps.move rfl ?_
                exact SOps.nil (by first | rfl | simp_all)
              refine OpsOk.cons (fun rest => ?_) ?_
              · refine SOps.move rfl ?_
                exact SOps.nil (by first | rfl | simp_all)
              refine OpsOk.cons (fun rest => ?_) ?_
              · refine SOps.lenM rfl sliceB_35_21_1 ?_
                exact SOps.nil (by first | rfl | simp_all)
              refine OpsOk.cons (fun rest => ?_) ?_
              · refine SOps.bin rfl rfl rfl ?_
                exact SOps.nil (by exact congrArg (fun b => St.put _ _ (.v (.bool b))) (beq_iff_eq.2 (by omega)))
              refine OpsOk.cons (fun rest => ?_) ?_
              · refine SOps.move rfl ?_
                exact SOps.nil (by first | rfl | simp_all)
              refine OpsOk.cons (fun rest => ?_) ?_
              · refine SOps.skip rfl ?_
                exact SOps.nil (by first | rfl | simp_all)
              refine OpsOk.cons (fun rest => ?_) ?_
              · refine SOps.skip rfl ?_
                exact SOps.nil (by first | rfl | simp_all)
              refine OpsOk.cons (fun rest => ?_) ?_
              · refine SOps.skip rfl ?_
                exact SOps.nil (by first | rfl | simp_all)
              refine OpsOk.cons (fun rest => ?_) ?_
              · refine SOps.skip rfl ?_
                exact SOps.nil (by first | rfl | simp_all)
              refine OpsOk.cons (fun rest => ?_) ?_
              · refine SOps.skip rfl ?_
                exact SOps.nil (by first | rfl | simp_all)
              refine OpsOk.cons (fun rest => ?_) ?_
              · refine SOps.skip rfl ?_
                exact SOps.nil (by first | rfl | simp_all)
              refine OpsOk.cons (fun rest => ?_) ?_
              · refine SOps.skip rfl ?_
                exact SOps.nil (by first | rfl | simp_all)
              refine OpsOk.cons (fun rest => ?_) ?_
              · refine SOps.pick rfl rfl ?_
                exact SOps.nil (by first | rfl | simp_all)
              exact OpsOk.nil
            · show SCode _ _ _ _
              refine SCode.cond rfl (fun _ => ?_) (fun h => by cases h)
              refine SCode.exit ?_
              show SCode _ _ _ _
              refine SCode.region ?_
              refine SOps.move rfl ?_
              refine SOps.addI rfl rfl (by first | omega | (simp only [lenB]; omega)) (by first | omega | (simp only [lenB]; omega)) ?_
              refine SOps.assign rfl ?_
              refine SOps.nil ?_
              first
                | exact ⟨i + 1, out ++ [i], b1, ⟨by omega, by rw [filter_succ, if_pos (by simp_all [siteQ]), ho]⟩, by omega, St.Le.of ⟨rfl, rfl, (by show some _ = some _; simp), rfl, rfl, trivial⟩ rfl (by rw [List.map_append]; rfl)⟩
                | exact ⟨i + 1, out ++ [i], b2, ⟨by omega, by rw [filter_succ, if_pos (by simp_all [siteQ]), ho]⟩, by omega, St.Le.of ⟨rfl, rfl, (by show some _ = some _; simp), rfl, rfl, trivial⟩ rfl (by rw [List.map_append]; rfl)⟩
                | exact ⟨i + 1, out, k, ⟨by omega, by rw [filter_succ, if_neg (by simp_all [siteQ]), ho, List.append_nil]⟩, by omega, St.Le.of ⟨rfl, rfl, rfl, rfl, rfl, trivial⟩⟩
          · refine SCode.drawPure mixed_ [(35, .v (.int .i64 (i : Int))), (36, DRunes (runes s)), (37, .v (.int .i64 (((runes s).length : Nat) : Int))), (38, .v (.bool false)), (39, .v (.bool false)), (40, DRunes (runes s)), (41, .v (.int .i64 (i : Int))), (42, .ipin (rcell ((runes s)[i]))), (43, .v (.int .i32 ((runes s)[i]))), (44, .ipin ((encR r).drop 0)), (45, .v (.int .i32 r.fr)), (46, .v (.bool (!decide ((runes s)[i] = r.fr)))), (47, .v (.bool (!decide ((runes s)[i] = r.fr))))] [35, 36, 37, 38, 39, 40, 41, 42, 43, 44, 45, 46, 47] [[.inr 9], [.inr 8], [.inl 1], [.inl 0, .inl 2], [.inl 3], [.inl 4, .inr 8], [.inl 4, .inr 9], [.inl 4, .inl 5, .inl 6], [.inl 4, .inl 7], [.inl 4, .inr 4], [.inl 4, .inl 9], [.inl 4, .inl 8, .inl 10], [.inl 4, .inl 11]] [[(9, .v (.int .i64 (i : Int)))], [(8, DRunes (runes s))], [(36, DRunes (runes s))], [(35, .v (.int .i64 (i : Int))), (37, .v (.int .i64 (((runes s).length : Nat) : Int)))], [(38, .v (.bool false))], [(39, .v (.bool false)), (8, DRunes (runes s))], [(39, .v (.bool false)), (9, .v (.int .i64 (i : Int)))], [(39, .v (.bool false)), (40, DRunes (runes s)), (41, .v (.int .i64 (i : Int)))], [(39, .v (.bool false)), (42, .ipin (rcell ((runes s)[i])))], [(39, .v (.bool false)), (4, .ipin (encR r))], [(39, .v (.bool false)), (44, .ipin ((encR r).drop 0))], [(39, .v (.bool false)), (43, .v (.int .i32 ((runes s)[i]))), (45, .v (.int .i32 r.fr))], [(39, .v (.bool false)), (46, .v (.bool (!decide ((runes s)[i] = r.fr))))]] rfl (by kernel_rfl) (by kernel_rfl) rfl ?_ ?_
            · refine OpsOk.cons (fun rest => ?_) ?_
              · refine SOps.move rfl ?_
                exact SOps.nil (by first | rfl | simp_all)
              refine OpsOk.cons (fun rest => ?_) ?_
              · refine SOps.move rfl ?_
                exact SOps.nil (by first | rfl | simp_all)
              refine OpsOk.cons (fun rest => ?_) ?_
              · refine SOps.lenM rfl sliceB_35_21_1 ?_
                exact SOps.nil (by first | rfl | simp_all)
              refine OpsOk.cons (fun rest => ?_) ?_
              · refine SOps.bin rfl rfl rfl ?_
                exact SOps.nil (by exact congrArg (fun b => St.put _ _ (.v (.bool b))) (beq_eq_false_iff_ne.2 (by omega)))
              refine OpsOk.cons (fun rest => ?_) ?_
              · refine SOps.move rfl ?_
                exact SOps.nil (by first | rfl | simp_all)
              refine OpsOk.cons (fun rest => ?_) ?_
              · refine SOps.move rfl ?_
                exact SOps.nil (by first | rfl | simp_all)
              refine OpsOk.cons (fun rest => ?_) ?_
              · refine SOps.move rfl ?_
                exact SOps.nil (by first | rfl | simp_all)
              refine OpsOk.cons (fun rest => ?_) ?_
              · refine SOps.indexM (i) rfl rfl sliceB_35_21_1 (by first | omega | (simp only [lenB]; omega)) (by first | omega | (simp only [lenB]; omega)) ?_
                exact SOps.nil (by first | rfl | simp_all)
              refine OpsOk.cons (fun rest => ?_) ?_
              · refine SOps.loadPin rfl flatB_21 ?_
                exact SOps.nil (by first | rfl | simp_all)
              refine OpsOk.cons (fun rest => ?_) ?_
              · refine SOps.fieldPin rfl fieldB_25_0_0 ?_
                exact SOps.nil (by first | rfl | simp_all)
              refine OpsOk.cons (fun rest => ?_) ?_
              · refine SOps.loadPin rfl flatB_21 ?_
                exact SOps.nil (by first | rfl | simp_all)
              refine OpsOk.cons (fun rest => ?_) ?_
              · refine SOps.bin rfl rfl rfl ?_
                exact SOps.nil (by first | rfl | simp_all)
              refine OpsOk.cons (fun rest => ?_) ?_
              · refine SOps.pick rfl rfl ?_
                exact SOps.nil (by first | rfl | simp_all)
              exact OpsOk.nil
            · show SCode _ _ _ _
              refine SCode.cond rfl (fun hc5 => ?_) (fun hc5 => ?_)
              · try simp only [decide_eq_true_eq, decide_eq_false_iff_not, Bool.not_eq_true', Bool.not_eq_false', beq_iff_eq, bne_iff_ne, ne_eq, beq_eq_false_iff_ne, bne_eq_false_iff_eq, Int.not_lt, Int.not_le, Nat.not_lt, Nat.not_le, Int.ofNat_lt, Int.ofNat_le, Bool.not_eq_eq_eq_not, Bool.not_true, Bool.not_false] at hc5
                refine SCode.exit ?_
                show SCode _ _ _ _
                refine SCode.region ?_
                refine SOps.move rfl ?_
                refine SOps.addI rfl rfl (by first | omega | (simp only [lenB]; omega)) (by first | omega | (simp only [lenB]; omega)) ?_
                refine SOps.assign rfl ?_
                refine SOps.nil ?_
                first
                  | exact ⟨i + 1, out ++ [i], b1, ⟨by omega, by rw [filter_succ, if_pos (by simp_all [siteQ]), ho]⟩, by omega, St.Le.of ⟨rfl, rfl, (by show some _ = some _; simp), rfl, rfl, trivial⟩ rfl (by rw [List.map_append]; rfl)⟩
                  | exact ⟨i + 1, out ++ [i], b2, ⟨by omega, by rw [filter_succ, if_pos (by simp_all [siteQ]), ho]⟩, by omega, St.Le.of ⟨rfl, rfl, (by show some _ = some _; simp), rfl, rfl, trivial⟩ rfl (by rw [List.map_append]; rfl)⟩
                  | exact ⟨i + 1, out, k, ⟨by omega, by rw [filter_succ, if_neg (by simp_all [siteQ]), ho, List.append_nil]⟩, by omega, St.Le.of ⟨rfl, rfl, rfl, rfl, rfl, trivial⟩⟩
              · try simp only [decide_eq_true_eq, decide_eq_false_iff_not, Bool.not_eq_true', Bool.not_eq_false', beq_iff_eq, bne_iff_ne, ne_eq, beq_eq_false_iff_ne, bne_eq_false_iff_eq, Int.not_lt, Int.not_le, Nat.not_lt, Nat.not_le, Int.ofNat_lt, Int.ofNat_le, Bool.not_eq_eq_eq_not, Bool.not_true, Bool.not_false] at hc5
                refine SCode.skip ?_
                show SCode _ _ _ _
                refine SCode.region ?_
                refine SOps.move rfl ?_
                refine SOps.addI rfl rfl (by first | omega | (simp only [lenB]; omega)) (by first | omega | (simp only [lenB]; omega)) ?_
                refine SOps.assign rfl ?_
                refine SOps.nil ?_
                show SCode _ _ _ _
                refine SCode.seq ?_
                rcases hq3 : leftR a r ((runes s).take i) with _ | _
                · refine SCode.drawPure mixed_ [(50, DLs a), (51, .agg (encR r)), (52, DRunes (runes s)), (53, .v (.int .i64 (i : Int))), (54, DRunes ((runes s).take i)), (55, .v (.bool false)), (56, .v (.bool false)), (57, .v (.tuple #[])), (58, .v (.tuple #[])), (59, .v (.tuple #[])), (60, .v (.tuple #[])), (61, .v (.tuple #[])), (62, .v (.tuple #[])), (63, .v (.bool false))] [50, 51, 52, 53, 54, 55, 56, 57, 58, 59, 60, 61, 62, 63] [[.inr 0], [.inr 4], [.inr 8], [.inr 9], [.inl 2, .inl 3], [.inl 0, .inl 1, .inl 4], [.inl 5], [.inl 6], [.inl 6], [.inl 6], [.inl 6], [.inl 6], [.inl 6], [.inl 6, .inl 12]] [[(0, DLs a)], [(4, .ipin (encR r))], [(8, DRunes (runes s))], [(9, .v (.int .i64 (i : Int)))], [(52, DRunes (runes s)), (53, .v (.int .i64 (i : Int)))], [(50, DLs a), (51, .agg (encR r)), (54, DRunes ((runes s).take i))], [(55, .v (.bool false))], [(56, .v (.bool false))], [(56, .v (.bool false))], [(56, .v (.bool false))], [(56, .v (.bool false))], [(56, .v (.bool false))], [(56, .v (.bool false))], [(56, .v (.bool false)), (62, .v (.tuple #[]))]] rfl (by kernel_rfl) (by kernel_rfl) rfl ?_ ?_
                  · refine OpsOk.cons (fun rest => ?_) ?_
                    · refine SOps.move rfl ?_
                      exact SOps.nil (by first | rfl | simp_all)
                    refine OpsOk.cons (fun rest => ?_) ?_
                    · refine SOps.loadPinA rfl aggB_25_6 (Nat.le_of_ble_eq_true rfl) ?_
                      exact SOps.nil (by first | rfl | simp_all)
                    refine OpsOk.cons (fun rest => ?_) ?_
                    · refine SOps.move rfl ?_
                      exact SOps.nil (by first | rfl | simp_all)
                    refine OpsOk.cons (fun rest => ?_) ?_
                    · refine SOps.move rfl ?_
                      exact SOps.nil (by first | rfl | simp_all)
                    refine OpsOk.cons (fun rest => ?_) ?_
                    · refine SOps.sliceT (n1 := 0) (i) sliceB_35_21_1 rfl rfl (by first | omega | (simp only [lenB]; omega)) (by first | omega | (simp only [lenB]; omega)) ?_
                      exact SOps.nil (by first | rfl | simp_all)
                    refine OpsOk.cons (fun rest => ?_) ?_
                    · refine SOps.callP (qLeft a r _ (by simp; omega)) rfl ?_
                      rintro _ rfl
                      exact SOps.nil (by exact congrArg (fun b => St.put _ _ (.v (.bool b))) hq3)
                    refine OpsOk.cons (fun rest => ?_) ?_
                    · refine SOps.move rfl ?_
                      exact SOps.nil (by first | rfl | simp_all)
                    refine OpsOk.cons (fun rest => ?_) ?_
                    · refine SOps.skip rfl ?_
                      exact SOps.nil (by first | rfl | simp_all)
                    refine OpsOk.cons (fun rest => ?_) ?_
                    · refine SOps.skip rfl ?_
                      exact SOps.nil (by first | rfl | simp_all)
                    refine OpsOk.cons (fun rest => ?_) ?_
                    · refine SOps.skip rfl ?_
                      exact SOps.nil (by first | rfl | simp_all)
                    refine OpsOk.cons (fun rest => ?_) ?_
                    · refine SOps.skip rfl ?_
                      exact SOps.nil (by first | rfl | simp_all)
                    refine OpsOk.cons (fun rest => ?_) ?_
                    · refine SOps.skip rfl ?_
                      exact SOps.nil (by first | rfl | simp_all)
                    refine OpsOk.cons (fun rest => ?_) ?_
                    · refine SOps.skip rfl ?_
                      exact SOps.nil (by first | rfl | simp_all)
                    refine OpsOk.cons (fun rest => ?_) ?_
                    · refine SOps.pick rfl rfl ?_
                      exact SOps.nil (by first | rfl | simp_all)
                    exact OpsOk.nil
                  · show SCode _ _ _ _
                    refine SCode.cond rfl (fun h => by cases h) (fun _ => ?_)
                    refine SCode.skip ?_
                    show SCode _ _ _ _
                    refine SCode.region ?_
                    refine SOps.move rfl ?_
                    refine SOps.addI rfl rfl (by first | omega | (simp only [lenB]; omega)) (by first | omega | (simp only [lenB]; omega)) ?_
                    refine SOps.assign rfl ?_
                    refine SOps.nil ?_
                    first
                      | exact ⟨i + 1, out ++ [i], b1, ⟨by omega, by rw [filter_succ, if_pos (by simp_all [siteQ]), ho]⟩, by omega, St.Le.of ⟨rfl, rfl, (by show some _ = some _; simp), rfl, rfl, trivial⟩ rfl (by rw [List.map_append]; rfl)⟩
                      | exact ⟨i + 1, out ++ [i], b2, ⟨by omega, by rw [filter_succ, if_pos (by simp_all [siteQ]), ho]⟩, by omega, St.Le.of ⟨rfl, rfl, (by show some _ = some _; simp), rfl, rfl, trivial⟩ rfl (by rw [List.map_append]; rfl)⟩
                      | exact ⟨i + 1, out, k, ⟨by omega, by rw [filter_succ, if_neg (by simp_all [siteQ]), ho, List.append_nil]⟩, by omega, St.Le.of ⟨rfl, rfl, rfl, rfl, rfl, trivial⟩⟩
                · refine SCode.drawPure mixed_ [(50, DLs a), (51, .agg (encR r)), (52, DRunes (runes s)), (53, .v (.int .i64 (i : Int))), (54, DRunes ((runes s).take i)), (55, .v (.bool true)), (56, .v (.bool true)), (57, DLs a), (58, .agg (encR r)), (59, DRunes (runes s)), (60, .v (.int .i64 ((i : Int) + 1))), (61, DRunes ((runes s).drop (i + 1))), (62, .v (.bool (rightR a r ((runes s).drop (i + 1))))), (63, .v (.bool (rightR a r ((runes s).drop (i + 1)))))] [50, 51, 52, 53, 54, 55, 56, 57, 58, 59, 60, 61, 62, 63] [[.inr 0], [.inr 4], [.inr 8], [.inr 9], [.inl 2, .inl 3], [.inl 0, .inl 1, .inl 4], [.inl 5], [.inl 6, .inr 0], [.inl 6, .inr 4], [.inl 6, .inr 8], [.inl 6, .inr 10], [.inl 6, .inl 9, .inl 10], [.inl 6, .inl 7, .inl 8, .inl 11], [.inl 6, .inl 12]] [[(0, DLs a)], [(4, .ipin (encR r))], [(8, DRunes (runes s))], [(9, .v (.int .i64 (i : Int)))], [(52, DRunes (runes s)), (53, .v (.int .i64 (i : Int)))], [(50, DLs a), (51, .agg (encR r)), (54, DRunes ((runes s).take i))], [(55, .v (.bool true))], [(56, .v (.bool true)), (0, DLs a)], [(56, .v (.bool true)), (4, .ipin (encR r))], [(56, .v (.bool true)), (8, DRunes (runes s))], [(56, .v (.bool true)), (10, .v (.int .i64 ((i : Int) + 1)))], [(56, .v (.bool true)), (59, DRunes (runes s)), (60, .v (.int .i64 ((i : Int) + 1)))], [(56, .v (.bool true)), (57, DLs a), (58, .agg (encR r)), (61, DRunes ((runes s).drop (i + 1)))], [(56, .v (.bool true)), (62, .v (.bool (rightR a r ((runes s).drop (i + 1)))))]] rfl (by kernel_rfl) (by kernel_rfl) rfl ?_ ?_
                  · refine OpsOk.cons (fun rest => ?_) ?_
                    · refine SOps.move rfl ?_
                      exact SOps.nil (by first | rfl | simp_all)
                    refine OpsOk.cons (fun rest => ?_) ?_
                    · refine SOps.loadPinA rfl aggB_25_6 (Nat.le_of_ble_eq_true rfl) ?_
                      exact SOps.nil (by first | rfl | simp_all)
                    refine OpsOk.cons (fun rest => ?_) ?_
                    · refine SOps.move rfl ?_
                      exact SOps.nil (by first | rfl | simp_all)
                    refine OpsOk.cons (fun rest => ?_) ?_
                    · refine SOps.move rfl ?_
                      exact SOps.nil (by first | rfl | simp_all)
                    refine OpsOk.cons (fun rest => ?_) ?_
                    · refine SOps.sliceT (n1 := 0) (i) sliceB_35_21_1 rfl rfl (by first | omega | (simp only [lenB]; omega)) (by first | omega | (simp only [lenB]; omega)) ?_
                      exact SOps.nil (by first | rfl | simp_all)
                    refine OpsOk.cons (fun rest => ?_) ?_
                    · refine SOps.callP (qLeft a r _ (by simp; omega)) rfl ?_
                      rintro _ rfl
                      exact SOps.nil (by exact congrArg (fun b => St.put _ _ (.v (.bool b))) hq3)
                    refine OpsOk.cons (fun rest => ?_) ?_
                    · refine SOps.move rfl ?_
                      exact SOps.nil (by first | rfl | simp_all)
                    refine OpsOk.cons (fun rest => ?_) ?_
                    · refine SOps.move rfl ?_
                      exact SOps.nil (by first | rfl | simp_all)
                    refine OpsOk.cons (fun rest => ?_) ?_
                    · refine SOps.loadPinA rfl aggB_25_6 (Nat.le_of_ble_eq_true rfl) ?_
                      exact SOps.nil (by first | rfl | simp_all)
                    refine OpsOk.cons (fun rest => ?_) ?_
                    · refine SOps.move rfl ?_
                      exact SOps.nil (by first | rfl | simp_all)
                    refine OpsOk.cons (fun rest => ?_) ?_
                    · refine SOps.move rfl ?_
                      exact SOps.nil (by first | rfl | simp_all)
                    refine OpsOk.cons (fun rest => ?_) ?_
                    · refine SOps.sliceD (n1 := 0) (i + 1) sliceB_35_21_1 rfl rfl (by first | omega | (simp only [lenB]; omega)) (by first | omega | (simp only [lenB]; omega)) ?_
                      exact SOps.nil (by first | rfl | simp_all)
                    refine OpsOk.cons (fun rest => ?_) ?_
                    · refine SOps.callP (qRight a r _ (by simp; omega)) rfl ?_
                      rintro _ rfl
                      exact SOps.nil (by first | rfl | simp_all)
                    refine OpsOk.cons (fun rest => ?_) ?_
                    · refine SOps.pick rfl rfl ?_
                      exact SOps.nil (by first | rfl | simp_all)
                    exact OpsOk.nil
                  · show SCode _ _ _ _
                    refine SCode.cond rfl (fun hc6 => ?_) (fun hc6 => ?_)
                    · try simp only [decide_eq_true_eq, decide_eq_false_iff_not, Bool.not_eq_true', Bool.not_eq_false', beq_iff_eq, bne_iff_ne, ne_eq, beq_eq_false_iff_ne, bne_eq_false_iff_eq, Int.not_lt, Int.not_le, Nat.not_lt, Nat.not_le, Int.ofNat_lt, Int.ofNat_le, Bool.not_eq_eq_eq_not, Bool.not_true, Bool.not_false] at hc6
                      refine SCode.region ?_
                      refine SOps.move rfl ?_
                      refine SOps.move rfl ?_
                      refine SOps.litF rfl sliceB_30_3_1 zeroIs_3 rfl ?_
                      refine SOps.appendOwn 0 sliceB_30_3_1 elemB_3_1_8 rfl rfl rfl (by simp) SrcD.isl (by simp) (by simp [lenB] <;> (first | omega | (simp only [lenB]; omega))) (by simp <;> (first | omega | (simp only [lenB]; omega))) (fun b1 hb_1 => ?_)
                      refine SOps.assign rfl ?_
                      refine SOps.nil ?_
                      show SCode _ _ _ _
                      refine SCode.region ?_
                      refine SOps.move rfl ?_
                      refine SOps.addI rfl rfl (by first | omega | (simp only [lenB]; omega)) (by first | omega | (simp only [lenB]; omega)) ?_
                      refine SOps.assign rfl ?_
                      refine SOps.nil ?_
                      first
                        | exact ⟨i + 1, out ++ [i], b1, ⟨by omega, by rw [filter_succ, if_pos (by simp_all [siteQ]), ho]⟩, by omega, St.Le.of ⟨rfl, rfl, (by show some _ = some _; simp), rfl, rfl, trivial⟩ rfl (by rw [List.map_append]; rfl)⟩
                        | exact ⟨i + 1, out ++ [i], b2, ⟨by omega, by rw [filter_succ, if_pos (by simp_all [siteQ]), ho]⟩, by omega, St.Le.of ⟨rfl, rfl, (by show some _ = some _; simp), rfl, rfl, trivial⟩ rfl (by rw [List.map_append]; rfl)⟩
                        | exact ⟨i + 1, out, k, ⟨by omega, by rw [filter_succ, if_neg (by simp_all [siteQ]), ho, List.append_nil]⟩, by omega, St.Le.of ⟨rfl, rfl, rfl, rfl, rfl, trivial⟩⟩
                    · try simp only [decide_eq_true_eq, decide_eq_false_iff_not, Bool.not_eq_true', Bool.not_eq_false', beq_iff_eq, bne_iff_ne, ne_eq, beq_eq_false_iff_ne, bne_eq_false_iff_eq, Int.not_lt, Int.not_le, Nat.not_lt, Nat.not_le, Int.ofNat_lt, Int.ofNat_le, Bool.not_eq_eq_eq_not, Bool.not_true, Bool.not_false] at hc6
                      refine SCode.skip ?_
                      show SCode _ _ _ _
                      refine SCode.region ?_
                      refine SOps.move rfl ?_
                      refine SOps.addI rfl rfl (by first | omega | (simp only [lenB]; omega)) (by first | omega | (simp only [lenB]; omega)) ?_
                      refine SOps.assign rfl ?_
                      refine SOps.nil ?_
                      first
                        | exact ⟨i + 1, out ++ [i], b1, ⟨by omega, by rw [filter_succ, if_pos (by simp_all [siteQ]), ho]⟩, by omega, St.Le.of ⟨rfl, rfl, (by show some _ = some _; simp), rfl, rfl, trivial⟩ rfl (by rw [List.map_append]; rfl)⟩
                        | exact ⟨i + 1, out ++ [i], b2, ⟨by omega, by rw [filter_succ, if_pos (by simp_all [siteQ]), ho]⟩, by omega, St.Le.of ⟨rfl, rfl, (by show some _ = some _; simp), rfl, rfl, trivial⟩ rfl (by rw [List.map_append]; rfl)⟩
                        | exact ⟨i + 1, out, k, ⟨by omega, by rw [filter_succ, if_neg (by simp_all [siteQ]), ho, List.append_nil]⟩, by omega, St.Le.of ⟨rfl, rfl, rfl, rfl, rfl, trivial⟩⟩
        · try simp only [decide_eq_true_eq, decide_eq_false_iff_not, Bool.not_eq_true', Bool.not_eq_false', beq_iff_eq, bne_iff_ne, ne_eq, beq_eq_false_iff_ne, bne_eq_false_iff_eq, Int.not_lt, Int.not_le, Nat.not_lt, Nat.not_le, Int.ofNat_lt, Int.ofNat_le, Bool.not_eq_eq_eq_not, Bool.not_true, Bool.not_false] at hc4
          refine SCode.skip ?_
          show SCode _ _ _ _
          refine SCode.seq ?_
          rcases hq3 : leftR a r ((runes s).take i) with _ | _
          · refine SCode.drawPure mixed_ [(50, DLs a), (51, .agg (encR r)), (52, DRunes (runes s)), (53, .v (.int .i64 (i : Int))), (54, DRunes ((runes s).take i)), (55, .v (.bool false)), (56, .v (.bool false)), (57, .v (.tuple #[])), (58, .v (.tuple #[])), (59, .v (.tuple #[])), (60, .v (.tuple #[])), (61, .v (.tuple #[])), (62, .v (.tuple #[])), (63, .v (.bool false))] [50, 51, 52, 53, 54, 55, 56, 57, 58, 59, 60, 61, 62, 63] [[.inr 0], [.inr 4], [.inr 8], [.inr 9], [.inl 2, .inl 3], [.inl 0, .inl 1, .inl 4], [.inl 5], [.inl 6], [.inl 6], [.inl 6], [.inl 6], [.inl 6], [.inl 6], [.inl 6, .inl 12]] [[(0, DLs a)], [(4, .ipin (encR r))], [(8, DRunes (runes s))], [(9, .v (.int .i64 (i : Int)))], [(52, DRunes (runes s)), (53, .v (.int .i64 (i : Int)))], [(50, DLs a), (51, .agg (encR r)), (54, DRunes ((runes s).take i))], [(55, .v (.bool false))], [(56, .v (.bool false))], [(56, .v (.bool false))], [(56, .v (.bool false))], [(56, .v (.bool false))], [(56, .v (.bool false))], [(56, .v (.bool false))], [(56, .v (.bool false)), (62, .v (.tuple #[]))]] rfl (by kernel_rfl) (by kernel_rfl) rfl ?_ ?_
            · refine OpsOk.cons (fun rest => ?_) ?_
              · refine SOps.move rfl ?_
                exact SOps.nil (by first | rfl | simp_all)
              refine OpsOk.cons (fun rest => ?_) ?_
              · refine SOps.loadPinA rfl aggB_25_6 (Nat.le_of_ble_eq_true rfl) ?_
                exact SOps.nil (by first | rfl | simp_all)
              refine OpsOk.cons (fun rest => ?_) ?_
              · refine SOps.move rfl ?_
                exact SOps.nil (by first | rfl | simp_all)
              refine OpsOk.cons (fun rest => ?_) ?_
              · refine SOps.move rfl ?_
                exact SOps.nil (by first | rfl | simp_all)
              refine OpsOk.cons (fun rest => ?_) ?_
              · refine SOps.sliceT (n1 := 0) (i) sliceB_35_21_1 rfl rfl (by first | omega | (simp only [lenB]; omega)) (by first | omega | (simp only [lenB]; omega)) ?_
                exact SOps.nil (by first | rfl | simp_all)
              refine OpsOk.cons (fun rest => ?_) ?_
              · refine SOps.callP (qLeft a r _ (by simp; omega)) rfl ?_
                rintro _ rfl
                exact SOps.nil (by exact congrArg (fun b => St.put _ _ (.v (.bool b))) hq3)
              refine OpsOk.cons (fun rest => ?_) ?_
              · refine SOps.move rfl ?_
                exact SOps.nil (by first | rfl | simp_all)
              refine OpsOk.cons (fun rest => ?_) ?_
              · refine SOps.skip rfl ?_
                exact SOps.nil (by first | rfl | simp_all)
              refine OpsOk.cons (fun rest => ?_) ?_
              · refine SOps.skip rfl ?_
                exact SOps.nil (by first | rfl | simp_all)
              refine OpsOk.cons (fun rest => ?_) ?_
              · refine SOps.skip rfl ?_
                exact SOps.nil (by first | rfl | simp_all)
              refine OpsOk.cons (fun rest => ?_) ?_
              · refine SOps.skip rfl ?_
                exact SOps.nil (by first | rfl | simp_all)
              refine OpsOk.cons (fun rest => ?_) ?_
              · refine SOps.skip rfl ?_
                exact SOps.nil (by first | rfl | simp_all)
              refine OpsOk.cons (fun rest => ?_) ?_
              · refine SOps.skip rfl ?_
                exact SOps.nil (by first | rfl | simp_all)
              refine OpsOk.cons (fun rest => ?_) ?_
              · refine SOps.pick rfl rfl ?_
                exact SOps.nil (by first | rfl | simp_all)
              exact OpsOk.nil
            · show SCode _ _ _ _
              refine SCode.cond rfl (fun h => by cases h) (fun _ => ?_)
              refine SCode.skip ?_
              show SCode _ _ _ _
              refine SCode.region ?_
              refine SOps.move rfl ?_
              refine SOps.addI rfl rfl (by first | omega | (simp only [lenB]; omega)) (by first | omega | (simp only [lenB]; omega)) ?_
              refine SOps.assign rfl ?_
              refine SOps.nil ?_
              first
                | exact ⟨i + 1, out ++ [i], b1, ⟨by omega, by rw [filter_succ, if_pos (by simp_all [siteQ]), ho]⟩, by omega, St.Le.of ⟨rfl, rfl, (by show some _ = some _; simp), rfl, rfl, trivial⟩ rfl (by rw [List.map_append]; rfl)⟩
                | exact ⟨i + 1, out ++ [i], b2, ⟨by omega, by rw [filter_succ, if_pos (by simp_all [siteQ]), ho]⟩, by omega, St.Le.of ⟨rfl, rfl, (by show some _ = some _; simp), rfl, rfl, trivial⟩ rfl (by rw [List.map_append]; rfl)⟩
                | exact ⟨i + 1, out, k, ⟨by omega, by rw [filter_succ, if_neg (by simp_all [siteQ]), ho, List.append_nil]⟩, by omega, St.Le.of ⟨rfl, rfl, rfl, rfl, rfl, trivial⟩⟩
          · refine SCode.drawPure mixed_ [(50, DLs a), (51, .agg (encR r)), (52, DRunes (runes s)), (53, .v (.int .i64 (i : Int))), (54, DRunes ((runes s).take i)), (55, .v (.bool true)), (56, .v (.bool true)), (57, DLs a), (58, .agg (encR r)), (59, DRunes (runes s)), (60, .v (.int .i64 (i : Int))), (61, DRunes ((runes s).drop (i))), (62, .v (.bool (rightR a r ((runes s).drop (i))))), (63, .v (.bool (rightR a r ((runes s).drop (i)))))] [50, 51, 52, 53, 54, 55, 56, 57, 58, 59, 60, 61, 62, 63] [[.inr 0], [.inr 4], [.inr 8], [.inr 9], [.inl 2, .inl 3], [.inl 0, .inl 1, .inl 4], [.inl 5], [.inl 6, .inr 0], [.inl 6, .inr 4], [.inl 6, .inr 8], [.inl 6, .inr 10], [.inl 6, .inl 9, .inl 10], [.inl 6, .inl 7, .inl 8, .inl 11], [.inl 6, .inl 12]] [[(0, DLs a)], [(4, .ipin (encR r))], [(8, DRunes (runes s))], [(9, .v (.int .i64 (i : Int)))], [(52, DRunes (runes s)), (53, .v (.int .i64 (i : Int)))], [(50, DLs a), (51, .agg (encR r)), (54, DRunes ((runes s).take i))], [(55, .v (.bool true))], [(56, .v (.bool true)), (0, DLs a)], [(56, .v (.bool true)), (4, .ipin (encR r))], [(56, .v (.bool true)), (8, DRunes (runes s))], [(56, .v (.bool true)), (10, .v (.int .i64 (i : Int)))], [(56, .v (.bool true)), (59, DRunes (runes s)), (60, .v (.int .i64 (i : Int)))], [(56, .v (.bool true)), (57, DLs a), (58, .agg (encR r)), (61, DRunes ((runes s).drop (i)))], [(56, .v (.bool true)), (62, .v (.bool (rightR a r ((runes s).drop (i)))))]] rfl (by kernel_rfl) (by kernel_rfl) rfl ?_ ?_
            · refine OpsOk.cons (fun rest => ?_) ?_
              · refine SOps.move rfl ?_
                exact SOps.nil (by first | rfl | simp_all)
              refine OpsOk.cons (fun rest => ?_) ?_
              · refine SOps.loadPinA rfl aggB_25_6 (Nat.le_of_ble_eq_true rfl) ?_
                exact SOps.nil (by first | rfl | simp_all)
              refine OpsOk.cons (fun rest => ?_) ?_
              · refine SOps.move rfl ?_
                exact SOps.nil (by first | rfl | simp_all)
              refine OpsOk.cons (fun rest => ?_) ?_
              · refine SOps.move rfl ?_
                exact SOps.nil (by first | rfl | simp_all)
              refine OpsOk.cons (fun rest => ?_) ?_
              · refine SOps.sliceT (n1 := 0) (i) sliceB_35_21_1 rfl rfl (by first | omega | (simp only [lenB]; omega)) (by first | omega | (simp only [lenB]; omega)) ?_
                exact SOps.nil (by first | rfl | simp_all)
              refine OpsOk.cons (fun rest => ?_) ?_
              · refine SOps.callP (qLeft a r _ (by simp; omega)) rfl ?_
                rintro _ rfl
                exact SOps.nil (by exact congrArg (fun b => St.put _ _ (.v (.bool b))) hq3)
              refine OpsOk.cons (fun rest => ?_) ?_
              · refine SOps.move rfl ?_
                exact SOps.nil (by first | rfl | simp_all)
              refine OpsOk.cons (fun rest => ?_) ?_
              · refine SOps.move rfl ?_
                exact SOps.nil (by first | rfl | simp_all)
              refine OpsOk.cons (fun rest => ?_) ?_
              · refine SOps.loadPinA rfl aggB_25_6 (Nat.le_of_ble_eq_true rfl) ?_
                exact SOps.nil (by first | rfl | simp_all)
              refine OpsOk.cons (fun rest => ?_) ?_
              · refine SOps.move rfl ?_
                exact SOps.nil (by first | rfl | simp_all)
              refine OpsOk.cons (fun rest => ?_) ?_
              · refine SOps.move rfl ?_
                exact SOps.nil (by first | rfl | simp_all)
              refine OpsOk.cons (fun rest => ?_) ?_
              · refine SOps.sliceD (n1 := 0) (i) sliceB_35_21_1 rfl rfl (by first | omega | (simp only [lenB]; omega)) (by first | omega | (simp only [lenB]; omega)) ?_
                exact SOps.nil (by first | rfl | simp_all)
              refine OpsOk.cons (fun rest => ?_) ?_
              · refine SOps.callP (qRight a r _ (by simp; omega)) rfl ?_
                rintro _ rfl
                exact SOps.nil (by first | rfl | simp_all)
              refine OpsOk.cons (fun rest => ?_) ?_
              · refine SOps.pick rfl rfl ?_
                exact SOps.nil (by first | rfl | simp_all)
              exact OpsOk.nil
            · show SCode _ _ _ _
              refine SCode.cond rfl (fun hc7 => ?_) (fun hc7 => ?_)
              · try simp only [decide_eq_true_eq, decide_eq_false_iff_not, Bool.not_eq_true', Bool.not_eq_false', beq_iff_eq, bne_iff_ne, ne_eq, beq_eq_false_iff_ne, bne_eq_false_iff_eq, Int.not_lt, Int.not_le, Nat.not_lt, Nat.not_le, Int.ofNat_lt, Int.ofNat_le, Bool.not_eq_eq_eq_not, Bool.not_true, Bool.not_false] at hc7
                refine SCode.region ?_
                refine SOps.move rfl ?_
                refine SOps.move rfl ?_
                refine SOps.litF rfl sliceB_30_3_1 zeroIs_3 rfl ?_
                refine SOps.appendOwn 0 sliceB_30_3_1 elemB_3_1_8 rfl rfl rfl (by simp) SrcD.isl (by simp) (by simp [lenB] <;> (first | omega | (simp only [lenB]; omega))) (by simp <;> (first | omega | (simp only [lenB]; omega))) (fun b2 hb_2 => ?_)
                refine SOps.assign rfl ?_
                refine SOps.nil ?_
                show SCode _ _ _ _
                refine SCode.region ?_
                refine SOps.move rfl ?_
                refine SOps.addI rfl rfl (by first | omega | (simp only [lenB]; omega)) (by first | omega | (simp only [lenB]; omega)) ?_
                refine SOps.assign rfl ?_
                refine SOps.nil ?_
                first
                  | exact ⟨i + 1, out ++ [i], b1, ⟨by omega, by rw [filter_succ, if_pos (by simp_all [siteQ]), ho]⟩, by omega, St.Le.of ⟨rfl, rfl, (by show some _ = some _; simp), rfl, rfl, trivial⟩ rfl (by rw [List.map_append]; rfl)⟩
                  | exact ⟨i + 1, out ++ [i], b2, ⟨by omega, by rw [filter_succ, if_pos (by simp_all [siteQ]), ho]⟩, by omega, St.Le.of ⟨rfl, rfl, (by show some _ = some _; simp), rfl, rfl, trivial⟩ rfl (by rw [List.map_append]; rfl)⟩
                  | exact ⟨i + 1, out, k, ⟨by omega, by rw [filter_succ, if_neg (by simp_all [siteQ]), ho, List.append_nil]⟩, by omega, St.Le.of ⟨rfl, rfl, rfl, rfl, rfl, trivial⟩⟩
              · try simp only [decide_eq_true_eq, decide_eq_false_iff_not, Bool.not_eq_true', Bool.not_eq_false', beq_iff_eq, bne_iff_ne, ne_eq, beq_eq_false_iff_ne, bne_eq_false_iff_eq, Int.not_lt, Int.not_le, Nat.not_lt, Nat.not_le, Int.ofNat_lt, Int.ofNat_le, Bool.not_eq_eq_eq_not, Bool.not_true, Bool.not_false] at hc7
                refine SCode.skip ?_
                show SCode _ _ _ _
                refine SCode.region ?_
                refine SOps.move rfl ?_
                refine SOps.addI rfl rfl (by first | omega | (simp only [lenB]; omega)) (by first | omega | (simp only [lenB]; omega)) ?_
                refine SOps.assign rfl ?_
                refine SOps.nil ?_
                first
                  | exact ⟨i + 1, out ++ [i], b1, ⟨by omega, by rw [filter_succ, if_pos (by simp_all [siteQ]), ho]⟩, by omega, St.Le.of ⟨rfl, rfl, (by show some _ = some _; simp), rfl, rfl, trivial⟩ rfl (by rw [List.map_append]; rfl)⟩
                  | exact ⟨i + 1, out ++ [i], b2, ⟨by omega, by rw [filter_succ, if_pos (by simp_all [siteQ]), ho]⟩, by omega, St.Le.of ⟨rfl, rfl, (by show some _ = some _; simp), rfl, rfl, trivial⟩ rfl (by rw [List.map_append]; rfl)⟩
                  | exact ⟨i + 1, out, k, ⟨by omega, by rw [filter_succ, if_neg (by simp_all [siteQ]), ho, List.append_nil]⟩, by omega, St.Le.of ⟨rfl, rfl, rfl, rfl, rfl, trivial⟩⟩
      · try simp only [decide_eq_true_eq, decide_eq_false_iff_not, Bool.not_eq_true', Bool.not_eq_false', beq_iff_eq, bne_iff_ne, ne_eq, beq_eq_false_iff_ne, bne_eq_false_iff_eq, Int.not_lt, Int.not_le, Nat.not_lt, Nat.not_le, Int.ofNat_lt, Int.ofNat_le, Bool.not_eq_eq_eq_not, Bool.not_true, Bool.not_false] at hc3
        refine SCode.exit ?_
        show SCode _ _ _ _
        refine SCode.seqR ?_
        refine SOps.freezeS (t := 7) 0 rfl rfl rfl (by simp) ?_
        obtain rfl : i = (runes s).length + 1 := by omega
        refine SOps.move rfl ?_
        refine SOps.assign rfl ?_
        refine SOps.nil ?_
        refine SCode.drop ?_
        refine SCode.ret ?_
        exact ⟨_, Res.one (.tmp rfl), by first | (rw [sitesQ, if_neg (by simp_all [okR])]; rfl) | (rw [sitesQ, if_pos hok, ← ho]; rfl), rfl⟩
def resF (fr : Int) (to : List Int) : List Int → Nat → List Nat → List Int
  | [], i, ss => if ss.head? = some i then to else []
  | c :: w, i, ss => (if ss.head? = some i then to else []) ++ ((if ss.head? = some i ∧ fr ≠ 0 then [] else [c]) ++ resF fr to w (i + 1) (if ss.head? = some i then ss.tail else ss))
theorem resF_nil (fr : Int) (to : List Int) (i : Nat) (ss : List Nat) : resF fr to [] i ss = if ss.head? = some i then to else [] := rfl
theorem resF_cons (fr : Int) (to : List Int) (c : Int) (w : List Int) (i : Nat) (ss : List Nat) : resF fr to (c :: w) i ss = (if ss.head? = some i then to else []) ++ ((if ss.head? = some i ∧ fr ≠ 0 then [] else [c]) ++ resF fr to w (i + 1) (if ss.head? = some i then ss.tail else ss)) := rfl
theorem resF_len (fr : Int) (to : List Int) : ∀ (w : List Int) (i : Nat) (ss : List Nat), (resF fr to w i ss).length ≤ (w.length + 1) * (to.length + 1)
  | [], i, ss => by rw [resF_nil]; split <;> simp
  | c :: w, i, ss => by
    have := resF_len fr to w (i + 1) (if ss.head? = some i then ss.tail else ss)
    rw [resF_cons, List.length_append, List.length_append, List.length_cons, Nat.add_mul (w.length + 1) 1]
    have h1 : (if ss.head? = some i then to else []).length ≤ to.length := by split <;> simp
    have h2 : (if ss.head? = some i ∧ fr ≠ 0 then [] else [c]).length ≤ 1 := by split <;> simp
    omega
theorem rResult (r : Rule) (l : List Nat) (s : ByteArray) (h4 : (runes r.to).length ≤ 4) (h40 : (runes s).length ≤ 40) : GCall Tryd.prog E 42 [.agg (encR r), DNats l, .v (.string s)] [] (fun d H => d = .v (.string (encs (resF r.fr (runes r.to) (runes s) 0 l))) ∧ H = []) := by
  refine GCall.body (C := ⟨Tryd.prog, E, true⟩) Tryd.func42 rfl (fun _ => rfl) (by kernel_rfl) rfl ?_
  refine SCode.seqR ?_
  refine SOps.boxAM rfl rfl ?_
  refine SOps.assign rfl ?_
  refine SOps.nil ?_
  refine SCode.seqR ?_
  refine SOps.move rfl ?_
  refine SOps.runesF rfl rfl strB_9 sliceB_35_21_1 intB_21_i32 ?_
  refine SOps.assign rfl ?_
  refine SOps.nil ?_
  refine SCode.seqR ?_
  refine SOps.fieldPin rfl fieldB_25_1_1 ?_
  refine SOps.loadPin rfl flatB_9 ?_
  refine SOps.runesF rfl rfl strB_9 sliceB_35_21_1 intB_21_i32 ?_
  refine SOps.assign rfl ?_
  refine SOps.nil ?_
  refine SCode.seqR ?_
  refine SOps.assign rfl ?_
  refine SOps.nil ?_
  refine SCode.seq ?_
  refine SCode.seqR ?_
  refine SOps.assign rfl ?_
  refine SOps.nil ?_
  refine SCode.block ?_
  refine SCode.loop4 (fun (i : Nat) (ss : List Nat) (out : List Int) (k : Nat) => (⟨61, [(1, DNats ss), (3, .ipin (encR r)), (7, DRunes (runes s)), (8, DRunes (runes r.to)), (9, accD 1 k (out.map rcell)), (10, .v (.int .i64 (i : Int)))], accH 21 1 k (out.map rcell) ++ []⟩ : St)) (fun (i : Nat) (ss : List Nat) (out : List Int) (k : Nat) => out.length ≤ 5 * i ∧ ((i ≤ (runes s).length ∧ out ++ resF r.fr (runes r.to) ((runes s).drop i) i ss = resF r.fr (runes r.to) (runes s) 0 l) ∨ (i = (runes s).length + 1 ∧ out = resF r.fr (runes r.to) (runes s) 0 l))) (fun (i : Nat) (ss : List Nat) (out : List Int) (k : Nat) => (runes s).length + 1 - i) (0) (l) ([]) (0) (by exact ⟨Nat.le_refl _, .inl ⟨Nat.zero_le _, rfl⟩⟩) (St.Le.of ⟨(by first | rfl | (show some _ = some _; simp)), (by first | rfl | (show some _ = some _; simp)), (by first | rfl | (show some _ = some _; simp)), (by first | rfl | (show some _ = some _; simp)), (by first | rfl | (show some _ = some _; simp)), (by first | rfl | (show some _ = some _; simp)), trivial⟩ rfl (by first | rfl | (simp))) ?_
  rintro i ss out k ⟨hol, hf⟩
  refine SCode.seq ?_
  refine SCode.seqR ?_
  refine SOps.move rfl ?_
  refine SOps.move rfl ?_
  refine SOps.lenM rfl sliceB_35_21_1 ?_
  refine SOps.bin rfl rfl rfl ?_
  refine SOps.nil ?_
  refine SCode.cond rfl (fun hc1 => ?_) (fun hc1 => ?_)
  · try simp only [decide_eq_true_eq, decide_eq_false_iff_not, Bool.not_eq_true', Bool.not_eq_false', beq_iff_eq, bne_iff_ne, ne_eq, beq_eq_false_iff_ne, bne_eq_false_iff_eq, Int.not_lt, Int.not_le, Nat.not_lt, Nat.not_le, Int.ofNat_lt, Int.ofNat_le, Bool.not_eq_eq_eq_not, Bool.not_true, Bool.not_false] at hc1
    refine SCode.skip ?_
    show SCode _ _ _ _
    refine SCode.seq ?_
    refine SCode.block ?_
    refine SCode.seqR ?_
    have hf2 := (hf.resolve_right (by omega)).2
    have hdn : i = (runes s).length → (runes s).drop i = [] := fun h => List.drop_eq_nil_of_le (by omega)
    have hdc : ∀ h : i < (runes s).length, (runes s).drop i = (runes s)[i] :: (runes s).drop (i + 1) := fun h => List.drop_eq_getElem_cons h
    refine SOps.move rfl ?_
    refine SOps.lenM rfl sliceB_30_3_1 ?_
    refine SOps.bin rfl rfl rfl ?_
    refine SOps.move rfl ?_
    refine SOps.caseB 26 rfl (fun hb2 => ?_) (fun hb2 => ?_)
    · try simp only [decide_eq_true_eq, decide_eq_false_iff_not, Bool.not_eq_true', Bool.not_eq_false', beq_iff_eq, bne_iff_ne, ne_eq, beq_eq_false_iff_ne, bne_eq_false_iff_eq, Int.not_lt, Int.not_le, Nat.not_lt, Nat.not_le, Int.ofNat_lt, Int.ofNat_le, Bool.not_eq_eq_eq_not, Bool.not_true, Bool.not_false] at hb2
      obtain ⟨s0, ss0, rfl⟩ : ∃ s0 ss0, ss = s0 :: ss0 := by cases ss with | nil => exact absurd hb2 (by simp) | cons x y => exact ⟨x, y, rfl⟩
      refine SOps.move rfl ?_
      refine SOps.indexM (0) rfl rfl sliceB_30_3_1 (by first | omega | (simp only [lenB]; omega)) (by first | omega | (simp only [lenB]; omega)) ?_
      refine SOps.loadPin rfl flatB_3 ?_
      refine SOps.move rfl ?_
      refine SOps.bin rfl rfl rfl ?_
      refine SOps.pick rfl rfl ?_
      refine SOps.assign rfl ?_
      refine SOps.nil ?_
      refine SCode.seq ?_
      refine SCode.seqR ?_
      refine SOps.move rfl ?_
      refine SOps.nil ?_
      refine SCode.cond rfl (fun hc3 => ?_) (fun hc3 => ?_)
      · try simp only [decide_eq_true_eq, decide_eq_false_iff_not, Bool.not_eq_true', Bool.not_eq_false', beq_iff_eq, bne_iff_ne, ne_eq, beq_eq_false_iff_ne, bne_eq_false_iff_eq, Int.not_lt, Int.not_le, Nat.not_lt, Nat.not_le, Int.ofNat_lt, Int.ofNat_le, Bool.not_eq_eq_eq_not, Bool.not_true, Bool.not_false] at hc3
        have hs0 : s0 = i := Int.ofNat.inj hc3
        refine SCode.seqR ?_
        refine SOps.move rfl ?_
        refine SOps.sliceD (n1 := 0) (1) sliceB_30_3_1 rfl rfl (by first | omega | (simp only [lenB]; omega)) (by first | omega | (simp only [lenB]; omega)) ?_
        refine SOps.assign rfl ?_
        refine SOps.nil ?_
        refine SCode.region ?_
        refine SOps.move rfl ?_
        refine SOps.move rfl ?_
        refine SOps.appendAccE [] [] sliceB_35_21_1 elemB_21_1_4 rfl rfl rfl SrcD.isl (by simp [lenB]; omega) (by simp; omega) (fun kA => ?_)
        refine SOps.assign rfl ?_
        refine SOps.nil ?_
        show SCode _ _ _ _
        refine SCode.seqR ?_
        refine SOps.move rfl ?_
        refine SOps.move rfl ?_
        refine SOps.lenM rfl sliceB_35_21_1 ?_
        refine SOps.bin rfl rfl rfl ?_
        refine SOps.move rfl ?_
        refine SOps.caseB 43 rfl (fun hb4 => ?_) (fun hb4 => ?_)
        · try simp only [decide_eq_true_eq, decide_eq_false_iff_not, Bool.not_eq_true', Bool.not_eq_false', beq_iff_eq, bne_iff_ne, ne_eq, beq_eq_false_iff_ne, bne_eq_false_iff_eq, Int.not_lt, Int.not_le, Nat.not_lt, Nat.not_le, Int.ofNat_lt, Int.ofNat_le, Bool.not_eq_eq_eq_not, Bool.not_true, Bool.not_false] at hb4
          refine SOps.move rfl ?_
          refine SOps.un rfl rfl ?_
          refine SOps.move rfl ?_
          refine SOps.caseB 46 rfl (fun hb5 => ?_) (fun hb5 => ?_)
          · try simp only [decide_eq_true_eq, decide_eq_false_iff_not, Bool.not_eq_true', Bool.not_eq_false', beq_iff_eq, bne_iff_ne, ne_eq, beq_eq_false_iff_ne, bne_eq_false_iff_eq, Int.not_lt, Int.not_le, Nat.not_lt, Nat.not_le, Int.ofNat_lt, Int.ofNat_le, Bool.not_eq_eq_eq_not, Bool.not_true, Bool.not_false] at hb5
            refine SOps.skip rfl ?_
            refine SOps.skip rfl ?_
            refine SOps.skip rfl ?_
            refine SOps.pick rfl rfl ?_
            refine SOps.pick rfl rfl ?_
            refine SOps.nil ?_
            refine SCode.cond rfl (fun _ => ?_) (fun h => by cases h)
            refine SCode.region ?_
            refine SOps.move rfl ?_
            refine SOps.move rfl ?_
            refine SOps.move rfl ?_
            refine SOps.indexM (i) rfl rfl sliceB_35_21_1 (by first | omega | (simp only [lenB]; omega)) (by first | omega | (simp only [lenB]; omega)) ?_
            refine SOps.loadPin rfl flatB_21 ?_
            refine SOps.litF rfl sliceB_35_21_1 zeroIs_21 rfl ?_
            refine SOps.appendAcc [] [] sliceB_35_21_1 elemB_21_1_4 rfl rfl rfl SrcD.isl (by simp) (by simp [lenB]; omega) (by simp; omega) (fun kB => ?_)
            refine SOps.assign rfl ?_
            refine SOps.nil ?_
            show SCode _ _ _ _
            refine SCode.region ?_
            refine SOps.move rfl ?_
            refine SOps.addI rfl rfl (by first | omega | (simp only [lenB]; omega)) (by first | omega | (simp only [lenB]; omega)) ?_
            refine SOps.assign rfl ?_
            refine SOps.nil ?_
            first
              | (exfalso; simp only [List.getElem_cons_zero] at *; omega)
              | exact ⟨i + 1, ss0, out ++ runes r.to ++ [(runes s)[i]], ((fun _ : Nat => kB) kA), ⟨by first | omega | (simp; omega), by cases Nat.lt_or_ge i (runes s).length with | inl hlt => (first | (exfalso; omega) | (left; refine ⟨by omega, ?_⟩; rw [← hf2, hdc hlt, resF_cons]; clear hf2 hf hdc hdn; simp_all; done)) | inr hge => (first | (exfalso; omega) | (right; refine ⟨by omega, ?_⟩; rw [← hf2, hdn (by omega), resF_nil]; clear hf2 hf hdc hdn; simp_all; done))⟩, by omega, St.Le.of ⟨rfl, rfl, rfl, rfl, (by show some _ = some _; first | (simp only [List.map_append, List.append_assoc]; done) | (simp only [List.map_append, List.append_assoc]; rfl)), rfl, trivial⟩ rfl (by first | (simp only [List.map_append, List.append_assoc]; done) | (simp only [List.map_append, List.append_assoc]; rfl))⟩
              | exact ⟨i + 1, (s0 :: ss0), out ++ runes r.to ++ [(runes s)[i]], ((fun _ : Nat => kB) kA), ⟨by first | omega | (simp; omega), by cases Nat.lt_or_ge i (runes s).length with | inl hlt => (first | (exfalso; omega) | (left; refine ⟨by omega, ?_⟩; rw [← hf2, hdc hlt, resF_cons]; clear hf2 hf hdc hdn; simp_all; done)) | inr hge => (first | (exfalso; omega) | (right; refine ⟨by omega, ?_⟩; rw [← hf2, hdn (by omega), resF_nil]; clear hf2 hf hdc hdn; simp_all; done))⟩, by omega, St.Le.of ⟨rfl, rfl, rfl, rfl, (by show some _ = some _; first | (simp only [List.map_append, List.append_assoc]; done) | (simp only [List.map_append, List.append_assoc]; rfl)), rfl, trivial⟩ rfl (by first | (simp only [List.map_append, List.append_assoc]; done) | (simp only [List.map_append, List.append_assoc]; rfl))⟩
              | exact ⟨i + 1, [], out ++ runes r.to ++ [(runes s)[i]], ((fun _ : Nat => kB) kA), ⟨by first | omega | (simp; omega), by cases Nat.lt_or_ge i (runes s).length with | inl hlt => (first | (exfalso; omega) | (left; refine ⟨by omega, ?_⟩; rw [← hf2, hdc hlt, resF_cons]; clear hf2 hf hdc hdn; simp_all; done)) | inr hge => (first | (exfalso; omega) | (right; refine ⟨by omega, ?_⟩; rw [← hf2, hdn (by omega), resF_nil]; clear hf2 hf hdc hdn; simp_all; done))⟩, by omega, St.Le.of ⟨rfl, rfl, rfl, rfl, (by show some _ = some _; first | (simp only [List.map_append, List.append_assoc]; done) | (simp only [List.map_append, List.append_assoc]; rfl)), rfl, trivial⟩ rfl (by first | (simp only [List.map_append, List.append_assoc]; done) | (simp only [List.map_append, List.append_assoc]; rfl))⟩
              | exact ⟨i + 1, ss0, out ++ runes r.to, kA, ⟨by first | omega | (simp; omega), by cases Nat.lt_or_ge i (runes s).length with | inl hlt => (first | (exfalso; omega) | (left; refine ⟨by omega, ?_⟩; rw [← hf2, hdc hlt, resF_cons]; clear hf2 hf hdc hdn; simp_all; done)) | inr hge => (first | (exfalso; omega) | (right; refine ⟨by omega, ?_⟩; rw [← hf2, hdn (by omega), resF_nil]; clear hf2 hf hdc hdn; simp_all; done))⟩, by omega, St.Le.of ⟨rfl, rfl, rfl, rfl, (by show some _ = some _; first | (simp only [List.map_append, List.append_assoc]; done) | (simp only [List.map_append, List.append_assoc]; rfl)), rfl, trivial⟩ rfl (by first | (simp only [List.map_append, List.append_assoc]; done) | (simp only [List.map_append, List.append_assoc]; rfl))⟩
              | exact ⟨i + 1, (s0 :: ss0), out ++ runes r.to, kA, ⟨by first | omega | (simp; omega), by cases Nat.lt_or_ge i (runes s).length with | inl hlt => (first | (exfalso; omega) | (left; refine ⟨by omega, ?_⟩; rw [← hf2, hdc hlt, resF_cons]; clear hf2 hf hdc hdn; simp_all; done)) | inr hge => (first | (exfalso; omega) | (right; refine ⟨by omega, ?_⟩; rw [← hf2, hdn (by omega), resF_nil]; clear hf2 hf hdc hdn; simp_all; done))⟩, by omega, St.Le.of ⟨rfl, rfl, rfl, rfl, (by show some _ = some _; first | (simp only [List.map_append, List.append_assoc]; done) | (simp only [List.map_append, List.append_assoc]; rfl)), rfl, trivial⟩ rfl (by first | (simp only [List.map_append, List.append_assoc]; done) | (simp only [List.map_append, List.append_assoc]; rfl))⟩
              | exact ⟨i + 1, [], out ++ runes r.to, kA, ⟨by first | omega | (simp; omega), by cases Nat.lt_or_ge i (runes s).length with | inl hlt => (first | (exfalso; omega) | (left; refine ⟨by omega, ?_⟩; rw [← hf2, hdc hlt, resF_cons]; clear hf2 hf hdc hdn; simp_all; done)) | inr hge => (first | (exfalso; omega) | (right; refine ⟨by omega, ?_⟩; rw [← hf2, hdn (by omega), resF_nil]; clear hf2 hf hdc hdn; simp_all; done))⟩, by omega, St.Le.of ⟨rfl, rfl, rfl, rfl, (by show some _ = some _; first | (simp only [List.map_append, List.append_assoc]; done) | (simp only [List.map_append, List.append_assoc]; rfl)), rfl, trivial⟩ rfl (by first | (simp only [List.map_append, List.append_assoc]; done) | (simp only [List.map_append, List.append_assoc]; rfl))⟩
              | exact ⟨i + 1, ss0, out ++ [(runes s)[i]], kB, ⟨by first | omega | (simp; omega), by cases Nat.lt_or_ge i (runes s).length with | inl hlt => (first | (exfalso; omega) | (left; refine ⟨by omega, ?_⟩; rw [← hf2, hdc hlt, resF_cons]; clear hf2 hf hdc hdn; simp_all; done)) | inr hge => (first | (exfalso; omega) | (right; refine ⟨by omega, ?_⟩; rw [← hf2, hdn (by omega), resF_nil]; clear hf2 hf hdc hdn; simp_all; done))⟩, by omega, St.Le.of ⟨rfl, rfl, rfl, rfl, (by show some _ = some _; first | (simp only [List.map_append, List.append_assoc]; done) | (simp only [List.map_append, List.append_assoc]; rfl)), rfl, trivial⟩ rfl (by first | (simp only [List.map_append, List.append_assoc]; done) | (simp only [List.map_append, List.append_assoc]; rfl))⟩
              | exact ⟨i + 1, (s0 :: ss0), out ++ [(runes s)[i]], kB, ⟨by first | omega | (simp; omega), by cases Nat.lt_or_ge i (runes s).length with | inl hlt => (first | (exfalso; omega) | (left; refine ⟨by omega, ?_⟩; rw [← hf2, hdc hlt, resF_cons]; clear hf2 hf hdc hdn; simp_all; done)) | inr hge => (first | (exfalso; omega) | (right; refine ⟨by omega, ?_⟩; rw [← hf2, hdn (by omega), resF_nil]; clear hf2 hf hdc hdn; simp_all; done))⟩, by omega, St.Le.of ⟨rfl, rfl, rfl, rfl, (by show some _ = some _; first | (simp only [List.map_append, List.append_assoc]; done) | (simp only [List.map_append, List.append_assoc]; rfl)), rfl, trivial⟩ rfl (by first | (simp only [List.map_append, List.append_assoc]; done) | (simp only [List.map_append, List.append_assoc]; rfl))⟩
              | exact ⟨i + 1, [], out ++ [(runes s)[i]], kB, ⟨by first | omega | (simp; omega), by cases Nat.lt_or_ge i (runes s).length with | inl hlt => (first | (exfalso; omega) | (left; refine ⟨by omega, ?_⟩; rw [← hf2, hdc hlt, resF_cons]; clear hf2 hf hdc hdn; simp_all; done)) | inr hge => (first | (exfalso; omega) | (right; refine ⟨by omega, ?_⟩; rw [← hf2, hdn (by omega), resF_nil]; clear hf2 hf hdc hdn; simp_all; done))⟩, by omega, St.Le.of ⟨rfl, rfl, rfl, rfl, (by show some _ = some _; first | (simp only [List.map_append, List.append_assoc]; done) | (simp only [List.map_append, List.append_assoc]; rfl)), rfl, trivial⟩ rfl (by first | (simp only [List.map_append, List.append_assoc]; done) | (simp only [List.map_append, List.append_assoc]; rfl))⟩
              | exact ⟨i + 1, ss0, out, k, ⟨by first | omega | (simp; omega), by cases Nat.lt_or_ge i (runes s).length with | inl hlt => (first | (exfalso; omega) | (left; refine ⟨by omega, ?_⟩; rw [← hf2, hdc hlt, resF_cons]; clear hf2 hf hdc hdn; simp_all; done)) | inr hge => (first | (exfalso; omega) | (right; refine ⟨by omega, ?_⟩; rw [← hf2, hdn (by omega), resF_nil]; clear hf2 hf hdc hdn; simp_all; done))⟩, by omega, St.Le.of ⟨rfl, rfl, rfl, rfl, rfl, rfl, trivial⟩ rfl (rfl)⟩
              | exact ⟨i + 1, (s0 :: ss0), out, k, ⟨by first | omega | (simp; omega), by cases Nat.lt_or_ge i (runes s).length with | inl hlt => (first | (exfalso; omega) | (left; refine ⟨by omega, ?_⟩; rw [← hf2, hdc hlt, resF_cons]; clear hf2 hf hdc hdn; simp_all; done)) | inr hge => (first | (exfalso; omega) | (right; refine ⟨by omega, ?_⟩; rw [← hf2, hdn (by omega), resF_nil]; clear hf2 hf hdc hdn; simp_all; done))⟩, by omega, St.Le.of ⟨rfl, rfl, rfl, rfl, rfl, rfl, trivial⟩ rfl (rfl)⟩
              | exact ⟨i + 1, [], out, k, ⟨by first | omega | (simp; omega), by cases Nat.lt_or_ge i (runes s).length with | inl hlt => (first | (exfalso; omega) | (left; refine ⟨by omega, ?_⟩; rw [← hf2, hdc hlt, resF_cons]; clear hf2 hf hdc hdn; simp_all; done)) | inr hge => (first | (exfalso; omega) | (right; refine ⟨by omega, ?_⟩; rw [← hf2, hdn (by omega), resF_nil]; clear hf2 hf hdc hdn; simp_all; done))⟩, by omega, St.Le.of ⟨rfl, rfl, rfl, rfl, rfl, rfl, trivial⟩ rfl (rfl)⟩
          · try simp only [decide_eq_true_eq, decide_eq_false_iff_not, Bool.not_eq_true', Bool.not_eq_false', beq_iff_eq, bne_iff_ne, ne_eq, beq_eq_false_iff_ne, bne_eq_false_iff_eq, Int.not_lt, Int.not_le, Nat.not_lt, Nat.not_le, Int.ofNat_lt, Int.ofNat_le, Bool.not_eq_eq_eq_not, Bool.not_true, Bool.not_false] at hb5
            refine SOps.fieldPin rfl fieldB_25_0_0 ?_
            refine SOps.loadPin rfl flatB_21 ?_
            refine SOps.bin rfl rfl rfl ?_
            refine SOps.pick rfl rfl ?_
            refine SOps.pick rfl rfl ?_
            refine SOps.nil ?_
            refine SCode.cond rfl (fun hc6 => ?_) (fun hc6 => ?_)
            · try simp only [decide_eq_true_eq, decide_eq_false_iff_not, Bool.not_eq_true', Bool.not_eq_false', beq_iff_eq, bne_iff_ne, ne_eq, beq_eq_false_iff_ne, bne_eq_false_iff_eq, Int.not_lt, Int.not_le, Nat.not_lt, Nat.not_le, Int.ofNat_lt, Int.ofNat_le, Bool.not_eq_eq_eq_not, Bool.not_true, Bool.not_false] at hc6
              refine SCode.region ?_
              refine SOps.move rfl ?_
              refine SOps.move rfl ?_
              refine SOps.move rfl ?_
              refine SOps.indexM (i) rfl rfl sliceB_35_21_1 (by first | omega | (simp only [lenB]; omega)) (by first | omega | (simp only [lenB]; omega)) ?_
              refine SOps.loadPin rfl flatB_21 ?_
              refine SOps.litF rfl sliceB_35_21_1 zeroIs_21 rfl ?_
              refine SOps.appendAcc [] [] sliceB_35_21_1 elemB_21_1_4 rfl rfl rfl SrcD.isl (by simp) (by simp [lenB]; omega) (by simp; omega) (fun kB => ?_)
              refine SOps.assign rfl ?_
              refine SOps.nil ?_
              show SCode _ _ _ _
              refine SCode.region ?_
              refine SOps.move rfl ?_
              refine SOps.addI rfl rfl (by first | omega | (simp only [lenB]; omega)) (by first | omega | (simp only [lenB]; omega)) ?_
              refine SOps.assign rfl ?_
              refine SOps.nil ?_
              first
                | (exfalso; simp only [List.getElem_cons_zero] at *; omega)
                | exact ⟨i + 1, ss0, out ++ runes r.to ++ [(runes s)[i]], ((fun _ : Nat => kB) kA), ⟨by first | omega | (simp; omega), by cases Nat.lt_or_ge i (runes s).length with | inl hlt => (first | (exfalso; omega) | (left; refine ⟨by omega, ?_⟩; rw [← hf2, hdc hlt, resF_cons]; clear hf2 hf hdc hdn; simp_all; done)) | inr hge => (first | (exfalso; omega) | (right; refine ⟨by omega, ?_⟩; rw [← hf2, hdn (by omega), resF_nil]; clear hf2 hf hdc hdn; simp_all; done))⟩, by omega, St.Le.of ⟨rfl, rfl, rfl, rfl, (by show some _ = some _; first | (simp only [List.map_append, List.append_assoc]; done) | (simp only [List.map_append, List.append_assoc]; rfl)), rfl, trivial⟩ rfl (by first | (simp only [List.map_append, List.append_assoc]; done) | (simp only [List.map_append, List.append_assoc]; rfl))⟩
                | exact ⟨i + 1, (s0 :: ss0), out ++ runes r.to ++ [(runes s)[i]], ((fun _ : Nat => kB) kA), ⟨by first | omega | (simp; omega), by cases Nat.lt_or_ge i (runes s).length with | inl hlt => (first | (exfalso; omega) | (left; refine ⟨by omega, ?_⟩; rw [← hf2, hdc hlt, resF_cons]; clear hf2 hf hdc hdn; simp_all; done)) | inr hge => (first | (exfalso; omega) | (right; refine ⟨by omega, ?_⟩; rw [← hf2, hdn (by omega), resF_nil]; clear hf2 hf hdc hdn; simp_all; done))⟩, by omega, St.Le.of ⟨rfl, rfl, rfl, rfl, (by show some _ = some _; first | (simp only [List.map_append, List.append_assoc]; done) | (simp only [List.map_append, List.append_assoc]; rfl)), rfl, trivial⟩ rfl (by first | (simp only [List.map_append, List.append_assoc]; done) | (simp only [List.map_append, List.append_assoc]; rfl))⟩
                | exact ⟨i + 1, [], out ++ runes r.to ++ [(runes s)[i]], ((fun _ : Nat => kB) kA), ⟨by first | omega | (simp; omega), by cases Nat.lt_or_ge i (runes s).length with | inl hlt => (first | (exfalso; omega) | (left; refine ⟨by omega, ?_⟩; rw [← hf2, hdc hlt, resF_cons]; clear hf2 hf hdc hdn; simp_all; done)) | inr hge => (first | (exfalso; omega) | (right; refine ⟨by omega, ?_⟩; rw [← hf2, hdn (by omega), resF_nil]; clear hf2 hf hdc hdn; simp_all; done))⟩, by omega, St.Le.of ⟨rfl, rfl, rfl, rfl, (by show some _ = some _; first | (simp only [List.map_append, List.append_assoc]; done) | (simp only [List.map_append, List.append_assoc]; rfl)), rfl, trivial⟩ rfl (by first | (simp only [List.map_append, List.append_assoc]; done) | (simp only [List.map_append, List.append_assoc]; rfl))⟩
                | exact ⟨i + 1, ss0, out ++ runes r.to, kA, ⟨by first | omega | (simp; omega), by cases Nat.lt_or_ge i (runes s).length with | inl hlt => (first | (exfalso; omega) | (left; refine ⟨by omega, ?_⟩; rw [← hf2, hdc hlt, resF_cons]; clear hf2 hf hdc hdn; simp_all; done)) | inr hge => (first | (exfalso; omega) | (right; refine ⟨by omega, ?_⟩; rw [← hf2, hdn (by omega), resF_nil]; clear hf2 hf hdc hdn; simp_all; done))⟩, by omega, St.Le.of ⟨rfl, rfl, rfl, rfl, (by show some _ = some _; first | (simp only [List.map_append, List.append_assoc]; done) | (simp only [List.map_append, List.append_assoc]; rfl)), rfl, trivial⟩ rfl (by first | (simp only [List.map_append, List.append_assoc]; done) | (simp only [List.map_append, List.append_assoc]; rfl))⟩
                | exact ⟨i + 1, (s0 :: ss0), out ++ runes r.to, kA, ⟨by first | omega | (simp; omega), by cases Nat.lt_or_ge i (runes s).length with | inl hlt => (first | (exfalso; omega) | (left; refine ⟨by omega, ?_⟩; rw [← hf2, hdc hlt, resF_cons]; clear hf2 hf hdc hdn; simp_all; done)) | inr hge => (first | (exfalso; omega) | (right; refine ⟨by omega, ?_⟩; rw [← hf2, hdn (by omega), resF_nil]; clear hf2 hf hdc hdn; simp_all; done))⟩, by omega, St.Le.of ⟨rfl, rfl, rfl, rfl, (by show some _ = some _; first | (simp only [List.map_append, List.append_assoc]; done) | (simp only [List.map_append, List.append_assoc]; rfl)), rfl, trivial⟩ rfl (by first | (simp only [List.map_append, List.append_assoc]; done) | (simp only [List.map_append, List.append_assoc]; rfl))⟩
                | exact ⟨i + 1, [], out ++ runes r.to, kA, ⟨by first | omega | (simp; omega), by cases Nat.lt_or_ge i (runes s).length with | inl hlt => (first | (exfalso; omega) | (left; refine ⟨by omega, ?_⟩; rw [← hf2, hdc hlt, resF_cons]; clear hf2 hf hdc hdn; simp_all; done)) | inr hge => (first | (exfalso; omega) | (right; refine ⟨by omega, ?_⟩; rw [← hf2, hdn (by omega), resF_nil]; clear hf2 hf hdc hdn; simp_all; done))⟩, by omega, St.Le.of ⟨rfl, rfl, rfl, rfl, (by show some _ = some _; first | (simp only [List.map_append, List.append_assoc]; done) | (simp only [List.map_append, List.append_assoc]; rfl)), rfl, trivial⟩ rfl (by first | (simp only [List.map_append, List.append_assoc]; done) | (simp only [List.map_append, List.append_assoc]; rfl))⟩
                | exact ⟨i + 1, ss0, out ++ [(runes s)[i]], kB, ⟨by first | omega | (simp; omega), by cases Nat.lt_or_ge i (runes s).length with | inl hlt => (first | (exfalso; omega) | (left; refine ⟨by omega, ?_⟩; rw [← hf2, hdc hlt, resF_cons]; clear hf2 hf hdc hdn; simp_all; done)) | inr hge => (first | (exfalso; omega) | (right; refine ⟨by omega, ?_⟩; rw [← hf2, hdn (by omega), resF_nil]; clear hf2 hf hdc hdn; simp_all; done))⟩, by omega, St.Le.of ⟨rfl, rfl, rfl, rfl, (by show some _ = some _; first | (simp only [List.map_append, List.append_assoc]; done) | (simp only [List.map_append, List.append_assoc]; rfl)), rfl, trivial⟩ rfl (by first | (simp only [List.map_append, List.append_assoc]; done) | (simp only [List.map_append, List.append_assoc]; rfl))⟩
                | exact ⟨i + 1, (s0 :: ss0), out ++ [(runes s)[i]], kB, ⟨by first | omega | (simp; omega), by cases Nat.lt_or_ge i (runes s).length with | inl hlt => (first | (exfalso; omega) | (left; refine ⟨by omega, ?_⟩; rw [← hf2, hdc hlt, resF_cons]; clear hf2 hf hdc hdn; simp_all; done)) | inr hge => (first | (exfalso; omega) | (right; refine ⟨by omega, ?_⟩; rw [← hf2, hdn (by omega), resF_nil]; clear hf2 hf hdc hdn; simp_all; done))⟩, by omega, St.Le.of ⟨rfl, rfl, rfl, rfl, (by show some _ = some _; first | (simp only [List.map_append, List.append_assoc]; done) | (simp only [List.map_append, List.append_assoc]; rfl)), rfl, trivial⟩ rfl (by first | (simp only [List.map_append, List.append_assoc]; done) | (simp only [List.map_append, List.append_assoc]; rfl))⟩
                | exact ⟨i + 1, [], out ++ [(runes s)[i]], kB, ⟨by first | omega | (simp; omega), by cases Nat.lt_or_ge i (runes s).length with | inl hlt => (first | (exfalso; omega) | (left; refine ⟨by omega, ?_⟩; rw [← hf2, hdc hlt, resF_cons]; clear hf2 hf hdc hdn; simp_all; done)) | inr hge => (first | (exfalso; omega) | (right; refine ⟨by omega, ?_⟩; rw [← hf2, hdn (by omega), resF_nil]; clear hf2 hf hdc hdn; simp_all; done))⟩, by omega, St.Le.of ⟨rfl, rfl, rfl, rfl, (by show some _ = some _; first | (simp only [List.map_append, List.append_assoc]; done) | (simp only [List.map_append, List.append_assoc]; rfl)), rfl, trivial⟩ rfl (by first | (simp only [List.map_append, List.append_assoc]; done) | (simp only [List.map_append, List.append_assoc]; rfl))⟩
                | exact ⟨i + 1, ss0, out, k, ⟨by first | omega | (simp; omega), by cases Nat.lt_or_ge i (runes s).length with | inl hlt => (first | (exfalso; omega) | (left; refine ⟨by omega, ?_⟩; rw [← hf2, hdc hlt, resF_cons]; clear hf2 hf hdc hdn; simp_all; done)) | inr hge => (first | (exfalso; omega) | (right; refine ⟨by omega, ?_⟩; rw [← hf2, hdn (by omega), resF_nil]; clear hf2 hf hdc hdn; simp_all; done))⟩, by omega, St.Le.of ⟨rfl, rfl, rfl, rfl, rfl, rfl, trivial⟩ rfl (rfl)⟩
                | exact ⟨i + 1, (s0 :: ss0), out, k, ⟨by first | omega | (simp; omega), by cases Nat.lt_or_ge i (runes s).length with | inl hlt => (first | (exfalso; omega) | (left; refine ⟨by omega, ?_⟩; rw [← hf2, hdc hlt, resF_cons]; clear hf2 hf hdc hdn; simp_all; done)) | inr hge => (first | (exfalso; omega) | (right; refine ⟨by omega, ?_⟩; rw [← hf2, hdn (by omega), resF_nil]; clear hf2 hf hdc hdn; simp_all; done))⟩, by omega, St.Le.of ⟨rfl, rfl, rfl, rfl, rfl, rfl, trivial⟩ rfl (rfl)⟩
                | exact ⟨i + 1, [], out, k, ⟨by first | omega | (simp; omega), by cases Nat.lt_or_ge i (runes s).length with | inl hlt => (first | (exfalso; omega) | (left; refine ⟨by omega, ?_⟩; rw [← hf2, hdc hlt, resF_cons]; clear hf2 hf hdc hdn; simp_all; done)) | inr hge => (first | (exfalso; omega) | (right; refine ⟨by omega, ?_⟩; rw [← hf2, hdn (by omega), resF_nil]; clear hf2 hf hdc hdn; simp_all; done))⟩, by omega, St.Le.of ⟨rfl, rfl, rfl, rfl, rfl, rfl, trivial⟩ rfl (rfl)⟩
            · try simp only [decide_eq_true_eq, decide_eq_false_iff_not, Bool.not_eq_true', Bool.not_eq_false', beq_iff_eq, bne_iff_ne, ne_eq, beq_eq_false_iff_ne, bne_eq_false_iff_eq, Int.not_lt, Int.not_le, Nat.not_lt, Nat.not_le, Int.ofNat_lt, Int.ofNat_le, Bool.not_eq_eq_eq_not, Bool.not_true, Bool.not_false] at hc6
              refine SCode.skip ?_
              show SCode _ _ _ _
              refine SCode.region ?_
              refine SOps.move rfl ?_
              refine SOps.addI rfl rfl (by first | omega | (simp only [lenB]; omega)) (by first | omega | (simp only [lenB]; omega)) ?_
              refine SOps.assign rfl ?_
              refine SOps.nil ?_
              first
                | (exfalso; simp only [List.getElem_cons_zero] at *; omega)
                | exact ⟨i + 1, ss0, out ++ runes r.to ++ [(runes s)[i]], ((fun _ : Nat => kB) kA), ⟨by first | omega | (simp; omega), by cases Nat.lt_or_ge i (runes s).length with | inl hlt => (first | (exfalso; omega) | (left; refine ⟨by omega, ?_⟩; rw [← hf2, hdc hlt, resF_cons]; clear hf2 hf hdc hdn; simp_all; done)) | inr hge => (first | (exfalso; omega) | (right; refine ⟨by omega, ?_⟩; rw [← hf2, hdn (by omega), resF_nil]; clear hf2 hf hdc hdn; simp_all; done))⟩, by omega, St.Le.of ⟨rfl, rfl, rfl, rfl, (by show some _ = some _; first | (simp only [List.map_append, List.append_assoc]; done) | (simp only [List.map_append, List.append_assoc]; rfl)), rfl, trivial⟩ rfl (by first | (simp only [List.map_append, List.append_assoc]; done) | (simp only [List.map_append, List.append_assoc]; rfl))⟩
                | exact ⟨i + 1, (s0 :: ss0), out ++ runes r.to ++ [(runes s)[i]], ((fun _ : Nat => kB) kA), ⟨by first | omega | (simp; omega), by cases Nat.lt_or_ge i (runes s).length with | inl hlt => (first | (exfalso; omega) | (left; refine ⟨by omega, ?_⟩; rw [← hf2, hdc hlt, resF_cons]; clear hf2 hf hdc hdn; simp_all; done)) | inr hge => (first | (exfalso; omega) | (right; refine ⟨by omega, ?_⟩; rw [← hf2, hdn (by omega), resF_nil]; clear hf2 hf hdc hdn; simp_all; done))⟩, by omega, St.Le.of ⟨rfl, rfl, rfl, rfl, (by show some _ = some _; first | (simp only [List.map_append, List.append_assoc]; done) | (simp only [List.map_append, List.append_assoc]; rfl)), rfl, trivial⟩ rfl (by first | (simp only [List.map_append, List.append_assoc]; done) | (simp only [List.map_append, List.append_assoc]; rfl))⟩
                | exact ⟨i + 1, [], out ++ runes r.to ++ [(runes s)[i]], ((fun _ : Nat => kB) kA), ⟨by first | omega | (simp; omega), by cases Nat.lt_or_ge i (runes s).length with | inl hlt => (first | (exfalso; omega) | (left; refine ⟨by omega, ?_⟩; rw [← hf2, hdc hlt, resF_cons]; clear hf2 hf hdc hdn; simp_all; done)) | inr hge => (first | (exfalso; omega) | (right; refine ⟨by omega, ?_⟩; rw [← hf2, hdn (by omega), resF_nil]; clear hf2 hf hdc hdn; simp_all; done))⟩, by omega, St.Le.of ⟨rfl, rfl, rfl, rfl, (by show some _ = some _; first | (simp only [List.map_append, List.append_assoc]; done) | (simp only [List.map_append, List.append_assoc]; rfl)), rfl, trivial⟩ rfl (by first | (simp only [List.map_append, List.append_assoc]; done) | (simp only [List.map_append, List.append_assoc]; rfl))⟩
                | exact ⟨i + 1, ss0, out ++ runes r.to, kA, ⟨by first | omega | (simp; omega), by cases Nat.lt_or_ge i (runes s).length with | inl hlt => (first | (exfalso; omega) | (left; refine ⟨by omega, ?_⟩; rw [← hf2, hdc hlt, resF_cons]; clear hf2 hf hdc hdn; simp_all; done)) | inr hge => (first | (exfalso; omega) | (right; refine ⟨by omega, ?_⟩; rw [← hf2, hdn (by omega), resF_nil]; clear hf2 hf hdc hdn; simp_all; done))⟩, by omega, St.Le.of ⟨rfl, rfl, rfl, rfl, (by show some _ = some _; first | (simp only [List.map_append, List.append_assoc]; done) | (simp only [List.map_append, List.append_assoc]; rfl)), rfl, trivial⟩ rfl (by first | (simp only [List.map_append, List.append_assoc]; done) | (simp only [List.map_append, List.append_assoc]; rfl))⟩
                | exact ⟨i + 1, (s0 :: ss0), out ++ runes r.to, kA, ⟨by first | omega | (simp; omega), by cases Nat.lt_or_ge i (runes s).length with | inl hlt => (first | (exfalso; omega) | (left; refine ⟨by omega, ?_⟩; rw [← hf2, hdc hlt, resF_cons]; clear hf2 hf hdc hdn; simp_all; done)) | inr hge => (first | (exfalso; omega) | (right; refine ⟨by omega, ?_⟩; rw [← hf2, hdn (by omega), resF_nil]; clear hf2 hf hdc hdn; simp_all; done))⟩, by omega, St.Le.of ⟨rfl, rfl, rfl, rfl, (by show some _ = some _; first | (simp only [List.map_append, List.append_assoc]; done) | (simp only [List.map_append, List.append_assoc]; rfl)), rfl, trivial⟩ rfl (by first | (simp only [List.map_append, List.append_assoc]; done) | (simp only [List.map_append, List.append_assoc]; rfl))⟩
                | exact ⟨i + 1, [], out ++ runes r.to, kA, ⟨by first | omega | (simp; omega), by cases Nat.lt_or_ge i (runes s).length with | inl hlt => (first | (exfalso; omega) | (left; refine ⟨by omega, ?_⟩; rw [← hf2, hdc hlt, resF_cons]; clear hf2 hf hdc hdn; simp_all; done)) | inr hge => (first | (exfalso; omega) | (right; refine ⟨by omega, ?_⟩; rw [← hf2, hdn (by omega), resF_nil]; clear hf2 hf hdc hdn; simp_all; done))⟩, by omega, St.Le.of ⟨rfl, rfl, rfl, rfl, (by show some _ = some _; first | (simp only [List.map_append, List.append_assoc]; done) | (simp only [List.map_append, List.append_assoc]; rfl)), rfl, trivial⟩ rfl (by first | (simp only [List.map_append, List.append_assoc]; done) | (simp only [List.map_append, List.append_assoc]; rfl))⟩
                | exact ⟨i + 1, ss0, out ++ [(runes s)[i]], kB, ⟨by first | omega | (simp; omega), by cases Nat.lt_or_ge i (runes s).length with | inl hlt => (first | (exfalso; omega) | (left; refine ⟨by omega, ?_⟩; rw [← hf2, hdc hlt, resF_cons]; clear hf2 hf hdc hdn; simp_all; done)) | inr hge => (first | (exfalso; omega) | (right; refine ⟨by omega, ?_⟩; rw [← hf2, hdn (by omega), resF_nil]; clear hf2 hf hdc hdn; simp_all; done))⟩, by omega, St.Le.of ⟨rfl, rfl, rfl, rfl, (by show some _ = some _; first | (simp only [List.map_append, List.append_assoc]; done) | (simp only [List.map_append, List.append_assoc]; rfl)), rfl, trivial⟩ rfl (by first | (simp only [List.map_append, List.append_assoc]; done) | (simp only [List.map_append, List.append_assoc]; rfl))⟩
                | exact ⟨i + 1, (s0 :: ss0), out ++ [(runes s)[i]], kB, ⟨by first | omega | (simp; omega), by cases Nat.lt_or_ge i (runes s).length with | inl hlt => (first | (exfalso; omega) | (left; refine ⟨by omega, ?_⟩; rw [← hf2, hdc hlt, resF_cons]; clear hf2 hf hdc hdn; simp_all; done)) | inr hge => (first | (exfalso; omega) | (right; refine ⟨by omega, ?_⟩; rw [← hf2, hdn (by omega), resF_nil]; clear hf2 hf hdc hdn; simp_all; done))⟩, by omega, St.Le.of ⟨rfl, rfl, rfl, rfl, (by show some _ = some _; first | (simp only [List.map_append, List.append_assoc]; done) | (simp only [List.map_append, List.append_assoc]; rfl)), rfl, trivial⟩ rfl (by first | (simp only [List.map_append, List.append_assoc]; done) | (simp only [List.map_append, List.append_assoc]; rfl))⟩
                | exact ⟨i + 1, [], out ++ [(runes s)[i]], kB, ⟨by first | omega | (simp; omega), by cases Nat.lt_or_ge i (runes s).length with | inl hlt => (first | (exfalso; omega) | (left; refine ⟨by omega, ?_⟩; rw [← hf2, hdc hlt, resF_cons]; clear hf2 hf hdc hdn; simp_all; done)) | inr hge => (first | (exfalso; omega) | (right; refine ⟨by omega, ?_⟩; rw [← hf2, hdn (by omega), resF_nil]; clear hf2 hf hdc hdn; simp_all; done))⟩, by omega, St.Le.of ⟨rfl, rfl, rfl, rfl, (by show some _ = some _; first | (simp only [List.map_append, List.append_assoc]; done) | (simp only [List.map_append, List.append_assoc]; rfl)), rfl, trivial⟩ rfl (by first | (simp only [List.map_append, List.append_assoc]; done) | (simp only [List.map_append, List.append_assoc]; rfl))⟩
                | exact ⟨i + 1, ss0, out, k, ⟨by first | omega | (simp; omega), by cases Nat.lt_or_ge i (runes s).length with | inl hlt => (first | (exfalso; omega) | (left; refine ⟨by omega, ?_⟩; rw [← hf2, hdc hlt, resF_cons]; clear hf2 hf hdc hdn; simp_all; done)) | inr hge => (first | (exfalso; omega) | (right; refine ⟨by omega, ?_⟩; rw [← hf2, hdn (by omega), resF_nil]; clear hf2 hf hdc hdn; simp_all; done))⟩, by omega, St.Le.of ⟨rfl, rfl, rfl, rfl, rfl, rfl, trivial⟩ rfl (rfl)⟩
                | exact ⟨i + 1, (s0 :: ss0), out, k, ⟨by first | omega | (simp; omega), by cases Nat.lt_or_ge i (runes s).length with | inl hlt => (first | (exfalso; omega) | (left; refine ⟨by omega, ?_⟩; rw [← hf2, hdc hlt, resF_cons]; clear hf2 hf hdc hdn; simp_all; done)) | inr hge => (first | (exfalso; omega) | (right; refine ⟨by omega, ?_⟩; rw [← hf2, hdn (by omega), resF_nil]; clear hf2 hf hdc hdn; simp_all; done))⟩, by omega, St.Le.of ⟨rfl, rfl, rfl, rfl, rfl, rfl, trivial⟩ rfl (rfl)⟩
                | exact ⟨i + 1, [], out, k, ⟨by first | omega | (simp; omega), by cases Nat.lt_or_ge i (runes s).length with | inl hlt => (first | (exfalso; omega) | (left; refine ⟨by omega, ?_⟩; rw [← hf2, hdc hlt, resF_cons]; clear hf2 hf hdc hdn; simp_all; done)) | inr hge => (first | (exfalso; omega) | (right; refine ⟨by omega, ?_⟩; rw [← hf2, hdn (by omega), resF_nil]; clear hf2 hf hdc hdn; simp_all; done))⟩, by omega, St.Le.of ⟨rfl, rfl, rfl, rfl, rfl, rfl, trivial⟩ rfl (rfl)⟩
        · try simp only [decide_eq_true_eq, decide_eq_false_iff_not, Bool.not_eq_true', Bool.not_eq_false', beq_iff_eq, bne_iff_ne, ne_eq, beq_eq_false_iff_ne, bne_eq_false_iff_eq, Int.not_lt, Int.not_le, Nat.not_lt, Nat.not_le, Int.ofNat_lt, Int.ofNat_le, Bool.not_eq_eq_eq_not, Bool.not_true, Bool.not_false] at hb4
          refine SOps.skip rfl ?_
          refine SOps.skip rfl ?_
          refine SOps.skip rfl ?_
          refine SOps.skip rfl ?_
          refine SOps.skip rfl ?_
          refine SOps.skip rfl ?_
          refine SOps.skip rfl ?_
          refine SOps.pick rfl rfl ?_
          refine SOps.nil ?_
          refine SCode.cond rfl (fun h => by cases h) (fun _ => ?_)
          refine SCode.skip ?_
          show SCode _ _ _ _
          refine SCode.region ?_
          refine SOps.move rfl ?_
          refine SOps.addI rfl rfl (by first | omega | (simp only [lenB]; omega)) (by first | omega | (simp only [lenB]; omega)) ?_
          refine SOps.assign rfl ?_
          refine SOps.nil ?_
          first
            | (exfalso; simp only [List.getElem_cons_zero] at *; omega)
            | exact ⟨i + 1, ss0, out ++ runes r.to ++ [(runes s)[i]], ((fun _ : Nat => kB) kA), ⟨by first | omega | (simp; omega), by cases Nat.lt_or_ge i (runes s).length with | inl hlt => (first | (exfalso; omega) | (left; refine ⟨by omega, ?_⟩; rw [← hf2, hdc hlt, resF_cons]; clear hf2 hf hdc hdn; simp_all; done)) | inr hge => (first | (exfalso; omega) | (right; refine ⟨by omega, ?_⟩; rw [← hf2, hdn (by omega), resF_nil]; clear hf2 hf hdc hdn; simp_all; done))⟩, by omega, St.Le.of ⟨rfl, rfl, rfl, rfl, (by show some _ = some _; first | (simp only [List.map_append, List.append_assoc]; done) | (simp only [List.map_append, List.append_assoc]; rfl)), rfl, trivial⟩ rfl (by first | (simp only [List.map_append, List.append_assoc]; done) | (simp only [List.map_append, List.append_assoc]; rfl))⟩
            | exact ⟨i + 1, (s0 :: ss0), out ++ runes r.to ++ [(runes s)[i]], ((fun _ : Nat => kB) kA), ⟨by first | omega | (simp; omega), by cases Nat.lt_or_ge i (runes s).length with | inl hlt => (first | (exfalso; omega) | (left; refine ⟨by omega, ?_⟩; rw [← hf2, hdc hlt, resF_cons]; clear hf2 hf hdc hdn; simp_all; done)) | inr hge => (first | (exfalso; omega) | (right; refine ⟨by omega, ?_⟩; rw [← hf2, hdn (by omega), resF_nil]; clear hf2 hf hdc hdn; simp_all; done))⟩, by omega, St.Le.of ⟨rfl, rfl, rfl, rfl, (by show some _ = some _; first | (simp only [List.map_append, List.append_assoc]; done) | (simp only [List.map_append, List.append_assoc]; rfl)), rfl, trivial⟩ rfl (by first | (simp only [List.map_append, List.append_assoc]; done) | (simp only [List.map_append, List.append_assoc]; rfl))⟩
            | exact ⟨i + 1, [], out ++ runes r.to ++ [(runes s)[i]], ((fun _ : Nat => kB) kA), ⟨by first | omega | (simp; omega), by cases Nat.lt_or_ge i (runes s).length with | inl hlt => (first | (exfalso; omega) | (left; refine ⟨by omega, ?_⟩; rw [← hf2, hdc hlt, resF_cons]; clear hf2 hf hdc hdn; simp_all; done)) | inr hge => (first | (exfalso; omega) | (right; refine ⟨by omega, ?_⟩; rw [← hf2, hdn (by omega), resF_nil]; clear hf2 hf hdc hdn; simp_all; done))⟩, by omega, St.Le.of ⟨rfl, rfl, rfl, rfl, (by show some _ = some _; first | (simp only [List.map_append, List.append_assoc]; done) | (simp only [List.map_append, List.append_assoc]; rfl)), rfl, trivial⟩ rfl (by first | (simp only [List.map_append, List.append_assoc]; done) | (simp only [List.map_append, List.append_assoc]; rfl))⟩
            | exact ⟨i + 1, ss0, out ++ runes r.to, kA, ⟨by first | omega | (simp; omega), by cases Nat.lt_or_ge i (runes s).length with | inl hlt => (first | (exfalso; omega) | (left; refine ⟨by omega, ?_⟩; rw [← hf2, hdc hlt, resF_cons]; clear hf2 hf hdc hdn; simp_all; done)) | inr hge => (first | (exfalso; omega) | (right; refine ⟨by omega, ?_⟩; rw [← hf2, hdn (by omega), resF_nil]; clear hf2 hf hdc hdn; simp_all; done))⟩, by omega, St.Le.of ⟨rfl, rfl, rfl, rfl, (by show some _ = some _; first | (simp only [List.map_append, List.append_assoc]; done) | (simp only [List.map_append, List.append_assoc]; rfl)), rfl, trivial⟩ rfl (by first | (simp only [List.map_append, List.append_assoc]; done) | (simp only [List.map_append, List.append_assoc]; rfl))⟩
            | exact ⟨i + 1, (s0 :: ss0), out ++ runes r.to, kA, ⟨by first | omega | (simp; omega), by cases Nat.lt_or_ge i (runes s).length with | inl hlt => (first | (exfalso; omega) | (left; refine ⟨by omega, ?_⟩; rw [← hf2, hdc hlt, resF_cons]; clear hf2 hf hdc hdn; simp_all; done)) | inr hge => (first | (exfalso; omega) | (right; refine ⟨by omega, ?_⟩; rw [← hf2, hdn (by omega), resF_nil]; clear hf2 hf hdc hdn; simp_all; done))⟩, by omega, St.Le.of ⟨rfl, rfl, rfl, rfl, (by show some _ = some _; first | (simp only [List.map_append, List.append_assoc]; done) | (simp only [List.map_append, List.append_assoc]; rfl)), rfl, trivial⟩ rfl (by first | (simp only [List.map_append, List.append_assoc]; done) | (simp only [List.map_append, List.append_assoc]; rfl))⟩
            | exact ⟨i + 1, [], out ++ runes r.to, kA, ⟨by first | omega | (simp; omega), by cases Nat.lt_or_ge i (runes s).length with | inl hlt => (first | (exfalso; omega) | (left; refine ⟨by omega, ?_⟩; rw [← hf2, hdc hlt, resF_cons]; clear hf2 hf hdc hdn; simp_all; done)) | inr hge => (first | (exfalso; omega) | (right; refine ⟨by omega, ?_⟩; rw [← hf2, hdn (by omega), resF_nil]; clear hf2 hf hdc hdn; simp_all; done))⟩, by omega, St.Le.of ⟨rfl, rfl, rfl, rfl, (by show some _ = some _; first | (simp only [List.map_append, List.append_assoc]; done) | (simp only [List.map_append, List.append_assoc]; rfl)), rfl, trivial⟩ rfl (by first | (simp only [List.map_append, List.append_assoc]; done) | (simp only [List.map_append, List.append_assoc]; rfl))⟩
            | exact ⟨i + 1, ss0, out ++ [(runes s)[i]], kB, ⟨by first | omega | (simp; omega), by cases Nat.lt_or_ge i (runes s).length with | inl hlt => (first | (exfalso; omega) | (left; refine ⟨by omega, ?_⟩; rw [← hf2, hdc hlt, resF_cons]; clear hf2 hf hdc hdn; simp_all; done)) | inr hge => (first | (exfalso; omega) | (right; refine ⟨by omega, ?_⟩; rw [← hf2, hdn (by omega), resF_nil]; clear hf2 hf hdc hdn; simp_all; done))⟩, by omega, St.Le.of ⟨rfl, rfl, rfl, rfl, (by show some _ = some _; first | (simp only [List.map_append, List.append_assoc]; done) | (simp only [List.map_append, List.append_assoc]; rfl)), rfl, trivial⟩ rfl (by first | (simp only [List.map_append, List.append_assoc]; done) | (simp only [List.map_append, List.append_assoc]; rfl))⟩
            | exact ⟨i + 1, (s0 :: ss0), out ++ [(runes s)[i]], kB, ⟨by first | omega | (simp; omega), by cases Nat.lt_or_ge i (runes s).length with | inl hlt => (first | (exfalso; omega) | (left; refine ⟨by omega, ?_⟩; rw [← hf2, hdc hlt, resF_cons]; clear hf2 hf hdc hdn; simp_all; done)) | inr hge => (first | (exfalso; omega) | (right; refine ⟨by omega, ?_⟩; rw [← hf2, hdn (by omega), resF_nil]; clear hf2 hf hdc hdn; simp_all; done))⟩, by omega, St.Le.of ⟨rfl, rfl, rfl, rfl, (by show some _ = some _; first | (simp only [List.map_append, List.append_assoc]; done) | (simp only [List.map_append, List.append_assoc]; rfl)), rfl, trivial⟩ rfl (by first | (simp only [List.map_append, List.append_assoc]; done) | (simp only [List.map_append, List.append_assoc]; rfl))⟩
            | exact ⟨i + 1, [], out ++ [(runes s)[i]], kB, ⟨by first | omega | (simp; omega), by cases Nat.lt_or_ge i (runes s).length with | inl hlt => (first | (exfalso; omega) | (left; refine ⟨by omega, ?_⟩; rw [← hf2, hdc hlt, resF_cons]; clear hf2 hf hdc hdn; simp_all; done)) | inr hge => (first | (exfalso; omega) | (right; refine ⟨by omega, ?_⟩; rw [← hf2, hdn (by omega), resF_nil]; clear hf2 hf hdc hdn; simp_all; done))⟩, by omega, St.Le.of ⟨rfl, rfl, rfl, rfl, (by show some _ = some _; first | (simp only [List.map_append, List.append_assoc]; done) | (simp only [List.map_append, List.append_assoc]; rfl)), rfl, trivial⟩ rfl (by first | (simp only [List.map_append, List.append_assoc]; done) | (simp only [List.map_append, List.append_assoc]; rfl))⟩
            | exact ⟨i + 1, ss0, out, k, ⟨by first | omega | (simp; omega), by cases Nat.lt_or_ge i (runes s).length with | inl hlt => (first | (exfalso; omega) | (left; refine ⟨by omega, ?_⟩; rw [← hf2, hdc hlt, resF_cons]; clear hf2 hf hdc hdn; simp_all; done)) | inr hge => (first | (exfalso; omega) | (right; refine ⟨by omega, ?_⟩; rw [← hf2, hdn (by omega), resF_nil]; clear hf2 hf hdc hdn; simp_all; done))⟩, by omega, St.Le.of ⟨rfl, rfl, rfl, rfl, rfl, rfl, trivial⟩ rfl (rfl)⟩
            | exact ⟨i + 1, (s0 :: ss0), out, k, ⟨by first | omega | (simp; omega), by cases Nat.lt_or_ge i (runes s).length with | inl hlt => (first | (exfalso; omega) | (left; refine ⟨by omega, ?_⟩; rw [← hf2, hdc hlt, resF_cons]; clear hf2 hf hdc hdn; simp_all; done)) | inr hge => (first | (exfalso; omega) | (right; refine ⟨by omega, ?_⟩; rw [← hf2, hdn (by omega), resF_nil]; clear hf2 hf hdc hdn; simp_all; done))⟩, by omega, St.Le.of ⟨rfl, rfl, rfl, rfl, rfl, rfl, trivial⟩ rfl (rfl)⟩
            | exact ⟨i + 1, [], out, k, ⟨by first | omega | (simp; omega), by cases Nat.lt_or_ge i (runes s).length with | inl hlt => (first | (exfalso; omega) | (left; refine ⟨by omega, ?_⟩; rw [← hf2, hdc hlt, resF_cons]; clear hf2 hf hdc hdn; simp_all; done)) | inr hge => (first | (exfalso; omega) | (right; refine ⟨by omega, ?_⟩; rw [← hf2, hdn (by omega), resF_nil]; clear hf2 hf hdc hdn; simp_all; done))⟩, by omega, St.Le.of ⟨rfl, rfl, rfl, rfl, rfl, rfl, trivial⟩ rfl (rfl)⟩
      · try simp only [decide_eq_true_eq, decide_eq_false_iff_not, Bool.not_eq_true', Bool.not_eq_false', beq_iff_eq, bne_iff_ne, ne_eq, beq_eq_false_iff_ne, bne_eq_false_iff_eq, Int.not_lt, Int.not_le, Nat.not_lt, Nat.not_le, Int.ofNat_lt, Int.ofNat_le, Bool.not_eq_eq_eq_not, Bool.not_true, Bool.not_false] at hc3
        have hs0 : ¬ s0 = i := fun h => hc3 (by rw [← h]; rfl)
        refine SCode.skip ?_
        show SCode _ _ _ _
        refine SCode.seqR ?_
        refine SOps.move rfl ?_
        refine SOps.move rfl ?_
        refine SOps.lenM rfl sliceB_35_21_1 ?_
        refine SOps.bin rfl rfl rfl ?_
        refine SOps.move rfl ?_
        refine SOps.caseB 43 rfl (fun hb7 => ?_) (fun hb7 => ?_)
        · try simp only [decide_eq_true_eq, decide_eq_false_iff_not, Bool.not_eq_true', Bool.not_eq_false', beq_iff_eq, bne_iff_ne, ne_eq, beq_eq_false_iff_ne, bne_eq_false_iff_eq, Int.not_lt, Int.not_le, Nat.not_lt, Nat.not_le, Int.ofNat_lt, Int.ofNat_le, Bool.not_eq_eq_eq_not, Bool.not_true, Bool.not_false] at hb7
          refine SOps.move rfl ?_
          refine SOps.un rfl rfl ?_
          refine SOps.move rfl ?_
          refine SOps.caseB 46 rfl (fun hb8 => ?_) (fun hb8 => ?_)
          · try simp only [decide_eq_true_eq, decide_eq_false_iff_not, Bool.not_eq_true', Bool.not_eq_false', beq_iff_eq, bne_iff_ne, ne_eq, beq_eq_false_iff_ne, bne_eq_false_iff_eq, Int.not_lt, Int.not_le, Nat.not_lt, Nat.not_le, Int.ofNat_lt, Int.ofNat_le, Bool.not_eq_eq_eq_not, Bool.not_true, Bool.not_false] at hb8
            refine SOps.skip rfl ?_
            refine SOps.skip rfl ?_
            refine SOps.skip rfl ?_
            refine SOps.pick rfl rfl ?_
            refine SOps.pick rfl rfl ?_
            refine SOps.nil ?_
            refine SCode.cond rfl (fun _ => ?_) (fun h => by cases h)
            refine SCode.region ?_
            refine SOps.move rfl ?_
            refine SOps.move rfl ?_
            refine SOps.move rfl ?_
            refine SOps.indexM (i) rfl rfl sliceB_35_21_1 (by first | omega | (simp only [lenB]; omega)) (by first | omega | (simp only [lenB]; omega)) ?_
            refine SOps.loadPin rfl flatB_21 ?_
            refine SOps.litF rfl sliceB_35_21_1 zeroIs_21 rfl ?_
            refine SOps.appendAcc [] [] sliceB_35_21_1 elemB_21_1_4 rfl rfl rfl SrcD.isl (by simp) (by simp [lenB]; omega) (by simp; omega) (fun kB => ?_)
            refine SOps.assign rfl ?_
            refine SOps.nil ?_
            show SCode _ _ _ _
            refine SCode.region ?_
            refine SOps.move rfl ?_
            refine SOps.addI rfl rfl (by first | omega | (simp only [lenB]; omega)) (by first | omega | (simp only [lenB]; omega)) ?_
            refine SOps.assign rfl ?_
            refine SOps.nil ?_
            first
              | (exfalso; simp only [List.getElem_cons_zero] at *; omega)
              | exact ⟨i + 1, ss0, out ++ runes r.to ++ [(runes s)[i]], ((fun _ : Nat => kB) kA), ⟨by first | omega | (simp; omega), by cases Nat.lt_or_ge i (runes s).length with | inl hlt => (first | (exfalso; omega) | (left; refine ⟨by omega, ?_⟩; rw [← hf2, hdc hlt, resF_cons]; clear hf2 hf hdc hdn; simp_all; done)) | inr hge => (first | (exfalso; omega) | (right; refine ⟨by omega, ?_⟩; rw [← hf2, hdn (by omega), resF_nil]; clear hf2 hf hdc hdn; simp_all; done))⟩, by omega, St.Le.of ⟨rfl, rfl, rfl, rfl, (by show some _ = some _; first | (simp only [List.map_append, List.append_assoc]; done) | (simp only [List.map_append, List.append_assoc]; rfl)), rfl, trivial⟩ rfl (by first | (simp only [List.map_append, List.append_assoc]; done) | (simp only [List.map_append, List.append_assoc]; rfl))⟩
              | exact ⟨i + 1, (s0 :: ss0), out ++ runes r.to ++ [(runes s)[i]], ((fun _ : Nat => kB) kA), ⟨by first | omega | (simp; omega), by cases Nat.lt_or_ge i (runes s).length with | inl hlt => (first | (exfalso; omega) | (left; refine ⟨by omega, ?_⟩; rw [← hf2, hdc hlt, resF_cons]; clear hf2 hf hdc hdn; simp_all; done)) | inr hge => (first | (exfalso; omega) | (right; refine ⟨by omega, ?_⟩; rw [← hf2, hdn (by omega), resF_nil]; clear hf2 hf hdc hdn; simp_all; done))⟩, by omega, St.Le.of ⟨rfl, rfl, rfl, rfl, (by show some _ = some _; first | (simp only [List.map_append, List.append_assoc]; done) | (simp only [List.map_append, List.append_assoc]; rfl)), rfl, trivial⟩ rfl (by first | (simp only [List.map_append, List.append_assoc]; done) | (simp only [List.map_append, List.append_assoc]; rfl))⟩
              | exact ⟨i + 1, [], out ++ runes r.to ++ [(runes s)[i]], ((fun _ : Nat => kB) kA), ⟨by first | omega | (simp; omega), by cases Nat.lt_or_ge i (runes s).length with | inl hlt => (first | (exfalso; omega) | (left; refine ⟨by omega, ?_⟩; rw [← hf2, hdc hlt, resF_cons]; clear hf2 hf hdc hdn; simp_all; done)) | inr hge => (first | (exfalso; omega) | (right; refine ⟨by omega, ?_⟩; rw [← hf2, hdn (by omega), resF_nil]; clear hf2 hf hdc hdn; simp_all; done))⟩, by omega, St.Le.of ⟨rfl, rfl, rfl, rfl, (by show some _ = some _; first | (simp only [List.map_append, List.append_assoc]; done) | (simp only [List.map_append, List.append_assoc]; rfl)), rfl, trivial⟩ rfl (by first | (simp only [List.map_append, List.append_assoc]; done) | (simp only [List.map_append, List.append_assoc]; rfl))⟩
              | exact ⟨i + 1, ss0, out ++ runes r.to, kA, ⟨by first | omega | (simp; omega), by cases Nat.lt_or_ge i (runes s).length with | inl hlt => (first | (exfalso; omega) | (left; refine ⟨by omega, ?_⟩; rw [← hf2, hdc hlt, resF_cons]; clear hf2 hf hdc hdn; simp_all; done)) | inr hge => (first | (exfalso; omega) | (right; refine ⟨by omega, ?_⟩; rw [← hf2, hdn (by omega), resF_nil]; clear hf2 hf hdc hdn; simp_all; done))⟩, by omega, St.Le.of ⟨rfl, rfl, rfl, rfl, (by show some _ = some _; first | (simp only [List.map_append, List.append_assoc]; done) | (simp only [List.map_append, List.append_assoc]; rfl)), rfl, trivial⟩ rfl (by first | (simp only [List.map_append, List.append_assoc]; done) | (simp only [List.map_append, List.append_assoc]; rfl))⟩
              | exact ⟨i + 1, (s0 :: ss0), out ++ runes r.to, kA, ⟨by first | omega | (simp; omega), by cases Nat.lt_or_ge i (runes s).length with | inl hlt => (first | (exfalso; omega) | (left; refine ⟨by omega, ?_⟩; rw [← hf2, hdc hlt, resF_cons]; clear hf2 hf hdc hdn; simp_all; done)) | inr hge => (first | (exfalso; omega) | (right; refine ⟨by omega, ?_⟩; rw [← hf2, hdn (by omega), resF_nil]; clear hf2 hf hdc hdn; simp_all; done))⟩, by omega, St.Le.of ⟨rfl, rfl, rfl, rfl, (by show some _ = some _; first | (simp only [List.map_append, List.append_assoc]; done) | (simp only [List.map_append, List.append_assoc]; rfl)), rfl, trivial⟩ rfl (by first | (simp only [List.map_append, List.append_assoc]; done) | (simp only [List.map_append, List.append_assoc]; rfl))⟩
              | exact ⟨i + 1, [], out ++ runes r.to, kA, ⟨by first | omega | (simp; omega), by cases Nat.lt_or_ge i (runes s).length with | inl hlt => (first | (exfalso; omega) | (left; refine ⟨by omega, ?_⟩; rw [← hf2, hdc hlt, resF_cons]; clear hf2 hf hdc hdn; simp_all; done)) | inr hge => (first | (exfalso; omega) | (right; refine ⟨by omega, ?_⟩; rw [← hf2, hdn (by omega), resF_nil]; clear hf2 hf hdc hdn; simp_all; done))⟩, by omega, St.Le.of ⟨rfl, rfl, rfl, rfl, (by show some _ = some _; first | (simp only [List.map_append, List.append_assoc]; done) | (simp only [List.map_append, List.append_assoc]; rfl)), rfl, trivial⟩ rfl (by first | (simp only [List.map_append, List.append_assoc]; done) | (simp only [List.map_append, List.append_assoc]; rfl))⟩
              | exact ⟨i + 1, ss0, out ++ [(runes s)[i]], kB, ⟨by first | omega | (simp; omega), by cases Nat.lt_or_ge i (runes s).length with | inl hlt => (first | (exfalso; omega) | (left; refine ⟨by omega, ?_⟩; rw [← hf2, hdc hlt, resF_cons]; clear hf2 hf hdc hdn; simp_all; done)) | inr hge => (first | (exfalso; omega) | (right; refine ⟨by omega, ?_⟩; rw [← hf2, hdn (by omega), resF_nil]; clear hf2 hf hdc hdn; simp_all; done))⟩, by omega, St.Le.of ⟨rfl, rfl, rfl, rfl, (by show some _ = some _; first | (simp only [List.map_append, List.append_assoc]; done) | (simp only [List.map_append, List.append_assoc]; rfl)), rfl, trivial⟩ rfl (by first | (simp only [List.map_append, List.append_assoc]; done) | (simp only [List.map_append, List.append_assoc]; rfl))⟩
              | exact ⟨i + 1, (s0 :: ss0), out ++ [(runes s)[i]], kB, ⟨by first | omega | (simp; omega), by cases Nat.lt_or_ge i (runes s).length with | inl hlt => (first | (exfalso; omega) | (left; refine ⟨by omega, ?_⟩; rw [← hf2, hdc hlt, resF_cons]; clear hf2 hf hdc hdn; simp_all; done)) | inr hge => (first | (exfalso; omega) | (right; refine ⟨by omega, ?_⟩; rw [← hf2, hdn (by omega), resF_nil]; clear hf2 hf hdc hdn; simp_all; done))⟩, by omega, St.Le.of ⟨rfl, rfl, rfl, rfl, (by show some _ = some _; first | (simp only [List.map_append, List.append_assoc]; done) | (simp only [List.map_append, List.append_assoc]; rfl)), rfl, trivial⟩ rfl (by first | (simp only [List.map_append, List.append_assoc]; done) | (simp only [List.map_append, List.append_assoc]; rfl))⟩
              | exact ⟨i + 1, [], out ++ [(runes s)[i]], kB, ⟨by first | omega | (simp; omega), by cases Nat.lt_or_ge i (runes s).length with | inl hlt => (first | (exfalso; omega) | (left; refine ⟨by omega, ?_⟩; rw [← hf2, hdc hlt, resF_cons]; clear hf2 hf hdc hdn; simp_all; done)) | inr hge => (first | (exfalso; omega) | (right; refine ⟨by omega, ?_⟩; rw [← hf2, hdn (by omega), resF_nil]; clear hf2 hf hdc hdn; simp_all; done))⟩, by omega, St.Le.of ⟨rfl, rfl, rfl, rfl, (by show some _ = some _; first | (simp only [List.map_append, List.append_assoc]; done) | (simp only [List.map_append, List.append_assoc]; rfl)), rfl, trivial⟩ rfl (by first | (simp only [List.map_append, List.append_assoc]; done) | (simp only [List.map_append, List.append_assoc]; rfl))⟩
              | exact ⟨i + 1, ss0, out, k, ⟨by first | omega | (simp; omega), by cases Nat.lt_or_ge i (runes s).length with | inl hlt => (first | (exfalso; omega) | (left; refine ⟨by omega, ?_⟩; rw [← hf2, hdc hlt, resF_cons]; clear hf2 hf hdc hdn; simp_all; done)) | inr hge => (first | (exfalso; omega) | (right; refine ⟨by omega, ?_⟩; rw [← hf2, hdn (by omega), resF_nil]; clear hf2 hf hdc hdn; simp_all; done))⟩, by omega, St.Le.of ⟨rfl, rfl, rfl, rfl, rfl, rfl, trivial⟩ rfl (rfl)⟩
              | exact ⟨i + 1, (s0 :: ss0), out, k, ⟨by first | omega | (simp; omega), by cases Nat.lt_or_ge i (runes s).length with | inl hlt => (first | (exfalso; omega) | (left; refine ⟨by omega, ?_⟩; rw [← hf2, hdc hlt, resF_cons]; clear hf2 hf hdc hdn; simp_all; done)) | inr hge => (first | (exfalso; omega) | (right; refine ⟨by omega, ?_⟩; rw [← hf2, hdn (by omega), resF_nil]; clear hf2 hf hdc hdn; simp_all; done))⟩, by omega, St.Le.of ⟨rfl, rfl, rfl, rfl, rfl, rfl, trivial⟩ rfl (rfl)⟩
              | exact ⟨i + 1, [], out, k, ⟨by first | omega | (simp; omega), by cases Nat.lt_or_ge i (runes s).length with | inl hlt => (first | (exfalso; omega) | (left; refine ⟨by omega, ?_⟩; rw [← hf2, hdc hlt, resF_cons]; clear hf2 hf hdc hdn; simp_all; done)) | inr hge => (first | (exfalso; omega) | (right; refine ⟨by omega, ?_⟩; rw [← hf2, hdn (by omega), resF_nil]; clear hf2 hf hdc hdn; simp_all; done))⟩, by omega, St.Le.of ⟨rfl, rfl, rfl, rfl, rfl, rfl, trivial⟩ rfl (rfl)⟩
          · try simp only [decide_eq_true_eq, decide_eq_false_iff_not, Bool.not_eq_true', Bool.not_eq_false', beq_iff_eq, bne_iff_ne, ne_eq, beq_eq_false_iff_ne, bne_eq_false_iff_eq, Int.not_lt, Int.not_le, Nat.not_lt, Nat.not_le, Int.ofNat_lt, Int.ofNat_le, Bool.not_eq_eq_eq_not, Bool.not_true, Bool.not_false] at hb8
            refine SOps.fieldPin rfl fieldB_25_0_0 ?_
            refine SOps.loadPin rfl flatB_21 ?_
            refine SOps.bin rfl rfl rfl ?_
            refine SOps.pick rfl rfl ?_
            refine SOps.pick rfl rfl ?_
            refine SOps.nil ?_
            refine SCode.cond rfl (fun hc9 => ?_) (fun hc9 => ?_)
            · try simp only [decide_eq_true_eq, decide_eq_false_iff_not, Bool.not_eq_true', Bool.not_eq_false', beq_iff_eq, bne_iff_ne, ne_eq, beq_eq_false_iff_ne, bne_eq_false_iff_eq, Int.not_lt, Int.not_le, Nat.not_lt, Nat.not_le, Int.ofNat_lt, Int.ofNat_le, Bool.not_eq_eq_eq_not, Bool.not_true, Bool.not_false] at hc9
              refine SCode.region ?_
              refine SOps.move rfl ?_
              refine SOps.move rfl ?_
              refine SOps.move rfl ?_
              refine SOps.indexM (i) rfl rfl sliceB_35_21_1 (by first | omega | (simp only [lenB]; omega)) (by first | omega | (simp only [lenB]; omega)) ?_
              refine SOps.loadPin rfl flatB_21 ?_
              refine SOps.litF rfl sliceB_35_21_1 zeroIs_21 rfl ?_
              refine SOps.appendAcc [] [] sliceB_35_21_1 elemB_21_1_4 rfl rfl rfl SrcD.isl (by simp) (by simp [lenB]; omega) (by simp; omega) (fun kB => ?_)
              refine SOps.assign rfl ?_
              refine SOps.nil ?_
              show SCode _ _ _ _
              refine SCode.region ?_
              refine SOps.move rfl ?_
              refine SOps.addI rfl rfl (by first | omega | (simp only [lenB]; omega)) (by first | omega | (simp only [lenB]; omega)) ?_
              refine SOps.assign rfl ?_
              refine SOps.nil ?_
              first
                | (exfalso; simp only [List.getElem_cons_zero] at *; omega)
                | exact ⟨i + 1, ss0, out ++ runes r.to ++ [(runes s)[i]], ((fun _ : Nat => kB) kA), ⟨by first | omega | (simp; omega), by cases Nat.lt_or_ge i (runes s).length with | inl hlt => (first | (exfalso; omega) | (left; refine ⟨by omega, ?_⟩; rw [← hf2, hdc hlt, resF_cons]; clear hf2 hf hdc hdn; simp_all; done)) | inr hge => (first | (exfalso; omega) | (right; refine ⟨by omega, ?_⟩; rw [← hf2, hdn (by omega), resF_nil]; clear hf2 hf hdc hdn; simp_all; done))⟩, by omega, St.Le.of ⟨rfl, rfl, rfl, rfl, (by show some _ = some _; first | (simp only [List.map_append, List.append_assoc]; done) | (simp only [List.map_append, List.append_assoc]; rfl)), rfl, trivial⟩ rfl (by first | (simp only [List.map_append, List.append_assoc]; done) | (simp only [List.map_append, List.append_assoc]; rfl))⟩
                | exact ⟨i + 1, (s0 :: ss0), out ++ runes r.to ++ [(runes s)[i]], ((fun _ : Nat => kB) kA), ⟨by first | omega | (simp; omega), by cases Nat.lt_or_ge i (runes s).length with | inl hlt => (first | (exfalso; omega) | (left; refine ⟨by omega, ?_⟩; rw [← hf2, hdc hlt, resF_cons]; clear hf2 hf hdc hdn; simp_all; done)) | inr hge => (first | (exfalso; omega) | (right; refine ⟨by omega, ?_⟩; rw [← hf2, hdn (by omega), resF_nil]; clear hf2 hf hdc hdn; simp_all; done))⟩, by omega, St.Le.of ⟨rfl, rfl, rfl, rfl, (by show some _ = some _; first | (simp only [List.map_append, List.append_assoc]; done) | (simp only [List.map_append, List.append_assoc]; rfl)), rfl, trivial⟩ rfl (by first | (simp only [List.map_append, List.append_assoc]; done) | (simp only [List.map_append, List.append_assoc]; rfl))⟩
                | exact ⟨i + 1, [], out ++ runes r.to ++ [(runes s)[i]], ((fun _ : Nat => kB) kA), ⟨by first | omega | (simp; omega), by cases Nat.lt_or_ge i (runes s).length with | inl hlt => (first | (exfalso; omega) | (left; refine ⟨by omega, ?_⟩; rw [← hf2, hdc hlt, resF_cons]; clear hf2 hf hdc hdn; simp_all; done)) | inr hge => (first | (exfalso; omega) | (right; refine ⟨by omega, ?_⟩; rw [← hf2, hdn (by omega), resF_nil]; clear hf2 hf hdc hdn; simp_all; done))⟩, by omega, St.Le.of ⟨rfl, rfl, rfl, rfl, (by show some _ = some _; first | (simp only [List.map_append, List.append_assoc]; done) | (simp only [List.map_append, List.append_assoc]; rfl)), rfl, trivial⟩ rfl (by first | (simp only [List.map_append, List.append_assoc]; done) | (simp only [List.map_append, List.append_assoc]; rfl))⟩
                | exact ⟨i + 1, ss0, out ++ runes r.to, kA, ⟨by first | omega | (simp; omega), by cases Nat.lt_or_ge i (runes s).length with | inl hlt => (first | (exfalso; omega) | (left; refine ⟨by omega, ?_⟩; rw [← hf2, hdc hlt, resF_cons]; clear hf2 hf hdc hdn; simp_all; done)) | inr hge => (first | (exfalso; omega) | (right; refine ⟨by omega, ?_⟩; rw [← hf2, hdn (by omega), resF_nil]; clear hf2 hf hdc hdn; simp_all; done))⟩, by omega, St.Le.of ⟨rfl, rfl, rfl, rfl, (by show some _ = some _; first | (simp only [List.map_append, List.append_assoc]; done) | (simp only [List.map_append, List.append_assoc]; rfl)), rfl, trivial⟩ rfl (by first | (simp only [List.map_append, List.append_assoc]; done) | (simp only [List.map_append, List.append_assoc]; rfl))⟩
                | exact ⟨i + 1, (s0 :: ss0), out ++ runes r.to, kA, ⟨by first | omega | (simp; omega), by cases Nat.lt_or_ge i (runes s).length with | inl hlt => (first | (exfalso; omega) | (left; refine ⟨by omega, ?_⟩; rw [← hf2, hdc hlt, resF_cons]; clear hf2 hf hdc hdn; simp_all; done)) | inr hge => (first | (exfalso; omega) | (right; refine ⟨by omega, ?_⟩; rw [← hf2, hdn (by omega), resF_nil]; clear hf2 hf hdc hdn; simp_all; done))⟩, by omega, St.Le.of ⟨rfl, rfl, rfl, rfl, (by show some _ = some _; first | (simp only [List.map_append, List.append_assoc]; done) | (simp only [List.map_append, List.append_assoc]; rfl)), rfl, trivial⟩ rfl (by first | (simp only [List.map_append, List.append_assoc]; done) | (simp only [List.map_append, List.append_assoc]; rfl))⟩
                | exact ⟨i + 1, [], out ++ runes r.to, kA, ⟨by first | omega | (simp; omega), by cases Nat.lt_or_ge i (runes s).length with | inl hlt => (first | (exfalso; omega) | (left; refine ⟨by omega, ?_⟩; rw [← hf2, hdc hlt, resF_cons]; clear hf2 hf hdc hdn; simp_all; done)) | inr hge => (first | (exfalso; omega) | (right; refine ⟨by omega, ?_⟩; rw [← hf2, hdn (by omega), resF_nil]; clear hf2 hf hdc hdn; simp_all; done))⟩, by omega, St.Le.of ⟨rfl, rfl, rfl, rfl, (by show some _ = some _; first | (simp only [List.map_append, List.append_assoc]; done) | (simp only [List.map_append, List.append_assoc]; rfl)), rfl, trivial⟩ rfl (by first | (simp only [List.map_append, List.append_assoc]; done) | (simp only [List.map_append, List.append_assoc]; rfl))⟩
                | exact ⟨i + 1, ss0, out ++ [(runes s)[i]], kB, ⟨by first | omega | (simp; omega), by cases Nat.lt_or_ge i (runes s).length with | inl hlt => (first | (exfalso; omega) | (left; refine ⟨by omega, ?_⟩; rw [← hf2, hdc hlt, resF_cons]; clear hf2 hf hdc hdn; simp_all; done)) | inr hge => (first | (exfalso; omega) | (right; refine ⟨by omega, ?_⟩; rw [← hf2, hdn (by omega), resF_nil]; clear hf2 hf hdc hdn; simp_all; done))⟩, by omega, St.Le.of ⟨rfl, rfl, rfl, rfl, (by show some _ = some _; first | (simp only [List.map_append, List.append_assoc]; done) | (simp only [List.map_append, List.append_assoc]; rfl)), rfl, trivial⟩ rfl (by first | (simp only [List.map_append, List.append_assoc]; done) | (simp only [List.map_append, List.append_assoc]; rfl))⟩
                | exact ⟨i + 1, (s0 :: ss0), out ++ [(runes s)[i]], kB, ⟨by first | omega | (simp; omega), by cases Nat.lt_or_ge i (runes s).length with | inl hlt => (first | (exfalso; omega) | (left; refine ⟨by omega, ?_⟩; rw [← hf2, hdc hlt, resF_cons]; clear hf2 hf hdc hdn; simp_all; done)) | inr hge => (first | (exfalso; omega) | (right; refine ⟨by omega, ?_⟩; rw [← hf2, hdn (by omega), resF_nil]; clear hf2 hf hdc hdn; simp_all; done))⟩, by omega, St.Le.of ⟨rfl, rfl, rfl, rfl, (by show some _ = some _; first | (simp only [List.map_append, List.append_assoc]; done) | (simp only [List.map_append, List.append_assoc]; rfl)), rfl, trivial⟩ rfl (by first | (simp only [List.map_append, List.append_assoc]; done) | (simp only [List.map_append, List.append_assoc]; rfl))⟩
                | exact ⟨i + 1, [], out ++ [(runes s)[i]], kB, ⟨by first | omega | (simp; omega), by cases Nat.lt_or_ge i (runes s).length with | inl hlt => (first | (exfalso; omega) | (left; refine ⟨by omega, ?_⟩; rw [← hf2, hdc hlt, resF_cons]; clear hf2 hf hdc hdn; simp_all; done)) | inr hge => (first | (exfalso; omega) | (right; refine ⟨by omega, ?_⟩; rw [← hf2, hdn (by omega), resF_nil]; clear hf2 hf hdc hdn; simp_all; done))⟩, by omega, St.Le.of ⟨rfl, rfl, rfl, rfl, (by show some _ = some _; first | (simp only [List.map_append, List.append_assoc]; done) | (simp only [List.map_append, List.append_assoc]; rfl)), rfl, trivial⟩ rfl (by first | (simp only [List.map_append, List.append_assoc]; done) | (simp only [List.map_append, List.append_assoc]; rfl))⟩
                | exact ⟨i + 1, ss0, out, k, ⟨by first | omega | (simp; omega), by cases Nat.lt_or_ge i (runes s).length with | inl hlt => (first | (exfalso; omega) | (left; refine ⟨by omega, ?_⟩; rw [← hf2, hdc hlt, resF_cons]; clear hf2 hf hdc hdn; simp_all; done)) | inr hge => (first | (exfalso; omega) | (right; refine ⟨by omega, ?_⟩; rw [← hf2, hdn (by omega), resF_nil]; clear hf2 hf hdc hdn; simp_all; done))⟩, by omega, St.Le.of ⟨rfl, rfl, rfl, rfl, rfl, rfl, trivial⟩ rfl (rfl)⟩
                | exact ⟨i + 1, (s0 :: ss0), out, k, ⟨by first | omega | (simp; omega), by cases Nat.lt_or_ge i (runes s).length with | inl hlt => (first | (exfalso; omega) | (left; refine ⟨by omega, ?_⟩; rw [← hf2, hdc hlt, resF_cons]; clear hf2 hf hdc hdn; simp_all; done)) | inr hge => (first | (exfalso; omega) | (right; refine ⟨by omega, ?_⟩; rw [← hf2, hdn (by omega), resF_nil]; clear hf2 hf hdc hdn; simp_all; done))⟩, by omega, St.Le.of ⟨rfl, rfl, rfl, rfl, rfl, rfl, trivial⟩ rfl (rfl)⟩
                | exact ⟨i + 1, [], out, k, ⟨by first | omega | (simp; omega), by cases Nat.lt_or_ge i (runes s).length with | inl hlt => (first | (exfalso; omega) | (left; refine ⟨by omega, ?_⟩; rw [← hf2, hdc hlt, resF_cons]; clear hf2 hf hdc hdn; simp_all; done)) | inr hge => (first | (exfalso; omega) | (right; refine ⟨by omega, ?_⟩; rw [← hf2, hdn (by omega), resF_nil]; clear hf2 hf hdc hdn; simp_all; done))⟩, by omega, St.Le.of ⟨rfl, rfl, rfl, rfl, rfl, rfl, trivial⟩ rfl (rfl)⟩
            · try simp only [decide_eq_true_eq, decide_eq_false_iff_not, Bool.not_eq_true', Bool.not_eq_false', beq_iff_eq, bne_iff_ne, ne_eq, beq_eq_false_iff_ne, bne_eq_false_iff_eq, Int.not_lt, Int.not_le, Nat.not_lt, Nat.not_le, Int.ofNat_lt, Int.ofNat_le, Bool.not_eq_eq_eq_not, Bool.not_true, Bool.not_false] at hc9
              refine SCode.skip ?_
              show SCode _ _ _ _
              refine SCode.region ?_
              refine SOps.move rfl ?_
              refine SOps.addI rfl rfl (by first | omega | (simp only [lenB]; omega)) (by first | omega | (simp only [lenB]; omega)) ?_
              refine SOps.assign rfl ?_
              refine SOps.nil ?_
              first
                | (exfalso; simp only [List.getElem_cons_zero] at *; omega)
                | exact ⟨i + 1, ss0, out ++ runes r.to ++ [(runes s)[i]], ((fun _ : Nat => kB) kA), ⟨by first | omega | (simp; omega), by cases Nat.lt_or_ge i (runes s).length with | inl hlt => (first | (exfalso; omega) | (left; refine ⟨by omega, ?_⟩; rw [← hf2, hdc hlt, resF_cons]; clear hf2 hf hdc hdn; simp_all; done)) | inr hge => (first | (exfalso; omega) | (right; refine ⟨by omega, ?_⟩; rw [← hf2, hdn (by omega), resF_nil]; clear hf2 hf hdc hdn; simp_all; done))⟩, by omega, St.Le.of ⟨rfl, rfl, rfl, rfl, (by show some _ = some _; first | (simp only [List.map_append, List.append_assoc]; done) | (simp only [List.map_append, List.append_assoc]; rfl)), rfl, trivial⟩ rfl (by first | (simp only [List.map_append, List.append_assoc]; done) | (simp only [List.map_append, List.append_assoc]; rfl))⟩
                | exact ⟨i + 1, (s0 :: ss0), out ++ runes r.to ++ [(runes s)[i]], ((fun _ : Nat => kB) kA), ⟨by first | omega | (simp; omega), by cases Nat.lt_or_ge i (runes s).length with | inl hlt => (first | (exfalso; omega) | (left; refine ⟨by omega, ?_⟩; rw [← hf2, hdc hlt, resF_cons]; clear hf2 hf hdc hdn; simp_all; done)) | inr hge => (first | (exfalso; omega) | (right; refine ⟨by omega, ?_⟩; rw [← hf2, hdn (by omega), resF_nil]; clear hf2 hf hdc hdn; simp_all; done))⟩, by omega, St.Le.of ⟨rfl, rfl, rfl, rfl, (by show some _ = some _; first | (simp only [List.map_append, List.append_assoc]; done) | (simp only [List.map_append, List.append_assoc]; rfl)), rfl, trivial⟩ rfl (by first | (simp only [List.map_append, List.append_assoc]; done) | (simp only [List.map_append, List.append_assoc]; rfl))⟩
                | exact ⟨i + 1, [], out ++ runes r.to ++ [(runes s)[i]], ((fun _ : Nat => kB) kA), ⟨by first | omega | (simp; omega), by cases Nat.lt_or_ge i (runes s).length with | inl hlt => (first | (exfalso; omega) | (left; refine ⟨by omega, ?_⟩; rw [← hf2, hdc hlt, resF_cons]; clear hf2 hf hdc hdn; simp_all; done)) | inr hge => (first | (exfalso; omega) | (right; refine ⟨by omega, ?_⟩; rw [← hf2, hdn (by omega), resF_nil]; clear hf2 hf hdc hdn; simp_all; done))⟩, by omega, St.Le.of ⟨rfl, rfl, rfl, rfl, (by show some _ = some _; first | (simp only [List.map_append, List.append_assoc]; done) | (simp only [List.map_append, List.append_assoc]; rfl)), rfl, trivial⟩ rfl (by first | (simp only [List.map_append, List.append_assoc]; done) | (simp only [List.map_append, List.append_assoc]; rfl))⟩
                | exact ⟨i + 1, ss0, out ++ runes r.to, kA, ⟨by first | omega | (simp; omega), by cases Nat.lt_or_ge i (runes s).length with | inl hlt => (first | (exfalso; omega) | (left; refine ⟨by omega, ?_⟩; rw [← hf2, hdc hlt, resF_cons]; clear hf2 hf hdc hdn; simp_all; done)) | inr hge => (first | (exfalso; omega) | (right; refine ⟨by omega, ?_⟩; rw [← hf2, hdn (by omega), resF_nil]; clear hf2 hf hdc hdn; simp_all; done))⟩, by omega, St.Le.of ⟨rfl, rfl, rfl, rfl, (by show some _ = some _; first | (simp only [List.map_append, List.append_assoc]; done) | (simp only [List.map_append, List.append_assoc]; rfl)), rfl, trivial⟩ rfl (by first | (simp only [List.map_append, List.append_assoc]; done) | (simp only [List.map_append, List.append_assoc]; rfl))⟩
                | exact ⟨i + 1, (s0 :: ss0), out ++ runes r.to, kA, ⟨by first | omega | (simp; omega), by cases Nat.lt_or_ge i (runes s).length with | inl hlt => (first | (exfalso; omega) | (left; refine ⟨by omega, ?_⟩; rw [← hf2, hdc hlt, resF_cons]; clear hf2 hf hdc hdn; simp_all; done)) | inr hge => (first | (exfalso; omega) | (right; refine ⟨by omega, ?_⟩; rw [← hf2, hdn (by omega), resF_nil]; clear hf2 hf hdc hdn; simp_all; done))⟩, by omega, St.Le.of ⟨rfl, rfl, rfl, rfl, (by show some _ = some _; first | (simp only [List.map_append, List.append_assoc]; done) | (simp only [List.map_append, List.append_assoc]; rfl)), rfl, trivial⟩ rfl (by first | (simp only [List.map_append, List.append_assoc]; done) | (simp only [List.map_append, List.append_assoc]; rfl))⟩
                | exact ⟨i + 1, [], out ++ runes r.to, kA, ⟨by first | omega | (simp; omega), by cases Nat.lt_or_ge i (runes s).length with | inl hlt => (first | (exfalso; omega) | (left; refine ⟨by omega, ?_⟩; rw [← hf2, hdc hlt, resF_cons]; clear hf2 hf hdc hdn; simp_all; done)) | inr hge => (first | (exfalso; omega) | (right; refine ⟨by omega, ?_⟩; rw [← hf2, hdn (by omega), resF_nil]; clear hf2 hf hdc hdn; simp_all; done))⟩, by omega, St.Le.of ⟨rfl, rfl, rfl, rfl, (by show some _ = some _; first | (simp only [List.map_append, List.append_assoc]; done) | (simp only [List.map_append, List.append_assoc]; rfl)), rfl, trivial⟩ rfl (by first | (simp only [List.map_append, List.append_assoc]; done) | (simp only [List.map_append, List.append_assoc]; rfl))⟩
                | exact ⟨i + 1, ss0, out ++ [(runes s)[i]], kB, ⟨by first | omega | (simp; omega), by cases Nat.lt_or_ge i (runes s).length with | inl hlt => (first | (exfalso; omega) | (left; refine ⟨by omega, ?_⟩; rw [← hf2, hdc hlt, resF_cons]; clear hf2 hf hdc hdn; simp_all; done)) | inr hge => (first | (exfalso; omega) | (right; refine ⟨by omega, ?_⟩; rw [← hf2, hdn (by omega), resF_nil]; clear hf2 hf hdc hdn; simp_all; done))⟩, by omega, St.Le.of ⟨rfl, rfl, rfl, rfl, (by show some _ = some _; first | (simp only [List.map_append, List.append_assoc]; done) | (simp only [List.map_append, List.append_assoc]; rfl)), rfl, trivial⟩ rfl (by first | (simp only [List.map_append, List.append_assoc]; done) | (simp only [List.map_append, List.append_assoc]; rfl))⟩
                | exact ⟨i + 1, (s0 :: ss0), out ++ [(runes s)[i]], kB, ⟨by first | omega | (simp; omega), by cases Nat.lt_or_ge i (runes s).length with | inl hlt => (first | (exfalso; omega) | (left; refine ⟨by omega, ?_⟩; rw [← hf2, hdc hlt, resF_cons]; clear hf2 hf hdc hdn; simp_all; done)) | inr hge => (first | (exfalso; omega) | (right; refine ⟨by omega, ?_⟩; rw [← hf2, hdn (by omega), resF_nil]; clear hf2 hf hdc hdn; simp_all; done))⟩, by omega, St.Le.of ⟨rfl, rfl, rfl, rfl, (by show some _ = some _; first | (simp only [List.map_append, List.append_assoc]; done) | (simp only [List.map_append, List.append_assoc]; rfl)), rfl, trivial⟩ rfl (by first | (simp only [List.map_append, List.append_assoc]; done) | (simp only [List.map_append, List.append_assoc]; rfl))⟩
                | exact ⟨i + 1, [], out ++ [(runes s)[i]], kB, ⟨by first | omega | (simp; omega), by cases Nat.lt_or_ge i (runes s).length with | inl hlt => (first | (exfalso; omega) | (left; refine ⟨by omega, ?_⟩; rw [← hf2, hdc hlt, resF_cons]; clear hf2 hf hdc hdn; simp_all; done)) | inr hge => (first | (exfalso; omega) | (right; refine ⟨by omega, ?_⟩; rw [← hf2, hdn (by omega), resF_nil]; clear hf2 hf hdc hdn; simp_all; done))⟩, by omega, St.Le.of ⟨rfl, rfl, rfl, rfl, (by show some _ = some _; first | (simp only [List.map_append, List.append_assoc]; done) | (simp only [List.map_append, List.append_assoc]; rfl)), rfl, trivial⟩ rfl (by first | (simp only [List.map_append, List.append_assoc]; done) | (simp only [List.map_append, List.append_assoc]; rfl))⟩
                | exact ⟨i + 1, ss0, out, k, ⟨by first | omega | (simp; omega), by cases Nat.lt_or_ge i (runes s).length with | inl hlt => (first | (exfalso; omega) | (left; refine ⟨by omega, ?_⟩; rw [← hf2, hdc hlt, resF_cons]; clear hf2 hf hdc hdn; simp_all; done)) | inr hge => (first | (exfalso; omega) | (right; refine ⟨by omega, ?_⟩; rw [← hf2, hdn (by omega), resF_nil]; clear hf2 hf hdc hdn; simp_all; done))⟩, by omega, St.Le.of ⟨rfl, rfl, rfl, rfl, rfl, rfl, trivial⟩ rfl (rfl)⟩
                | exact ⟨i + 1, (s0 :: ss0), out, k, ⟨by first | omega | (simp; omega), by cases Nat.lt_or_ge i (runes s).length with | inl hlt => (first | (exfalso; omega) | (left; refine ⟨by omega, ?_⟩; rw [← hf2, hdc hlt, resF_cons]; clear hf2 hf hdc hdn; simp_all; done)) | inr hge => (first | (exfalso; omega) | (right; refine ⟨by omega, ?_⟩; rw [← hf2, hdn (by omega), resF_nil]; clear hf2 hf hdc hdn; simp_all; done))⟩, by omega, St.Le.of ⟨rfl, rfl, rfl, rfl, rfl, rfl, trivial⟩ rfl (rfl)⟩
                | exact ⟨i + 1, [], out, k, ⟨by first | omega | (simp; omega), by cases Nat.lt_or_ge i (runes s).length with | inl hlt => (first | (exfalso; omega) | (left; refine ⟨by omega, ?_⟩; rw [← hf2, hdc hlt, resF_cons]; clear hf2 hf hdc hdn; simp_all; done)) | inr hge => (first | (exfalso; omega) | (right; refine ⟨by omega, ?_⟩; rw [← hf2, hdn (by omega), resF_nil]; clear hf2 hf hdc hdn; simp_all; done))⟩, by omega, St.Le.of ⟨rfl, rfl, rfl, rfl, rfl, rfl, trivial⟩ rfl (rfl)⟩
        · try simp only [decide_eq_true_eq, decide_eq_false_iff_not, Bool.not_eq_true', Bool.not_eq_false', beq_iff_eq, bne_iff_ne, ne_eq, beq_eq_false_iff_ne, bne_eq_false_iff_eq, Int.not_lt, Int.not_le, Nat.not_lt, Nat.not_le, Int.ofNat_lt, Int.ofNat_le, Bool.not_eq_eq_eq_not, Bool.not_true, Bool.not_false] at hb7
          refine SOps.skip rfl ?_
          refine SOps.skip rfl ?_
          refine SOps.skip rfl ?_
          refine SOps.skip rfl ?_
          refine SOps.skip rfl ?_
          refine SOps.skip rfl ?_
          refine SOps.skip rfl ?_
          refine SOps.pick rfl rfl ?_
          refine SOps.nil ?_
          refine SCode.cond rfl (fun h => by cases h) (fun _ => ?_)
          refine SCode.skip ?_
          show SCode _ _ _ _
          refine SCode.region ?_
          refine SOps.move rfl ?_
          refine SOps.addI rfl rfl (by first | omega | (simp only [lenB]; omega)) (by first | omega | (simp only [lenB]; omega)) ?_
          refine SOps.assign rfl ?_
          refine SOps.nil ?_
          first
            | (exfalso; simp only [List.getElem_cons_zero] at *; omega)
            | exact ⟨i + 1, ss0, out ++ runes r.to ++ [(runes s)[i]], ((fun _ : Nat => kB) kA), ⟨by first | omega | (simp; omega), by cases Nat.lt_or_ge i (runes s).length with | inl hlt => (first | (exfalso; omega) | (left; refine ⟨by omega, ?_⟩; rw [← hf2, hdc hlt, resF_cons]; clear hf2 hf hdc hdn; simp_all; done)) | inr hge => (first | (exfalso; omega) | (right; refine ⟨by omega, ?_⟩; rw [← hf2, hdn (by omega), resF_nil]; clear hf2 hf hdc hdn; simp_all; done))⟩, by omega, St.Le.of ⟨rfl, rfl, rfl, rfl, (by show some _ = some _; first | (simp only [List.map_append, List.append_assoc]; done) | (simp only [List.map_append, List.append_assoc]; rfl)), rfl, trivial⟩ rfl (by first | (simp only [List.map_append, List.append_assoc]; done) | (simp only [List.map_append, List.append_assoc]; rfl))⟩
            | exact ⟨i + 1, (s0 :: ss0), out ++ runes r.to ++ [(runes s)[i]], ((fun _ : Nat => kB) kA), ⟨by first | omega | (simp; omega), by cases Nat.lt_or_ge i (runes s).length with | inl hlt => (first | (exfalso; omega) | (left; refine ⟨by omega, ?_⟩; rw [← hf2, hdc hlt, resF_cons]; clear hf2 hf hdc hdn; simp_all; done)) | inr hge => (first | (exfalso; omega) | (right; refine ⟨by omega, ?_⟩; rw [← hf2, hdn (by omega), resF_nil]; clear hf2 hf hdc hdn; simp_all; done))⟩, by omega, St.Le.of ⟨rfl, rfl, rfl, rfl, (by show some _ = some _; first | (simp only [List.map_append, List.append_assoc]; done) | (simp only [List.map_append, List.append_assoc]; rfl)), rfl, trivial⟩ rfl (by first | (simp only [List.map_append, List.append_assoc]; done) | (simp only [List.map_append, List.append_assoc]; rfl))⟩
            | exact ⟨i + 1, [], out ++ runes r.to ++ [(runes s)[i]], ((fun _ : Nat => kB) kA), ⟨by first | omega | (simp; omega), by cases Nat.lt_or_ge i (runes s).length with | inl hlt => (first | (exfalso; omega) | (left; refine ⟨by omega, ?_⟩; rw [← hf2, hdc hlt, resF_cons]; clear hf2 hf hdc hdn; simp_all; done)) | inr hge => (first | (exfalso; omega) | (right; refine ⟨by omega, ?_⟩; rw [← hf2, hdn (by omega), resF_nil]; clear hf2 hf hdc hdn; simp_all; done))⟩, by omega, St.Le.of ⟨rfl, rfl, rfl, rfl, (by show some _ = some _; first | (simp only [List.map_append, List.append_assoc]; done) | (simp only [List.map_append, List.append_assoc]; rfl)), rfl, trivial⟩ rfl (by first | (simp only [List.map_append, List.append_assoc]; done) | (simp only [List.map_append, List.append_assoc]; rfl))⟩
            | exact ⟨i + 1, ss0, out ++ runes r.to, kA, ⟨by first | omega | (simp; omega), by cases Nat.lt_or_ge i (runes s).length with | inl hlt => (first | (exfalso; omega) | (left; refine ⟨by omega, ?_⟩; rw [← hf2, hdc hlt, resF_cons]; clear hf2 hf hdc hdn; simp_all; done)) | inr hge => (first | (exfalso; omega) | (right; refine ⟨by omega, ?_⟩; rw [← hf2, hdn (by omega), resF_nil]; clear hf2 hf hdc hdn; simp_all; done))⟩, by omega, St.Le.of ⟨rfl, rfl, rfl, rfl, (by show some _ = some _; first | (simp only [List.map_append, List.append_assoc]; done) | (simp only [List.map_append, List.append_assoc]; rfl)), rfl, trivial⟩ rfl (by first | (simp only [List.map_append, List.append_assoc]; done) | (simp only [List.map_append, List.append_assoc]; rfl))⟩
            | exact ⟨i + 1, (s0 :: ss0), out ++ runes r.to, kA, ⟨by first | omega | (simp; omega), by cases Nat.lt_or_ge i (runes s).length with | inl hlt => (first | (exfalso; omega) | (left; refine ⟨by omega, ?_⟩; rw [← hf2, hdc hlt, resF_cons]; clear hf2 hf hdc hdn; simp_all; done)) | inr hge => (first | (exfalso; omega) | (right; refine ⟨by omega, ?_⟩; rw [← hf2, hdn (by omega), resF_nil]; clear hf2 hf hdc hdn; simp_all; done))⟩, by omega, St.Le.of ⟨rfl, rfl, rfl, rfl, (by show some _ = some _; first | (simp only [List.map_append, List.append_assoc]; done) | (simp only [List.map_append, List.append_assoc]; rfl)), rfl, trivial⟩ rfl (by first | (simp only [List.map_append, List.append_assoc]; done) | (simp only [List.map_append, List.append_assoc]; rfl))⟩
            | exact ⟨i + 1, [], out ++ runes r.to, kA, ⟨by first | omega | (simp; omega), by cases Nat.lt_or_ge i (runes s).length with | inl hlt => (first | (exfalso; omega) | (left; refine ⟨by omega, ?_⟩; rw [← hf2, hdc hlt, resF_cons]; clear hf2 hf hdc hdn; simp_all; done)) | inr hge => (first | (exfalso; omega) | (right; refine ⟨by omega, ?_⟩; rw [← hf2, hdn (by omega), resF_nil]; clear hf2 hf hdc hdn; simp_all; done))⟩, by omega, St.Le.of ⟨rfl, rfl, rfl, rfl, (by show some _ = some _; first | (simp only [List.map_append, List.append_assoc]; done) | (simp only [List.map_append, List.append_assoc]; rfl)), rfl, trivial⟩ rfl (by first | (simp only [List.map_append, List.append_assoc]; done) | (simp only [List.map_append, List.append_assoc]; rfl))⟩
            | exact ⟨i + 1, ss0, out ++ [(runes s)[i]], kB, ⟨by first | omega | (simp; omega), by cases Nat.lt_or_ge i (runes s).length with | inl hlt => (first | (exfalso; omega) | (left; refine ⟨by omega, ?_⟩; rw [← hf2, hdc hlt, resF_cons]; clear hf2 hf hdc hdn; simp_all; done)) | inr hge => (first | (exfalso; omega) | (right; refine ⟨by omega, ?_⟩; rw [← hf2, hdn (by omega), resF_nil]; clear hf2 hf hdc hdn; simp_all; done))⟩, by omega, St.Le.of ⟨rfl, rfl, rfl, rfl, (by show some _ = some _; first | (simp only [List.map_append, List.append_assoc]; done) | (simp only [List.map_append, List.append_assoc]; rfl)), rfl, trivial⟩ rfl (by first | (simp only [List.map_append, List.append_assoc]; done) | (simp only [List.map_append, List.append_assoc]; rfl))⟩
            | exact ⟨i + 1, (s0 :: ss0), out ++ [(runes s)[i]], kB, ⟨by first | omega | (simp; omega), by cases Nat.lt_or_ge i (runes s).length with | inl hlt => (first | (exfalso; omega) | (left; refine ⟨by omega, ?_⟩; rw [← hf2, hdc hlt, resF_cons]; clear hf2 hf hdc hdn; simp_all; done)) | inr hge => (first | (exfalso; omega) | (right; refine ⟨by omega, ?_⟩; rw [← hf2, hdn (by omega), resF_nil]; clear hf2 hf hdc hdn; simp_all; done))⟩, by omega, St.Le.of ⟨rfl, rfl, rfl, rfl, (by show some _ = some _; first | (simp only [List.map_append, List.append_assoc]; done) | (simp only [List.map_append, List.append_assoc]; rfl)), rfl, trivial⟩ rfl (by first | (simp only [List.map_append, List.append_assoc]; done) | (simp only [List.map_append, List.append_assoc]; rfl))⟩
            | exact ⟨i + 1, [], out ++ [(runes s)[i]], kB, ⟨by first | omega | (simp; omega), by cases Nat.lt_or_ge i (runes s).length with | inl hlt => (first | (exfalso; omega) | (left; refine ⟨by omega, ?_⟩; rw [← hf2, hdc hlt, resF_cons]; clear hf2 hf hdc hdn; simp_all; done)) | inr hge => (first | (exfalso; omega) | (right; refine ⟨by omega, ?_⟩; rw [← hf2, hdn (by omega), resF_nil]; clear hf2 hf hdc hdn; simp_all; done))⟩, by omega, St.Le.of ⟨rfl, rfl, rfl, rfl, (by show some _ = some _; first | (simp only [List.map_append, List.append_assoc]; done) | (simp only [List.map_append, List.append_assoc]; rfl)), rfl, trivial⟩ rfl (by first | (simp only [List.map_append, List.append_assoc]; done) | (simp only [List.map_append, List.append_assoc]; rfl))⟩
            | exact ⟨i + 1, ss0, out, k, ⟨by first | omega | (simp; omega), by cases Nat.lt_or_ge i (runes s).length with | inl hlt => (first | (exfalso; omega) | (left; refine ⟨by omega, ?_⟩; rw [← hf2, hdc hlt, resF_cons]; clear hf2 hf hdc hdn; simp_all; done)) | inr hge => (first | (exfalso; omega) | (right; refine ⟨by omega, ?_⟩; rw [← hf2, hdn (by omega), resF_nil]; clear hf2 hf hdc hdn; simp_all; done))⟩, by omega, St.Le.of ⟨rfl, rfl, rfl, rfl, rfl, rfl, trivial⟩ rfl (rfl)⟩
            | exact ⟨i + 1, (s0 :: ss0), out, k, ⟨by first | omega | (simp; omega), by cases Nat.lt_or_ge i (runes s).length with | inl hlt => (first | (exfalso; omega) | (left; refine ⟨by omega, ?_⟩; rw [← hf2, hdc hlt, resF_cons]; clear hf2 hf hdc hdn; simp_all; done)) | inr hge => (first | (exfalso; omega) | (right; refine ⟨by omega, ?_⟩; rw [← hf2, hdn (by omega), resF_nil]; clear hf2 hf hdc hdn; simp_all; done))⟩, by omega, St.Le.of ⟨rfl, rfl, rfl, rfl, rfl, rfl, trivial⟩ rfl (rfl)⟩
            | exact ⟨i + 1, [], out, k, ⟨by first | omega | (simp; omega), by cases Nat.lt_or_ge i (runes s).length with | inl hlt => (first | (exfalso; omega) | (left; refine ⟨by omega, ?_⟩; rw [← hf2, hdc hlt, resF_cons]; clear hf2 hf hdc hdn; simp_all; done)) | inr hge => (first | (exfalso; omega) | (right; refine ⟨by omega, ?_⟩; rw [← hf2, hdn (by omega), resF_nil]; clear hf2 hf hdc hdn; simp_all; done))⟩, by omega, St.Le.of ⟨rfl, rfl, rfl, rfl, rfl, rfl, trivial⟩ rfl (rfl)⟩
    · try simp only [decide_eq_true_eq, decide_eq_false_iff_not, Bool.not_eq_true', Bool.not_eq_false', beq_iff_eq, bne_iff_ne, ne_eq, beq_eq_false_iff_ne, bne_eq_false_iff_eq, Int.not_lt, Int.not_le, Nat.not_lt, Nat.not_le, Int.ofNat_lt, Int.ofNat_le, Bool.not_eq_eq_eq_not, Bool.not_true, Bool.not_false] at hb2
      obtain rfl : ss = [] := by cases ss with | nil => rfl | cons x y => (simp only [List.length_cons] at hb2; omega)
      have ss0 : List Nat := []
      refine SOps.skip rfl ?_
      refine SOps.skip rfl ?_
      refine SOps.skip rfl ?_
      refine SOps.skip rfl ?_
      refine SOps.skip rfl ?_
      refine SOps.pick rfl rfl ?_
      refine SOps.assign rfl ?_
      refine SOps.nil ?_
      refine SCode.seq ?_
      refine SCode.seqR ?_
      refine SOps.move rfl ?_
      refine SOps.nil ?_
      refine SCode.cond rfl (fun h => by cases h) (fun _ => ?_)
      refine SCode.skip ?_
      show SCode _ _ _ _
      refine SCode.seqR ?_
      refine SOps.move rfl ?_
      refine SOps.move rfl ?_
      refine SOps.lenM rfl sliceB_35_21_1 ?_
      refine SOps.bin rfl rfl rfl ?_
      refine SOps.move rfl ?_
      refine SOps.caseB 43 rfl (fun hb10 => ?_) (fun hb10 => ?_)
      · try simp only [decide_eq_true_eq, decide_eq_false_iff_not, Bool.not_eq_true', Bool.not_eq_false', beq_iff_eq, bne_iff_ne, ne_eq, beq_eq_false_iff_ne, bne_eq_false_iff_eq, Int.not_lt, Int.not_le, Nat.not_lt, Nat.not_le, Int.ofNat_lt, Int.ofNat_le, Bool.not_eq_eq_eq_not, Bool.not_true, Bool.not_false] at hb10
        refine SOps.move rfl ?_
        refine SOps.un rfl rfl ?_
        refine SOps.move rfl ?_
        refine SOps.skip rfl ?_
        refine SOps.skip rfl ?_
        refine SOps.skip rfl ?_
        refine SOps.pick rfl rfl ?_
        refine SOps.pick rfl rfl ?_
        refine SOps.nil ?_
        refine SCode.cond rfl (fun _ => ?_) (fun h => by cases h)
        refine SCode.region ?_
        refine SOps.move rfl ?_
        refine SOps.move rfl ?_
        refine SOps.move rfl ?_
        refine SOps.indexM (i) rfl rfl sliceB_35_21_1 (by first | omega | (simp only [lenB]; omega)) (by first | omega | (simp only [lenB]; omega)) ?_
        refine SOps.loadPin rfl flatB_21 ?_
        refine SOps.litF rfl sliceB_35_21_1 zeroIs_21 rfl ?_
        refine SOps.appendAcc [] [] sliceB_35_21_1 elemB_21_1_4 rfl rfl rfl SrcD.isl (by simp) (by simp [lenB]; omega) (by simp; omega) (fun kB => ?_)
        refine SOps.assign rfl ?_
        refine SOps.nil ?_
        show SCode _ _ _ _
        refine SCode.region ?_
        refine SOps.move rfl ?_
        refine SOps.addI rfl rfl (by first | omega | (simp only [lenB]; omega)) (by first | omega | (simp only [lenB]; omega)) ?_
        refine SOps.assign rfl ?_
        refine SOps.nil ?_
        first
          | (exfalso; simp only [List.getElem_cons_zero] at *; omega)
          | exact ⟨i + 1, ss0, out ++ runes r.to ++ [(runes s)[i]], ((fun _ : Nat => kB) kA), ⟨by first | omega | (simp; omega), by cases Nat.lt_or_ge i (runes s).length with | inl hlt => (first | (exfalso; omega) | (left; refine ⟨by omega, ?_⟩; rw [← hf2, hdc hlt, resF_cons]; clear hf2 hf hdc hdn; simp_all; done)) | inr hge => (first | (exfalso; omega) | (right; refine ⟨by omega, ?_⟩; rw [← hf2, hdn (by omega), resF_nil]; clear hf2 hf hdc hdn; simp_all; done))⟩, by omega, St.Le.of ⟨rfl, rfl, rfl, rfl, (by show some _ = some _; first | (simp only [List.map_append, List.append_assoc]; done) | (simp only [List.map_append, List.append_assoc]; rfl)), rfl, trivial⟩ rfl (by first | (simp only [List.map_append, List.append_assoc]; done) | (simp only [List.map_append, List.append_assoc]; rfl))⟩
          | exact ⟨i + 1, (s0 :: ss0), out ++ runes r.to ++ [(runes s)[i]], ((fun _ : Nat => kB) kA), ⟨by first | omega | (simp; omega), by cases Nat.lt_or_ge i (runes s).length with | inl hlt => (first | (exfalso; omega) | (left; refine ⟨by omega, ?_⟩; rw [← hf2, hdc hlt, resF_cons]; clear hf2 hf hdc hdn; simp_all; done)) | inr hge => (first | (exfalso; omega) | (right; refine ⟨by omega, ?_⟩; rw [← hf2, hdn (by omega), resF_nil]; clear hf2 hf hdc hdn; simp_all; done))⟩, by omega, St.Le.of ⟨rfl, rfl, rfl, rfl, (by show some _ = some _; first | (simp only [List.map_append, List.append_assoc]; done) | (simp only [List.map_append, List.append_assoc]; rfl)), rfl, trivial⟩ rfl (by first | (simp only [List.map_append, List.append_assoc]; done) | (simp only [List.map_append, List.append_assoc]; rfl))⟩
          | exact ⟨i + 1, [], out ++ runes r.to ++ [(runes s)[i]], ((fun _ : Nat => kB) kA), ⟨by first | omega | (simp; omega), by cases Nat.lt_or_ge i (runes s).length with | inl hlt => (first | (exfalso; omega) | (left; refine ⟨by omega, ?_⟩; rw [← hf2, hdc hlt, resF_cons]; clear hf2 hf hdc hdn; simp_all; done)) | inr hge => (first | (exfalso; omega) | (right; refine ⟨by omega, ?_⟩; rw [← hf2, hdn (by omega), resF_nil]; clear hf2 hf hdc hdn; simp_all; done))⟩, by omega, St.Le.of ⟨rfl, rfl, rfl, rfl, (by show some _ = some _; first | (simp only [List.map_append, List.append_assoc]; done) | (simp only [List.map_append, List.append_assoc]; rfl)), rfl, trivial⟩ rfl (by first | (simp only [List.map_append, List.append_assoc]; done) | (simp only [List.map_append, List.append_assoc]; rfl))⟩
          | exact ⟨i + 1, ss0, out ++ runes r.to, kA, ⟨by first | omega | (simp; omega), by cases Nat.lt_or_ge i (runes s).length with | inl hlt => (first | (exfalso; omega) | (left; refine ⟨by omega, ?_⟩; rw [← hf2, hdc hlt, resF_cons]; clear hf2 hf hdc hdn; simp_all; done)) | inr hge => (first | (exfalso; omega) | (right; refine ⟨by omega, ?_⟩; rw [← hf2, hdn (by omega), resF_nil]; clear hf2 hf hdc hdn; simp_all; done))⟩, by omega, St.Le.of ⟨rfl, rfl, rfl, rfl, (by show some _ = some _; first | (simp only [List.map_append, List.append_assoc]; done) | (simp only [List.map_append, List.append_assoc]; rfl)), rfl, trivial⟩ rfl (by first | (simp only [List.map_append, List.append_assoc]; done) | (simp only [List.map_append, List.append_assoc]; rfl))⟩
          | exact ⟨i + 1, (s0 :: ss0), out ++ runes r.to, kA, ⟨by first | omega | (simp; omega), by cases Nat.lt_or_ge i (runes s).length with | inl hlt => (first | (exfalso; omega) | (left; refine ⟨by omega, ?_⟩; rw [← hf2, hdc hlt, resF_cons]; clear hf2 hf hdc hdn; simp_all; done)) | inr hge => (first | (exfalso; omega) | (right; refine ⟨by omega, ?_⟩; rw [← hf2, hdn (by omega), resF_nil]; clear hf2 hf hdc hdn; simp_all; done))⟩, by omega, St.Le.of ⟨rfl, rfl, rfl, rfl, (by show some _ = some _; first | (simp only [List.map_append, List.append_assoc]; done) | (simp only [List.map_append, List.append_assoc]; rfl)), rfl, trivial⟩ rfl (by first | (simp only [List.map_append, List.append_assoc]; done) | (simp only [List.map_append, List.append_assoc]; rfl))⟩
          | exact ⟨i + 1, [], out ++ runes r.to, kA, ⟨by first | omega | (simp; omega), by cases Nat.lt_or_ge i (runes s).length with | inl hlt => (first | (exfalso; omega) | (left; refine ⟨by omega, ?_⟩; rw [← hf2, hdc hlt, resF_cons]; clear hf2 hf hdc hdn; simp_all; done)) | inr hge => (first | (exfalso; omega) | (right; refine ⟨by omega, ?_⟩; rw [← hf2, hdn (by omega), resF_nil]; clear hf2 hf hdc hdn; simp_all; done))⟩, by omega, St.Le.of ⟨rfl, rfl, rfl, rfl, (by show some _ = some _; first | (simp only [List.map_append, List.append_assoc]; done) | (simp only [List.map_append, List.append_assoc]; rfl)), rfl, trivial⟩ rfl (by first | (simp only [List.map_append, List.append_assoc]; done) | (simp only [List.map_append, List.append_assoc]; rfl))⟩
          | exact ⟨i + 1, ss0, out ++ [(runes s)[i]], kB, ⟨by first | omega | (simp; omega), by cases Nat.lt_or_ge i (runes s).length with | inl hlt => (first | (exfalso; omega) | (left; refine ⟨by omega, ?_⟩; rw [← hf2, hdc hlt, resF_cons]; clear hf2 hf hdc hdn; simp_all; done)) | inr hge => (first | (exfalso; omega) | (right; refine ⟨by omega, ?_⟩; rw [← hf2, hdn (by omega), resF_nil]; clear hf2 hf hdc hdn; simp_all; done))⟩, by omega, St.Le.of ⟨rfl, rfl, rfl, rfl, (by show some _ = some _; first | (simp only [List.map_append, List.append_assoc]; done) | (simp only [List.map_append, List.append_assoc]; rfl)), rfl, trivial⟩ rfl (by first | (simp only [List.map_append, List.append_assoc]; done) | (simp only [List.map_append, List.append_assoc]; rfl))⟩
          | exact ⟨i + 1, (s0 :: ss0), out ++ [(runes s)[i]], kB, ⟨by first | omega | (simp; omega), by cases Nat.lt_or_ge i (runes s).length with | inl hlt => (first | (exfalso; omega) | (left; refine ⟨by omega, ?_⟩; rw [← hf2, hdc hlt, resF_cons]; clear hf2 hf hdc hdn; simp_all; done)) | inr hge => (first | (exfalso; omega) | (right; refine ⟨by omega, ?_⟩; rw [← hf2, hdn (by omega), resF_nil]; clear hf2 hf hdc hdn; simp_all; done))⟩, by omega, St.Le.of ⟨rfl, rfl, rfl, rfl, (by show some _ = some _; first | (simp only [List.map_append, List.append_assoc]; done) | (simp only [List.map_append, List.append_assoc]; rfl)), rfl, trivial⟩ rfl (by first | (simp only [List.map_append, List.append_assoc]; done) | (simp only [List.map_append, List.append_assoc]; rfl))⟩
          | exact ⟨i + 1, [], out ++ [(runes s)[i]], kB, ⟨by first | omega | (simp; omega), by cases Nat.lt_or_ge i (runes s).length with | inl hlt => (first | (exfalso; omega) | (left; refine ⟨by omega, ?_⟩; rw [← hf2, hdc hlt, resF_cons]; clear hf2 hf hdc hdn; simp_all; done)) | inr hge => (first | (exfalso; omega) | (right; refine ⟨by omega, ?_⟩; rw [← hf2, hdn (by omega), resF_nil]; clear hf2 hf hdc hdn; simp_all; done))⟩, by omega, St.Le.of ⟨rfl, rfl, rfl, rfl, (by show some _ = some _; first | (simp only [List.map_append, List.append_assoc]; done) | (simp only [List.map_append, List.append_assoc]; rfl)), rfl, trivial⟩ rfl (by first | (simp only [List.map_append, List.append_assoc]; done) | (simp only [List.map_append, List.append_assoc]; rfl))⟩
          | exact ⟨i + 1, ss0, out, k, ⟨by first | omega | (simp; omega), by cases Nat.lt_or_ge i (runes s).length with | inl hlt => (first | (exfalso; omega) | (left; refine ⟨by omega, ?_⟩; rw [← hf2, hdc hlt, resF_cons]; clear hf2 hf hdc hdn; simp_all; done)) | inr hge => (first | (exfalso; omega) | (right; refine ⟨by omega, ?_⟩; rw [← hf2, hdn (by omega), resF_nil]; clear hf2 hf hdc hdn; simp_all; done))⟩, by omega, St.Le.of ⟨rfl, rfl, rfl, rfl, rfl, rfl, trivial⟩ rfl (rfl)⟩
          | exact ⟨i + 1, (s0 :: ss0), out, k, ⟨by first | omega | (simp; omega), by cases Nat.lt_or_ge i (runes s).length with | inl hlt => (first | (exfalso; omega) | (left; refine ⟨by omega, ?_⟩; rw [← hf2, hdc hlt, resF_cons]; clear hf2 hf hdc hdn; simp_all; done)) | inr hge => (first | (exfalso; omega) | (right; refine ⟨by omega, ?_⟩; rw [← hf2, hdn (by omega), resF_nil]; clear hf2 hf hdc hdn; simp_all; done))⟩, by omega, St.Le.of ⟨rfl, rfl, rfl, rfl, rfl, rfl, trivial⟩ rfl (rfl)⟩
          | exact ⟨i + 1, [], out, k, ⟨by first | omega | (simp; omega), by cases Nat.lt_or_ge i (runes s).length with | inl hlt => (first | (exfalso; omega) | (left; refine ⟨by omega, ?_⟩; rw [← hf2, hdc hlt, resF_cons]; clear hf2 hf hdc hdn; simp_all; done)) | inr hge => (first | (exfalso; omega) | (right; refine ⟨by omega, ?_⟩; rw [← hf2, hdn (by omega), resF_nil]; clear hf2 hf hdc hdn; simp_all; done))⟩, by omega, St.Le.of ⟨rfl, rfl, rfl, rfl, rfl, rfl, trivial⟩ rfl (rfl)⟩
      · try simp only [decide_eq_true_eq, decide_eq_false_iff_not, Bool.not_eq_true', Bool.not_eq_false', beq_iff_eq, bne_iff_ne, ne_eq, beq_eq_false_iff_ne, bne_eq_false_iff_eq, Int.not_lt, Int.not_le, Nat.not_lt, Nat.not_le, Int.ofNat_lt, Int.ofNat_le, Bool.not_eq_eq_eq_not, Bool.not_true, Bool.not_false] at hb10
        refine SOps.skip rfl ?_
        refine SOps.skip rfl ?_
        refine SOps.skip rfl ?_
        refine SOps.skip rfl ?_
        refine SOps.skip rfl ?_
        refine SOps.skip rfl ?_
        refine SOps.skip rfl ?_
        refine SOps.pick rfl rfl ?_
        refine SOps.nil ?_
        refine SCode.cond rfl (fun h => by cases h) (fun _ => ?_)
        refine SCode.skip ?_
        show SCode _ _ _ _
        refine SCode.region ?_
        refine SOps.move rfl ?_
        refine SOps.addI rfl rfl (by first | omega | (simp only [lenB]; omega)) (by first | omega | (simp only [lenB]; omega)) ?_
        refine SOps.assign rfl ?_
        refine SOps.nil ?_
        first
          | (exfalso; simp only [List.getElem_cons_zero] at *; omega)
          | exact ⟨i + 1, ss0, out ++ runes r.to ++ [(runes s)[i]], ((fun _ : Nat => kB) kA), ⟨by first | omega | (simp; omega), by cases Nat.lt_or_ge i (runes s).length with | inl hlt => (first | (exfalso; omega) | (left; refine ⟨by omega, ?_⟩; rw [← hf2, hdc hlt, resF_cons]; clear hf2 hf hdc hdn; simp_all; done)) | inr hge => (first | (exfalso; omega) | (right; refine ⟨by omega, ?_⟩; rw [← hf2, hdn (by omega), resF_nil]; clear hf2 hf hdc hdn; simp_all; done))⟩, by omega, St.Le.of ⟨rfl, rfl, rfl, rfl, (by show some _ = some _; first | (simp only [List.map_append, List.append_assoc]; done) | (simp only [List.map_append, List.append_assoc]; rfl)), rfl, trivial⟩ rfl (by first | (simp only [List.map_append, List.append_assoc]; done) | (simp only [List.map_append, List.append_assoc]; rfl))⟩
          | exact ⟨i + 1, (s0 :: ss0), out ++ runes r.to ++ [(runes s)[i]], ((fun _ : Nat => kB) kA), ⟨by first | omega | (simp; omega), by cases Nat.lt_or_ge i (runes s).length with | inl hlt => (first | (exfalso; omega) | (left; refine ⟨by omega, ?_⟩; rw [← hf2, hdc hlt, resF_cons]; clear hf2 hf hdc hdn; simp_all; done)) | inr hge => (first | (exfalso; omega) | (right; refine ⟨by omega, ?_⟩; rw [← hf2, hdn (by omega), resF_nil]; clear hf2 hf hdc hdn; simp_all; done))⟩, by omega, St.Le.of ⟨rfl, rfl, rfl, rfl, (by show some _ = some _; first | (simp only [List.map_append, List.append_assoc]; done) | (simp only [List.map_append, List.append_assoc]; rfl)), rfl, trivial⟩ rfl (by first | (simp only [List.map_append, List.append_assoc]; done) | (simp only [List.map_append, List.append_assoc]; rfl))⟩
          | exact ⟨i + 1, [], out ++ runes r.to ++ [(runes s)[i]], ((fun _ : Nat => kB) kA), ⟨by first | omega | (simp; omega), by cases Nat.lt_or_ge i (runes s).length with | inl hlt => (first | (exfalso; omega) | (left; refine ⟨by omega, ?_⟩; rw [← hf2, hdc hlt, resF_cons]; clear hf2 hf hdc hdn; simp_all; done)) | inr hge => (first | (exfalso; omega) | (right; refine ⟨by omega, ?_⟩; rw [← hf2, hdn (by omega), resF_nil]; clear hf2 hf hdc hdn; simp_all; done))⟩, by omega, St.Le.of ⟨rfl, rfl, rfl, rfl, (by show some _ = some _; first | (simp only [List.map_append, List.append_assoc]; done) | (simp only [List.map_append, List.append_assoc]; rfl)), rfl, trivial⟩ rfl (by first | (simp only [List.map_append, List.append_assoc]; done) | (simp only [List.map_append, List.append_assoc]; rfl))⟩
          | exact ⟨i + 1, ss0, out ++ runes r.to, kA, ⟨by first | omega | (simp; omega), by cases Nat.lt_or_ge i (runes s).length with | inl hlt => (first | (exfalso; omega) | (left; refine ⟨by omega, ?_⟩; rw [← hf2, hdc hlt, resF_cons]; clear hf2 hf hdc hdn; simp_all; done)) | inr hge => (first | (exfalso; omega) | (right; refine ⟨by omega, ?_⟩; rw [← hf2, hdn (by omega), resF_nil]; clear hf2 hf hdc hdn; simp_all; done))⟩, by omega, St.Le.of ⟨rfl, rfl, rfl, rfl, (by show some _ = some _; first | (simp only [List.map_append, List.append_assoc]; done) | (simp only [List.map_append, List.append_assoc]; rfl)), rfl, trivial⟩ rfl (by first | (simp only [List.map_append, List.append_assoc]; done) | (simp only [List.map_append, List.append_assoc]; rfl))⟩
          | exact ⟨i + 1, (s0 :: ss0), out ++ runes r.to, kA, ⟨by first | omega | (simp; omega), by cases Nat.lt_or_ge i (runes s).length with | inl hlt => (first | (exfalso; omega) | (left; refine ⟨by omega, ?_⟩; rw [← hf2, hdc hlt, resF_cons]; clear hf2 hf hdc hdn; simp_all; done)) | inr hge => (first | (exfalso; omega) | (right; refine ⟨by omega, ?_⟩; rw [← hf2, hdn (by omega), resF_nil]; clear hf2 hf hdc hdn; simp_all; done))⟩, by omega, St.Le.of ⟨rfl, rfl, rfl, rfl, (by show some _ = some _; first | (simp only [List.map_append, List.append_assoc]; done) | (simp only [List.map_append, List.append_assoc]; rfl)), rfl, trivial⟩ rfl (by first | (simp only [List.map_append, List.append_assoc]; done) | (simp only [List.map_append, List.append_assoc]; rfl))⟩
          | exact ⟨i + 1, [], out ++ runes r.to, kA, ⟨by first | omega | (simp; omega), by cases Nat.lt_or_ge i (runes s).length with | inl hlt => (first | (exfalso; omega) | (left; refine ⟨by omega, ?_⟩; rw [← hf2, hdc hlt, resF_cons]; clear hf2 hf hdc hdn; simp_all; done)) | inr hge => (first | (exfalso; omega) | (right; refine ⟨by omega, ?_⟩; rw [← hf2, hdn (by omega), resF_nil]; clear hf2 hf hdc hdn; simp_all; done))⟩, by omega, St.Le.of ⟨rfl, rfl, rfl, rfl, (by show some _ = some _; first | (simp only [List.map_append, List.append_assoc]; done) | (simp only [List.map_append, List.append_assoc]; rfl)), rfl, trivial⟩ rfl (by first | (simp only [List.map_append, List.append_assoc]; done) | (simp only [List.map_append, List.append_assoc]; rfl))⟩
          | exact ⟨i + 1, ss0, out ++ [(runes s)[i]], kB, ⟨by first | omega | (simp; omega), by cases Nat.lt_or_ge i (runes s).length with | inl hlt => (first | (exfalso; omega) | (left; refine ⟨by omega, ?_⟩; rw [← hf2, hdc hlt, resF_cons]; clear hf2 hf hdc hdn; simp_all; done)) | inr hge => (first | (exfalso; omega) | (right; refine ⟨by omega, ?_⟩; rw [← hf2, hdn (by omega), resF_nil]; clear hf2 hf hdc hdn; simp_all; done))⟩, by omega, St.Le.of ⟨rfl, rfl, rfl, rfl, (by show some _ = some _; first | (simp only [List.map_append, List.append_assoc]; done) | (simp only [List.map_append, List.append_assoc]; rfl)), rfl, trivial⟩ rfl (by first | (simp only [List.map_append, List.append_assoc]; done) | (simp only [List.map_append, List.append_assoc]; rfl))⟩
          | exact ⟨i + 1, (s0 :: ss0), out ++ [(runes s)[i]], kB, ⟨by first | omega | (simp; omega), by cases Nat.lt_or_ge i (runes s).length with | inl hlt => (first | (exfalso; omega) | (left; refine ⟨by omega, ?_⟩; rw [← hf2, hdc hlt, resF_cons]; clear hf2 hf hdc hdn; simp_all; done)) | inr hge => (first | (exfalso; omega) | (right; refine ⟨by omega, ?_⟩; rw [← hf2, hdn (by omega), resF_nil]; clear hf2 hf hdc hdn; simp_all; done))⟩, by omega, St.Le.of ⟨rfl, rfl, rfl, rfl, (by show some _ = some _; first | (simp only [List.map_append, List.append_assoc]; done) | (simp only [List.map_append, List.append_assoc]; rfl)), rfl, trivial⟩ rfl (by first | (simp only [List.map_append, List.append_assoc]; done) | (simp only [List.map_append, List.append_assoc]; rfl))⟩
          | exact ⟨i + 1, [], out ++ [(runes s)[i]], kB, ⟨by first | omega | (simp; omega), by cases Nat.lt_or_ge i (runes s).length with | inl hlt => (first | (exfalso; omega) | (left; refine ⟨by omega, ?_⟩; rw [← hf2, hdc hlt, resF_cons]; clear hf2 hf hdc hdn; simp_all; done)) | inr hge => (first | (exfalso; omega) | (right; refine ⟨by omega, ?_⟩; rw [← hf2, hdn (by omega), resF_nil]; clear hf2 hf hdc hdn; simp_all; done))⟩, by omega, St.Le.of ⟨rfl, rfl, rfl, rfl, (by show some _ = some _; first | (simp only [List.map_append, List.append_assoc]; done) | (simp only [List.map_append, List.append_assoc]; rfl)), rfl, trivial⟩ rfl (by first | (simp only [List.map_append, List.append_assoc]; done) | (simp only [List.map_append, List.append_assoc]; rfl))⟩
          | exact ⟨i + 1, ss0, out, k, ⟨by first | omega | (simp; omega), by cases Nat.lt_or_ge i (runes s).length with | inl hlt => (first | (exfalso; omega) | (left; refine ⟨by omega, ?_⟩; rw [← hf2, hdc hlt, resF_cons]; clear hf2 hf hdc hdn; simp_all; done)) | inr hge => (first | (exfalso; omega) | (right; refine ⟨by omega, ?_⟩; rw [← hf2, hdn (by omega), resF_nil]; clear hf2 hf hdc hdn; simp_all; done))⟩, by omega, St.Le.of ⟨rfl, rfl, rfl, rfl, rfl, rfl, trivial⟩ rfl (rfl)⟩
          | exact ⟨i + 1, (s0 :: ss0), out, k, ⟨by first | omega | (simp; omega), by cases Nat.lt_or_ge i (runes s).length with | inl hlt => (first | (exfalso; omega) | (left; refine ⟨by omega, ?_⟩; rw [← hf2, hdc hlt, resF_cons]; clear hf2 hf hdc hdn; simp_all; done)) | inr hge => (first | (exfalso; omega) | (right; refine ⟨by omega, ?_⟩; rw [← hf2, hdn (by omega), resF_nil]; clear hf2 hf hdc hdn; simp_all; done))⟩, by omega, St.Le.of ⟨rfl, rfl, rfl, rfl, rfl, rfl, trivial⟩ rfl (rfl)⟩
          | exact ⟨i + 1, [], out, k, ⟨by first | omega | (simp; omega), by cases Nat.lt_or_ge i (runes s).length with | inl hlt => (first | (exfalso; omega) | (left; refine ⟨by omega, ?_⟩; rw [← hf2, hdc hlt, resF_cons]; clear hf2 hf hdc hdn; simp_all; done)) | inr hge => (first | (exfalso; omega) | (right; refine ⟨by omega, ?_⟩; rw [← hf2, hdn (by omega), resF_nil]; clear hf2 hf hdc hdn; simp_all; done))⟩, by omega, St.Le.of ⟨rfl, rfl, rfl, rfl, rfl, rfl, trivial⟩ rfl (rfl)⟩
  · try simp only [decide_eq_true_eq, decide_eq_false_iff_not, Bool.not_eq_true', Bool.not_eq_false', beq_iff_eq, bne_iff_ne, ne_eq, beq_eq_false_iff_ne, bne_eq_false_iff_eq, Int.not_lt, Int.not_le, Nat.not_lt, Nat.not_le, Int.ofNat_lt, Int.ofNat_le, Bool.not_eq_eq_eq_not, Bool.not_true, Bool.not_false] at hc1
    refine SCode.exit ?_
    show SCode _ _ _ _
    refine SCode.seqR ?_
    obtain ⟨_, rfl⟩ := hf.resolve_left (by omega)
    refine SOps.freezeAcc (t := 9) [] [] rfl rfl rfl ?_
    refine SOps.move rfl ?_
    refine SOps.convRunesStr rfl sliceB_35_21_1 intB_21_i32 strB_9 (by simp [lenB] <;> (first | omega | (simp only [lenB]; omega))) ?_
    refine SOps.assign rfl ?_
    refine SOps.nil ?_
    refine SCode.ret ?_
    exact ⟨_, Res.one (.tmp rfl), rfl, rfl⟩
end Go.GH
