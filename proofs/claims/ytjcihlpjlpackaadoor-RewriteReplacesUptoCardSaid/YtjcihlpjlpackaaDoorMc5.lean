/-
  Part 5 of the texts behind the walks of this claim: an own layer over the kit's wp, plain laws, and walks. No conditions.
-/
import Derived.Test.YtjcihlpjlpackaaDoorMc4
import Derived.Shelf.Unicode.ValidAny
import Derived.Test.YtjcihlpjlpackaaDoorProg
import Derived.ChangeArms
import Derived.DataReads
import Derived.Lib.MapLaws
import Derived.Lib.TrimUEq
import Derived.Lib.LaidU8T
import Derived.KernelRfl
import Derived.Lib.SpaceUEq
set_option linter.unusedVariables false
set_option linter.unusedSimpArgs false
set_option linter.deprecated false
namespace Go.GH
open Go Go.Proofs
variable {E : Env}
theorem rSites0 (hV : VS E) (a : List Letter) (r : Rule) (s : ByteArray) (hr : SmR r) (hs : s.size ≤ 1048576) : GCall Tryd.prog E 17 [DLs a, .agg (encR r), .v (.string s)] [] (fun d H => d = (if okR a r s then DNats (sitesF (siteB a r (runes s)) (runes s)) else .v (.slice none 0 0)) ∧ H = []) := by
  refine GCall.body (C := ⟨Tryd.prog, E, true⟩) Tryd.func17 rfl (fun _ => rfl) (by kernel_rfl) rfl ?_
  refine SCode.seqR ?_
  refine SOps.boxAM rfl rfl ?_
  refine SOps.assign rfl ?_
  refine SOps.nil ?_
  refine SCode.scope ?_
  refine SCode.seq ?_
  refine SCode.seqR ?_
  refine SOps.move rfl ?_
  refine SOps.loadPinA rfl aggB_25_6 (Nat.le_of_ble_eq_true rfl) ?_
  refine SOps.callP (rValid hV _ _ (by assumption)) rfl ?_
  rintro _ rfl
  refine SOps.un rfl rfl ?_
  refine SOps.move rfl ?_
  refine SOps.caseB 15 rfl (fun hb1 => ?_) (fun hb1 => ?_)
  · try simp only [decide_eq_true_eq, decide_eq_false_iff_not, Bool.not_eq_true', Bool.not_eq_false', beq_iff_eq, bne_iff_ne, ne_eq, beq_eq_false_iff_ne, bne_eq_false_iff_eq, Int.not_lt, Int.not_le, Nat.not_lt, Nat.not_le, Int.ofNat_lt, Int.ofNat_le, Bool.not_eq_eq_eq_not, Bool.not_true, Bool.not_false] at hb1
    refine SOps.skip rfl ?_
    refine SOps.skip rfl ?_
    refine SOps.skip rfl ?_
    refine SOps.skip rfl ?_
    refine SOps.pick rfl rfl ?_
    refine SOps.nil ?_
    refine SCode.cond rfl (fun _ => ?_) (fun h => by cases h)
    refine SCode.seqR ?_
    refine SOps.assign rfl ?_
    refine SOps.nil ?_
    refine SCode.ret ?_
    exact ⟨_, Res.one (.tmp rfl), by first | (rw [if_neg (by simp_all [okR])]; done) | (rw [if_pos hok, ← ho]; rfl), rfl⟩
  · try simp only [decide_eq_true_eq, decide_eq_false_iff_not, Bool.not_eq_true', Bool.not_eq_false', beq_iff_eq, bne_iff_ne, ne_eq, beq_eq_false_iff_ne, bne_eq_false_iff_eq, Int.not_lt, Int.not_le, Nat.not_lt, Nat.not_le, Int.ofNat_lt, Int.ofNat_le, Bool.not_eq_eq_eq_not, Bool.not_true, Bool.not_false] at hb1
    refine SOps.move rfl ?_
    refine SOps.move rfl ?_
    refine SOps.callP (lIsWord hV _ _) rfl ?_
    rintro _ rfl
    refine SOps.un rfl rfl ?_
    refine SOps.pick rfl rfl ?_
    refine SOps.nil ?_
    refine SCode.cond rfl (fun hc2 => ?_) (fun hc2 => ?_)
    · try simp only [decide_eq_true_eq, decide_eq_false_iff_not, Bool.not_eq_true', Bool.not_eq_false', beq_iff_eq, bne_iff_ne, ne_eq, beq_eq_false_iff_ne, bne_eq_false_iff_eq, Int.not_lt, Int.not_le, Nat.not_lt, Nat.not_le, Int.ofNat_lt, Int.ofNat_le, Bool.not_eq_eq_eq_not, Bool.not_true, Bool.not_false] at hc2
      refine SCode.seqR ?_
      refine SOps.assign rfl ?_
      refine SOps.nil ?_
      refine SCode.ret ?_
      exact ⟨_, Res.one (.tmp rfl), by first | (rw [if_neg (by simp_all [okR])]; done) | (rw [if_pos hok, ← ho]; rfl), rfl⟩
    · try simp only [decide_eq_true_eq, decide_eq_false_iff_not, Bool.not_eq_true', Bool.not_eq_false', beq_iff_eq, bne_iff_ne, ne_eq, beq_eq_false_iff_ne, bne_eq_false_iff_eq, Int.not_lt, Int.not_le, Nat.not_lt, Nat.not_le, Int.ofNat_lt, Int.ofNat_le, Bool.not_eq_eq_eq_not, Bool.not_true, Bool.not_false] at hc2
      refine SCode.skip ?_
      show SCode _ _ _ _
      refine SCode.seqR ?_
      refine SOps.move rfl ?_
      refine SOps.runesF rfl rfl strB_9 sliceB_35_21_1 intB_21_i32 ?_
      refine SOps.assign rfl ?_
      refine SOps.nil ?_
      refine SCode.seqR ?_
      refine SOps.assign rfl ?_
      refine SOps.nil ?_
      refine SCode.seq ?_
      refine SCode.label ?_
      show SCode _ _ _ _
      refine SCode.seq ?_
      refine SCode.seqR ?_
      refine SOps.assign rfl ?_
      refine SOps.nil ?_
      refine SCode.block ?_
      have hok : okR a r s = true := by simp_all [okR]
      have hw40 : (runes s).length ≤ 40 := by have h40 : consS a 40 s = true := (by simp_all); rw [consS_eq] at h40; simp only [Bool.and_eq_true, decide_eq_true_eq] at h40; exact h40.1.2
      refine SCode.loop3 (fun (i : Nat) (out : List Nat) (k : Nat) => (⟨69, [(0, DLs a), (4, .ipin (encR r)), (7, DRunes (runes s)), (8, accD 1 k (out.map encN)), (9, .v (.int .i64 (i : Int)))], accH 3 1 k (out.map encN) ++ []⟩ : St)) (fun (i : Nat) (out : List Nat) (k : Nat) => i ≤ (runes s).length + 1 ∧ (List.range i).filter (siteB a r (runes s)) = out) (fun (i : Nat) (out : List Nat) (k : Nat) => (runes s).length + 1 - i) (0) ([]) (0) (by exact ⟨Nat.zero_le _, rfl⟩) (St.Le.of ⟨(by first | rfl | (show some _ = some _; simp)), (by first | rfl | (show some _ = some _; simp)), (by first | rfl | (show some _ = some _; simp)), (by first | rfl | (show some _ = some _; simp)), (by first | rfl | (show some _ = some _; simp)), trivial⟩ rfl (by first | rfl | (simp))) ?_
      rintro i out k ⟨hi, ho⟩
      have hol := filter_len (siteB a r (runes s)) i
      rw [ho] at hol
      refine SCode.seq ?_
      refine SCode.seqR ?_
      refine SOps.move rfl ?_
      refine SOps.move rfl ?_
      refine SOps.lenM rfl sliceB_35_21_1 ?_
      refine SOps.bin rfl rfl rfl ?_
      refine SOps.nil ?_
      refine SCode.cond rfl (fun hc3 => ?_) (fun hc3 => ?_)
      · try simp only [decide_eq_true_eq, decide_eq_false_iff_not, Bool.not_eq_true', Bool.not_eq_false', beq_iff_eq, bne_iff_ne, ne_eq, beq_eq_false_iff_ne, bne_eq_false_iff_eq, Int.not_lt, Int.not_le, Nat.not_lt, Nat.not_le, Int.ofNat_lt, Int.ofNat_le, Bool.not_eq_eq_eq_not, Bool.not_true, Bool.not_false] at hc3
        refine SCode.skip ?_
        show SCode _ _ _ _
        refine SCode.seq ?_
        refine SCode.block ?_
        refine SCode.seqR ?_
        refine SOps.move rfl ?_
        refine SOps.assign rfl ?_
        refine SOps.nil ?_
        refine SCode.seq ?_
        refine SCode.seqR ?_
        refine SOps.fieldPin rfl fieldB_25_0_0 ?_
        refine SOps.loadPin rfl flatB_21 ?_
        refine SOps.bin rfl rfl rfl ?_
        refine SOps.nil ?_
        refine SCode.cond rfl (fun hc4 => ?_) (fun hc4 => ?_)
        · try simp only [decide_eq_true_eq, decide_eq_false_iff_not, Bool.not_eq_true', Bool.not_eq_false', beq_iff_eq, bne_iff_ne, ne_eq, beq_eq_false_iff_ne, bne_eq_false_iff_eq, Int.not_lt, Int.not_le, Nat.not_lt, Nat.not_le, Int.ofNat_lt, Int.ofNat_le, Bool.not_eq_eq_eq_not, Bool.not_true, Bool.not_false] at hc4
          refine SCode.seq ?_
          refine SCode.seq ?_
          rcases (show i = (runes s).length ∨ i < (runes s).length from by omega) with hq | hq
          · refine SCode.drawPure mixed_ [(33, .v (.int .i64 (i : Int))), (34, DRunes (runes s)), (35, .v (.int .i64 (((runes s).length : Nat) : Int))), (36, .v (.bool true)), (37, .v (.bool true)), (38, .v (.tuple #[])), (39, .v (.tuple #[])), (40, .v (.tuple #[])), (41, .v (.tuple #[])), (42, .v (.tuple #[])), (43, .v (.tuple #[])), (44, .v (.tuple #[])), (45, .v (.bool true))] [33, 34, 35, 36, 37, 38, 39, 40, 41, 42, 43, 44, 45] [[.inr 9], [.inr 7], [.inl 1], [.inl 0, .inl 2], [.inl 3], [.inl 4], [.inl 4], [.inl 4], [.inl 4], [.inl 4], [.inl 4], [.inl 4], [.inl 4, .inl 11]] [[(9, .v (.int .i64 (i : Int)))], [(7, DRunes (runes s))], [(34, DRunes (runes s))], [(33, .v (.int .i64 (i : Int))), (35, .v (.int .i64 (((runes s).length : Nat) : Int)))], [(36, .v (.bool true))], [(37, .v (.bool true))], [(37, .v (.bool true))], [(37, .v (.bool true))], [(37, .v (.bool true))], [(37, .v (.bool true))], [(37, .v (.bool true))], [(37, .v (.bool true))], [(37, .v (.bool true)), (44, .v (.tuple #[]))]] rfl (by kernel_rfl) (by kernel_rfl) rfl ?_ ?_
            · refine OpsOk.cons (fun rest => ?_) ?_
              · refine SOps.move rfl ?_
                exact SOps.nil (by first | rfl | simp_all)
              refine OpsOk.cons (fun rest => ?_) ?_
              · refine SOps.move rfl ?_
                exact SOps.nil (by first | rfl | simp_all)
              refine OpsOk.cons (fun rest => ?_) ?_
              · refine SOps.lenM rfl sliceB_35_21_1 ?_
                exact SOps.nil (by first | rfl | simp_all)
              refine OpsOk.cons (fun rest => ?_) ?_
              · refine SOps.bin rfl rfl rfl ?_
                exact SOps.nil (by exact congrArg (fun b => St.put _ _ (.v (.bool b))) (beq_iff_eq.2 (by omega)))
              refine OpsOk.cons (fun rest => ?_) ?_
              · refine SOps.move rfl ?_
                exact SOps.nil (by first | rfl | simp_all)
              refine OpsOk.cons (fun rest => ?_) ?_
              · refine SOps.skip rfl ?_
                exact SOps.nil (by first | rfl | simp_all)
              refine OpsOk.cons (fun rest => ?_) ?_
              · refine SOps.skip rfl ?_
                exact SOps.nil (by first | rfl | simp_all)
              refine OpsOk.cons (fun rest => ?_) ?_
              · refine SOps.skip rfl ?_
                exact SOps.nil (by first | rfl | simp_all)
              refine OpsOk.cons (fun rest => ?_) ?_
              · refine SOps.skip rfl ?_
                exact SOps.nil (by first | rfl | simp_all)
              refine OpsOk.cons (fun rest => ?_) ?_
              · refine SOps.skip rfl ?_
                exact SOps.nil (by first | rfl | simp_all)
              refine OpsOk.cons (fun rest => ?_) ?_
              · refine SOps.skip rfl ?_
                exact SOps.nil (by first | rfl | simp_all)
              refine OpsOk.cons (fun rest => ?_) ?_
              · refine SOps.skip rfl ?_
                exact SOps.nil (by first | rfl | simp_all)
              refine OpsOk.cons (fun rest => ?_) ?_
              · refine SOps.pick rfl rfl ?_
                exact SOps.nil (by first | rfl | simp_all)
              exact OpsOk.nil
            · show SCode _ _ _ _
              refine SCode.cond rfl (fun _ => ?_) (fun h => by cases h)
              refine SCode.exit ?_
              show SCode _ _ _ _
              refine SCode.region ?_
              refine SOps.move rfl ?_
              refine SOps.addI rfl rfl (by first | omega | (simp only [lenB]; omega)) (by first | omega | (simp only [lenB]; omega)) ?_
              refine SOps.assign rfl ?_
              refine SOps.nil ?_
              first
                | exact ⟨i + 1, out ++ [i], b0, ⟨by omega, by rw [filter_succ, if_pos (by simp_all [siteB]), ho]⟩, by omega, St.Le.of ⟨rfl, rfl, rfl, (by show some _ = some _; rw [List.map_append]; rfl), rfl, trivial⟩ rfl (by rw [List.map_append]; rfl)⟩
                | exact ⟨i + 1, out ++ [i], b1, ⟨by omega, by rw [filter_succ, if_pos (by simp_all [siteB]), ho]⟩, by omega, St.Le.of ⟨rfl, rfl, rfl, (by show some _ = some _; rw [List.map_append]; rfl), rfl, trivial⟩ rfl (by rw [List.map_append]; rfl)⟩
                | exact ⟨i + 1, out, k, ⟨by omega, by rw [filter_succ, if_neg (by simp_all [siteB]), ho, List.append_nil]⟩, by omega, St.Le.of ⟨rfl, rfl, rfl, rfl, rfl, trivial⟩⟩
          · refine SCode.drawPure mixed_ [(33, .v (.int .i64 (i : Int))), (34, DRunes (runes s)), (35, .v (.int .i64 (((runes s).length : Nat) : Int))), (36, .v (.bool false)), (37, .v (.bool false)), (38, DRunes (runes s)), (39, .v (.int .i64 (i : Int))), (40, .ipin (rcell ((runes s)[i]))), (41, .v (.int .i32 ((runes s)[i]))), (42, .ipin ((encR r).drop 0)), (43, .v (.int .i32 r.fr)), (44, .v (.bool (!decide ((runes s)[i] = r.fr)))), (45, .v (.bool (!decide ((runes s)[i] = r.fr))))] [33, 34, 35, 36, 37, 38, 39, 40, 41, 42, 43, 44, 45] [[.inr 9], [.inr 7], [.inl 1], [.inl 0, .inl 2], [.inl 3], [.inl 4, .inr 7], [.inl 4, .inr 9], [.inl 4, .inl 5, .inl 6], [.inl 4, .inl 7], [.inl 4, .inr 4], [.inl 4, .inl 9], [.inl 4, .inl 8, .inl 10], [.inl 4, .inl 11]] [[(9, .v (.int .i64 (i : Int)))], [(7, DRunes (runes s))], [(34, DRunes (runes s))], [(33, .v (.int .i64 (i : Int))), (35, .v (.int .i64 (((runes s).length : Nat) : Int)))], [(36, .v (.bool false))], [(37, .v (.bool false)), (7, DRunes (runes s))], [(37, .v (.bool false)), (9, .v (.int .i64 (i : Int)))], [(37, .v (.bool false)), (38, DRunes (runes s)), (39, .v (.int .i64 (i : Int)))], [(37, .v (.bool false)), (40, .ipin (rcell ((runes s)[i])))], [(37, .v (.bool false)), (4, .ipin (encR r))], [(37, .v (.bool false)), (42, .ipin ((encR r).drop 0))], [(37, .v (.bool false)), (41, .v (.int .i32 ((runes s)[i]))), (43, .v (.int .i32 r.fr))], [(37, .v (.bool false)), (44, .v (.bool (!decide ((runes s)[i] = r.fr))))]] rfl (by kernel_rfl) (by kernel_rfl) rfl ?_ ?_
            · refine OpsOk.cons (fun rest => ?_) ?_
              · refine SOps.move rfl ?_
                exact SOps.nil (by first | rfl | simp_all)
              refine OpsOk.cons (fun rest => ?_) ?_
              · refine SOps.move rfl ?_
                exact SOps.nil (by first | rfl | simp_all)
              refine OpsOk.cons (fun rest => ?_) ?_
              · refine SOps.lenM rfl sliceB_35_21_1 ?_
                exact SOps.nil (by first | rfl | simp_all)
              refine OpsOk.cons (fun rest => ?_) ?_
              · refine SOps.bin rfl rfl rfl ?_
                exact SOps.nil (by exact congrArg (fun b => St.put _ _ (.v (.bool b))) (beq_eq_false_iff_ne.2 (by omega)))
              refine OpsOk.cons (fun rest => ?_) ?_
              · refine SOps.move rfl ?_
                exact SOps.nil (by first | rfl | simp_all)
              refine OpsOk.cons (fun rest => ?_) ?_
              · refine SOps.move rfl ?_
                exact SOps.nil (by first | rfl | simp_all)
              refine OpsOk.cons (fun rest => ?_) ?_
              · refine SOps.move rfl ?_
                exact SOps.nil (by first | rfl | simp_all)
              refine OpsOk.cons (fun rest => ?_) ?_
              · refine SOps.indexM (i) rfl rfl sliceB_35_21_1 (by first | omega | (simp only [lenB]; omega)) (by first | omega | (simp only [lenB]; omega)) ?_
                exact SOps.nil (by first | rfl | simp_all)
              refine OpsOk.cons (fun rest => ?_) ?_
              · refine SOps.loadPin rfl flatB_21 ?_
                exact SOps.nil (by first | rfl | simp_all)
              refine OpsOk.cons (fun rest => ?_) ?_
              · refine SOps.fieldPin rfl fieldB_25_0_0 ?_
                exact SOps.nil (by first | rfl | simp_all)
              refine OpsOk.cons (fun rest => ?_) ?_
              · refine SOps.loadPin rfl flatB_21 ?_
                exact SOps.nil (by first | rfl | simp_all)
              refine OpsOk.cons (fun rest => ?_) ?_
              · refine SOps.bin rfl rfl rfl ?_
                exact SOps.nil (by first | rfl | simp_all)
              refine OpsOk.cons (fun rest => ?_) ?_
              · refine SOps.pick rfl rfl ?_
                exact SOps.nil (by first | rfl | simp_all)
              exact OpsOk.nil
            · show SCode _ _ _ _
              refine SCode.cond rfl (fun hc5 => ?_) (fun hc5 => ?_)
              · try simp only [decide_eq_true_eq, decide_eq_false_iff_not, Bool.not_eq_true', Bool.not_eq_false', beq_iff_eq, bne_iff_ne, ne_eq, beq_eq_false_iff_ne, bne_eq_false_iff_eq, Int.not_lt, Int.not_le, Nat.not_lt, Nat.not_le, Int.ofNat_lt, Int.ofNat_le, Bool.not_eq_eq_eq_not, Bool.not_true, Bool.not_false] at hc5
                refine SCode.exit ?_
                show SCode _ _ _ _
                refine SCode.region ?_
                refine SOps.move rfl ?_
                refine SOps.addI rfl rfl (by first | omega | (simp only [lenB]; omega)) (by first | omega | (simp only [lenB]; omega)) ?_
                refine SOps.assign rfl ?_
                refine SOps.nil ?_
                first
                  | exact ⟨i + 1, out ++ [i], b0, ⟨by omega, by rw [filter_succ, if_pos (by simp_all [siteB]), ho]⟩, by omega, St.Le.of ⟨rfl, rfl, rfl, (by show some _ = some _; rw [List.map_append]; rfl), rfl, trivial⟩ rfl (by rw [List.map_append]; rfl)⟩
                  | exact ⟨i + 1, out ++ [i], b1, ⟨by omega, by rw [filter_succ, if_pos (by simp_all [siteB]), ho]⟩, by omega, St.Le.of ⟨rfl, rfl, rfl, (by show some _ = some _; rw [List.map_append]; rfl), rfl, trivial⟩ rfl (by rw [List.map_append]; rfl)⟩
                  | exact ⟨i + 1, out, k, ⟨by omega, by rw [filter_succ, if_neg (by simp_all [siteB]), ho, List.append_nil]⟩, by omega, St.Le.of ⟨rfl, rfl, rfl, rfl, rfl, trivial⟩⟩
              · try simp only [decide_eq_true_eq, decide_eq_false_iff_not, Bool.not_eq_true', Bool.not_eq_false', beq_iff_eq, bne_iff_ne, ne_eq, beq_eq_false_iff_ne, bne_eq_false_iff_eq, Int.not_lt, Int.not_le, Nat.not_lt, Nat.not_le, Int.ofNat_lt, Int.ofNat_le, Bool.not_eq_eq_eq_not, Bool.not_true, Bool.not_false] at hc5
                refine SCode.skip ?_
                show SCode _ _ _ _
                refine SCode.region ?_
                refine SOps.move rfl ?_
                refine SOps.addI rfl rfl (by first | omega | (simp only [lenB]; omega)) (by first | omega | (simp only [lenB]; omega)) ?_
                refine SOps.assign rfl ?_
                refine SOps.nil ?_
                show SCode _ _ _ _
                refine SCode.seq ?_
                have hz1 := encs_take_size (runes s) i hw40
                have hz2 := encs_drop_size (runes s) (i + 1) hw40
                rcases hq3 : followsR a r (encs ((runes s).take i)) with _ | _
                · refine SCode.drawPure mixed_ [(48, DLs a), (49, .agg (encR r)), (50, DRunes (runes s)), (51, .v (.int .i64 (i : Int))), (52, DRunes ((runes s).take i)), (53, .v (.string (encs ((runes s).take i)))), (54, .v (.bool false)), (55, .v (.bool false)), (56, .v (.tuple #[])), (57, .v (.tuple #[])), (58, .v (.tuple #[])), (59, .v (.tuple #[])), (60, .v (.tuple #[])), (61, .v (.tuple #[])), (62, .v (.tuple #[])), (63, .v (.bool false))] [48, 49, 50, 51, 52, 53, 54, 55, 56, 57, 58, 59, 60, 61, 62, 63] [[.inr 0], [.inr 4], [.inr 7], [.inr 9], [.inl 2, .inl 3], [.inl 4], [.inl 0, .inl 1, .inl 5], [.inl 6], [.inl 7], [.inl 7], [.inl 7], [.inl 7], [.inl 7], [.inl 7], [.inl 7], [.inl 7, .inl 14]] [[(0, DLs a)], [(4, .ipin (encR r))], [(7, DRunes (runes s))], [(9, .v (.int .i64 (i : Int)))], [(50, DRunes (runes s)), (51, .v (.int .i64 (i : Int)))], [(52, DRunes ((runes s).take i))], [(48, DLs a), (49, .agg (encR r)), (53, .v (.string (encs ((runes s).take i))))], [(54, .v (.bool false))], [(55, .v (.bool false))], [(55, .v (.bool false))], [(55, .v (.bool false))], [(55, .v (.bool false))], [(55, .v (.bool false))], [(55, .v (.bool false))], [(55, .v (.bool false))], [(55, .v (.bool false)), (62, .v (.tuple #[]))]] rfl (by kernel_rfl) (by kernel_rfl) rfl ?_ ?_
                  · refine OpsOk.cons (fun rest => ?_) ?_
                    · refine SOps.move rfl ?_
                      exact SOps.nil (by first | rfl | simp_all)
                    refine OpsOk.cons (fun rest => ?_) ?_
                    · refine SOps.loadPinA rfl aggB_25_6 (Nat.le_of_ble_eq_true rfl) ?_
                      exact SOps.nil (by first | rfl | simp_all)
                    refine OpsOk.cons (fun rest => ?_) ?_
                    · refine SOps.move rfl ?_
                      exact SOps.nil (by first | rfl | simp_all)
                    refine OpsOk.cons (fun rest => ?_) ?_
                    · refine SOps.move rfl ?_
                      exact SOps.nil (by first | rfl | simp_all)
                    refine OpsOk.cons (fun rest => ?_) ?_
                    · refine SOps.sliceT (n1 := 0) (i) sliceB_35_21_1 rfl rfl (by first | omega | (simp only [lenB]; omega)) (by first | omega | (simp only [lenB]; omega)) ?_
                      exact SOps.nil (by first | rfl | simp_all)
                    refine OpsOk.cons (fun rest => ?_) ?_
                    · refine SOps.convRunesStr rfl sliceB_35_21_1 intB_21_i32 strB_9 (by simp [lenB] <;> (first | omega | (simp only [lenB]; omega))) ?_
                      exact SOps.nil (by first | rfl | simp_all)
                    refine OpsOk.cons (fun rest => ?_) ?_
                    · refine SOps.callP (rFollows hV _ _ _ hr hz1) rfl ?_
                      rintro _ rfl
                      exact SOps.nil (by exact congrArg (fun b => St.put _ _ (.v (.bool b))) hq3)
                    refine OpsOk.cons (fun rest => ?_) ?_
                    · refine SOps.move rfl ?_
                      exact SOps.nil (by first | rfl | simp_all)
                    refine OpsOk.cons (fun rest => ?_) ?_
                    · refine SOps.skip rfl ?_
                      exact SOps.nil (by first | rfl | simp_all)
                    refine OpsOk.cons (fun rest => ?_) ?_
                    · refine SOps.skip rfl ?_
                      exact SOps.nil (by first | rfl | simp_all)
                    refine OpsOk.cons (fun rest => ?_) ?_
                    · refine SOps.skip rfl ?_
                      exact SOps.nil (by first | rfl | simp_all)
                    refine OpsOk.cons (fun rest => ?_) ?_
                    · refine SOps.skip rfl ?_
                      exact SOps.nil (by first | rfl | simp_all)
                    refine OpsOk.cons (fun rest => ?_) ?_
                    · refine SOps.skip rfl ?_
                      exact SOps.nil (by first | rfl | simp_all)
                    refine OpsOk.cons (fun rest => ?_) ?_
                    · refine SOps.skip rfl ?_
                      exact SOps.nil (by first | rfl | simp_all)
                    refine OpsOk.cons (fun rest => ?_) ?_
                    · refine SOps.skip rfl ?_
                      exact SOps.nil (by first | rfl | simp_all)
                    refine OpsOk.cons (fun rest => ?_) ?_
                    · refine SOps.pick rfl rfl ?_
                      exact SOps.nil (by first | rfl | simp_all)
                    exact OpsOk.nil
                  · show SCode _ _ _ _
                    refine SCode.cond rfl (fun h => by cases h) (fun _ => ?_)
                    refine SCode.skip ?_
                    show SCode _ _ _ _
                    refine SCode.region ?_
                    refine SOps.move rfl ?_
                    refine SOps.addI rfl rfl (by first | omega | (simp only [lenB]; omega)) (by first | omega | (simp only [lenB]; omega)) ?_
                    refine SOps.assign rfl ?_
                    refine SOps.nil ?_
                    first
                      | exact ⟨i + 1, out ++ [i], b0, ⟨by omega, by rw [filter_succ, if_pos (by simp_all [siteB]), ho]⟩, by omega, St.Le.of ⟨rfl, rfl, rfl, (by show some _ = some _; rw [List.map_append]; rfl), rfl, trivial⟩ rfl (by rw [List.map_append]; rfl)⟩
                      | exact ⟨i + 1, out ++ [i], b1, ⟨by omega, by rw [filter_succ, if_pos (by simp_all [siteB]), ho]⟩, by omega, St.Le.of ⟨rfl, rfl, rfl, (by show some _ = some _; rw [List.map_append]; rfl), rfl, trivial⟩ rfl (by rw [List.map_append]; rfl)⟩
                      | exact ⟨i + 1, out, k, ⟨by omega, by rw [filter_succ, if_neg (by simp_all [siteB]), ho, List.append_nil]⟩, by omega, St.Le.of ⟨rfl, rfl, rfl, rfl, rfl, trivial⟩⟩
                · refine SCode.drawPure mixed_ [(48, DLs a), (49, .agg (encR r)), (50, DRunes (runes s)), (51, .v (.int .i64 (i : Int))), (52, DRunes ((runes s).take i)), (53, .v (.string (encs ((runes s).take i)))), (54, .v (.bool true)), (55, .v (.bool true)), (56, DLs a), (57, .agg (encR r)), (58, DRunes (runes s)), (59, .v (.int .i64 ((i : Int) + 1))), (60, DRunes ((runes s).drop (i + 1))), (61, .v (.string (encs ((runes s).drop (i + 1))))), (62, .v (.bool (precedesR a r (encs ((runes s).drop (i + 1)))))), (63, .v (.bool (precedesR a r (encs ((runes s).drop (i + 1))))))] [48, 49, 50, 51, 52, 53, 54, 55, 56, 57, 58, 59, 60, 61, 62, 63] [[.inr 0], [.inr 4], [.inr 7], [.inr 9], [.inl 2, .inl 3], [.inl 4], [.inl 0, .inl 1, .inl 5], [.inl 6], [.inl 7, .inr 0], [.inl 7, .inr 4], [.inl 7, .inr 7], [.inl 7, .inr 10], [.inl 7, .inl 10, .inl 11], [.inl 7, .inl 12], [.inl 7, .inl 8, .inl 9, .inl 13], [.inl 7, .inl 14]] [[(0, DLs a)], [(4, .ipin (encR r))], [(7, DRunes (runes s))], [(9, .v (.int .i64 (i : Int)))], [(50, DRunes (runes s)), (51, .v (.int .i64 (i : Int)))], [(52, DRunes ((runes s).take i))], [(48, DLs a), (49, .agg (encR r)), (53, .v (.string (encs ((runes s).take i))))], [(54, .v (.bool true))], [(55, .v (.bool true)), (0, DLs a)], [(55, .v (.bool true)), (4, .ipin (encR r))], [(55, .v (.bool true)), (7, DRunes (runes s))], [(55, .v (.bool true)), (10, .v (.int .i64 ((i : Int) + 1)))], [(55, .v (.bool true)), (58, DRunes (runes s)), (59, .v (.int .i64 ((i : Int) + 1)))], [(55, .v (.bool true)), (60, DRunes ((runes s).drop (i + 1)))], [(55, .v (.bool true)), (56, DLs a), (57, .agg (encR r)), (61, .v (.string (encs ((runes s).drop (i + 1)))))], [(55, .v (.bool true)), (62, .v (.bool (precedesR a r (encs ((runes s).drop (i + 1))))))]] rfl (by kernel_rfl) (by kernel_rfl) rfl ?_ ?_
                  · refine OpsOk.cons (fun rest => ?_) ?_
                    · refine SOps.move rfl ?_
                      exact SOps.nil (by first | rfl | simp_all)
                    refine OpsOk.cons (fun rest => ?_) ?_
                    · refine SOps.loadPinA rfl aggB_25_6 (Nat.le_of_ble_eq_true rfl) ?_
                      exact SOps.nil (by first | rfl | simp_all)
                    refine OpsOk.cons (fun rest => ?_) ?_
                    · refine SOps.move rfl ?_
                      exact SOps.nil (by first | rfl | simp_all)
                    refine OpsOk.cons (fun rest => ?_) ?_
                    · refine SOps.move rfl ?_
                      exact SOps.nil (by first | rfl | simp_all)
                    refine OpsOk.cons (fun rest => ?_) ?_
                    · refine SOps.sliceT (n1 := 0) (i) sliceB_35_21_1 rfl rfl (by first | omega | (simp only [lenB]; omega)) (by first | omega | (simp only [lenB]; omega)) ?_
                      exact SOps.nil (by first | rfl | simp_all)
                    refine OpsOk.cons (fun rest => ?_) ?_
                    · refine SOps.convRunesStr rfl sliceB_35_21_1 intB_21_i32 strB_9 (by simp [lenB] <;> (first | omega | (simp only [lenB]; omega))) ?_
                      exact SOps.nil (by first | rfl | simp_all)
                    refine OpsOk.cons (fun rest => ?_) ?_
                    · refine SOps.callP (rFollows hV _ _ _ hr hz1) rfl ?_
                      rintro _ rfl
                      exact SOps.nil (by exact congrArg (fun b => St.put _ _ (.v (.bool b))) hq3)
                    refine OpsOk.cons (fun rest => ?_) ?_
                    · refine SOps.move rfl ?_
                      exact SOps.nil (by first | rfl | simp_all)
                    refine OpsOk.cons (fun rest => ?_) ?_
                    · refine SOps.move rfl ?_
                      exact SOps.nil (by first | rfl | simp_all)
                    refine OpsOk.cons (fun rest => ?_) ?_
                    · refine SOps.loadPinA rfl aggB_25_6 (Nat.le_of_ble_eq_true rfl) ?_
                      exact SOps.nil (by first | rfl | simp_all)
                    refine OpsOk.cons (fun rest => ?_) ?_
                    · refine SOps.move rfl ?_
                      exact SOps.nil (by first | rfl | simp_all)
                    refine OpsOk.cons (fun rest => ?_) ?_
                    · refine SOps.move rfl ?_
                      exact SOps.nil (by first | rfl | simp_all)
                    refine OpsOk.cons (fun rest => ?_) ?_
                    · refine SOps.sliceD (n1 := 0) (i + 1) sliceB_35_21_1 rfl rfl (by first | omega | (simp only [lenB]; omega)) (by first | omega | (simp only [lenB]; omega)) ?_
                      exact SOps.nil (by first | rfl | simp_all)
                    refine OpsOk.cons (fun rest => ?_) ?_
                    · refine SOps.convRunesStr rfl sliceB_35_21_1 intB_21_i32 strB_9 (by simp [lenB] <;> (first | omega | (simp only [lenB]; omega))) ?_
                      exact SOps.nil (by first | rfl | simp_all)
                    refine OpsOk.cons (fun rest => ?_) ?_
                    · refine SOps.callP (rPrecedes hV _ _ _ hr hz2) rfl ?_
                      rintro _ rfl
                      exact SOps.nil (by first | rfl | simp_all)
                    refine OpsOk.cons (fun rest => ?_) ?_
                    · refine SOps.pick rfl rfl ?_
                      exact SOps.nil (by first | rfl | simp_all)
                    exact OpsOk.nil
                  · show SCode _ _ _ _
                    refine SCode.cond rfl (fun hc6 => ?_) (fun hc6 => ?_)
                    · try simp only [decide_eq_true_eq, decide_eq_false_iff_not, Bool.not_eq_true', Bool.not_eq_false', beq_iff_eq, bne_iff_ne, ne_eq, beq_eq_false_iff_ne, bne_eq_false_iff_eq, Int.not_lt, Int.not_le, Nat.not_lt, Nat.not_le, Int.ofNat_lt, Int.ofNat_le, Bool.not_eq_eq_eq_not, Bool.not_true, Bool.not_false] at hc6
                      refine SCode.region ?_
                      refine SOps.move rfl ?_
                      refine SOps.move rfl ?_
                      refine SOps.litF rfl sliceB_30_3_1 zeroIs_3 rfl ?_
                      refine SOps.appendAcc [] [] sliceB_30_3_1 elemB_3_1_8 rfl rfl rfl SrcD.isl (by simp) (by simp [lenB] <;> (first | omega | (simp only [lenB]; omega))) (by simp <;> (first | omega | (simp only [lenB]; omega))) (fun b0 => ?_)
                      refine SOps.assign rfl ?_
                      refine SOps.nil ?_
                      show SCode _ _ _ _
                      refine SCode.region ?_
                      refine SOps.move rfl ?_
                      refine SOps.addI rfl rfl (by first | omega | (simp only [lenB]; omega)) (by first | omega | (simp only [lenB]; omega)) ?_
                      refine SOps.assign rfl ?_
                      refine SOps.nil ?_
                      first
                        | exact ⟨i + 1, out ++ [i], b0, ⟨by omega, by rw [filter_succ, if_pos (by simp_all [siteB]), ho]⟩, by omega, St.Le.of ⟨rfl, rfl, rfl, (by show some _ = some _; rw [List.map_append]; rfl), rfl, trivial⟩ rfl (by rw [List.map_append]; rfl)⟩
                        | exact ⟨i + 1, out ++ [i], b1, ⟨by omega, by rw [filter_succ, if_pos (by simp_all [siteB]), ho]⟩, by omega, St.Le.of ⟨rfl, rfl, rfl, (by show some _ = some _; rw [List.map_append]; rfl), rfl, trivial⟩ rfl (by rw [List.map_append]; rfl)⟩
                        | exact ⟨i + 1, out, k, ⟨by omega, by rw [filter_succ, if_neg (by simp_all [siteB]), ho, List.append_nil]⟩, by omega, St.Le.of ⟨rfl, rfl, rfl, rfl, rfl, trivial⟩⟩
                    · try simp only [decide_eq_true_eq, decide_eq_false_iff_not, Bool.not_eq_true', Bool.not_eq_false', beq_iff_eq, bne_iff_ne, ne_eq, beq_eq_false_iff_ne, bne_eq_false_iff_eq, Int.not_lt, Int.not_le, Nat.not_lt, Nat.not_le, Int.ofNat_lt, Int.ofNat_le, Bool.not_eq_eq_eq_not, Bool.not_true, Bool.not_false] at hc6
                      refine SCode.skip ?_
                      show SCode _ _ _ _
                      refine SCode.region ?_
                      refine SOps.move rfl ?_
                      refine SOps.addI rfl rfl (by first | omega | (simp only [lenB]; omega)) (by first | omega | (simp only [lenB]; omega)) ?_
                      refine SOps.assign rfl ?_
                      refine SOps.nil ?_
                      first
                        | exact ⟨i + 1, out ++ [i], b0, ⟨by omega, by rw [filter_succ, if_pos (by simp_all [siteB]), ho]⟩, by omega, St.Le.of ⟨rfl, rfl, rfl, (by show some _ = some _; rw [List.map_append]; rfl), rfl, trivial⟩ rfl (by rw [List.map_append]; rfl)⟩
                        | exact ⟨i + 1, out ++ [i], b1, ⟨by omega, by rw [filter_succ, if_pos (by simp_all [siteB]), ho]⟩, by omega, St.Le.of ⟨rfl, rfl, rfl, (by show some _ = some _; rw [List.map_append]; rfl), rfl, trivial⟩ rfl (by rw [List.map_append]; rfl)⟩
                        | exact ⟨i + 1, out, k, ⟨by omega, by rw [filter_succ, if_neg (by simp_all [siteB]), ho, List.append_nil]⟩, by omega, St.Le.of ⟨rfl, rfl, rfl, rfl, rfl, trivial⟩⟩
        · try simp only [decide_eq_true_eq, decide_eq_false_iff_not, Bool.not_eq_true', Bool.not_eq_false', beq_iff_eq, bne_iff_ne, ne_eq, beq_eq_false_iff_ne, bne_eq_false_iff_eq, Int.not_lt, Int.not_le, Nat.not_lt, Nat.not_le, Int.ofNat_lt, Int.ofNat_le, Bool.not_eq_eq_eq_not, Bool.not_true, Bool.not_false] at hc4
          refine SCode.skip ?_
          show SCode _ _ _ _
          refine SCode.seq ?_
          have hz1 := encs_take_size (runes s) i hw40
          have hz2 := encs_drop_size (runes s) (i) hw40
          rcases hq3 : followsR a r (encs ((runes s).take i)) with _ | _
          · refine SCode.drawPure mixed_ [(48, DLs a), (49, .agg (encR r)), (50, DRunes (runes s)), (51, .v (.int .i64 (i : Int))), (52, DRunes ((runes s).take i)), (53, .v (.string (encs ((runes s).take i)))), (54, .v (.bool false)), (55, .v (.bool false)), (56, .v (.tuple #[])), (57, .v (.tuple #[])), (58, .v (.tuple #[])), (59, .v (.tuple #[])), (60, .v (.tuple #[])), (61, .v (.tuple #[])), (62, .v (.tuple #[])), (63, .v (.bool false))] [48, 49, 50, 51, 52, 53, 54, 55, 56, 57, 58, 59, 60, 61, 62, 63] [[.inr 0], [.inr 4], [.inr 7], [.inr 9], [.inl 2, .inl 3], [.inl 4], [.inl 0, .inl 1, .inl 5], [.inl 6], [.inl 7], [.inl 7], [.inl 7], [.inl 7], [.inl 7], [.inl 7], [.inl 7], [.inl 7, .inl 14]] [[(0, DLs a)], [(4, .ipin (encR r))], [(7, DRunes (runes s))], [(9, .v (.int .i64 (i : Int)))], [(50, DRunes (runes s)), (51, .v (.int .i64 (i : Int)))], [(52, DRunes ((runes s).take i))], [(48, DLs a), (49, .agg (encR r)), (53, .v (.string (encs ((runes s).take i))))], [(54, .v (.bool false))], [(55, .v (.bool false))], [(55, .v (.bool false))], [(55, .v (.bool false))], [(55, .v (.bool false))], [(55, .v (.bool false))], [(55, .v (.bool false))], [(55, .v (.bool false))], [(55, .v (.bool false)), (62, .v (.tuple #[]))]] rfl (by kernel_rfl) (by kernel_rfl) rfl ?_ ?_
            · refine OpsOk.cons (fun rest => ?_) ?_
              · refine SOps.move rfl ?_
                exact SOps.nil (by first | rfl | simp_all)
              refine OpsOk.cons (fun rest => ?_) ?_
              · refine SOps.loadPinA rfl aggB_25_6 (Nat.le_of_ble_eq_true rfl) ?_
                exact SOps.nil (by first | rfl | simp_all)
              refine OpsOk.cons (fun rest => ?_) ?_
              · refine SOps.move rfl ?_
                exact SOps.nil (by first | rfl | simp_all)
              refine OpsOk.cons (fun rest => ?_) ?_
              · refine SOps.move rfl ?_
                exact SOps.nil (by first | rfl | simp_all)
              refine OpsOk.cons (fun rest => ?_) ?_
              · refine SOps.sliceT (n1 := 0) (i) sliceB_35_21_1 rfl rfl (by first | omega | (simp only [lenB]; omega)) (by first | omega | (simp only [lenB]; omega)) ?_
                exact SOps.nil (by first | rfl | simp_all)
              refine OpsOk.cons (fun rest => ?_) ?_
              · refine SOps.convRunesStr rfl sliceB_35_21_1 intB_21_i32 strB_9 (by simp [lenB] <;> (first | omega | (simp only [lenB]; omega))) ?_
                exact SOps.nil (by first | rfl | simp_all)
              refine OpsOk.cons (fun rest => ?_) ?_
              · refine SOps.callP (rFollows hV _ _ _ hr hz1) rfl ?_
                rintro _ rfl
                exact SOps.nil (by exact congrArg (fun b => St.put _ _ (.v (.bool b))) hq3)
              refine OpsOk.cons (fun rest => ?_) ?_
              · refine SOps.move rfl ?_
                exact SOps.nil (by first | rfl | simp_all)
              refine OpsOk.cons (fun rest => ?_) ?_
              · refine SOps.skip rfl ?_
                exact SOps.nil (by first | rfl | simp_all)
              refine OpsOk.cons (fun rest => ?_) ?_
              · refine SOps.skip rfl ?_
                exact SOps.nil (by first | rfl | simp_all)
              refine OpsOk.cons (fun rest => ?_) ?_
              · refine SOps.skip rfl ?_
                exact SOps.nil (by first | rfl | simp_all)
              refine OpsOk.cons (fun rest => ?_) ?_
              · refine SOps.skip rfl ?_
                exact SOps.nil (by first | rfl | simp_all)
              refine OpsOk.cons (fun rest => ?_) ?_
              · refine SOps.skip rfl ?_
                exact SOps.nil (by first | rfl | simp_all)
              refine OpsOk.cons (fun rest => ?_) ?_
              · refine SOps.skip rfl ?_
                exact SOps.nil (by first | rfl | simp_all)
              refine OpsOk.cons (fun rest => ?_) ?_
              · refine SOps.skip rfl ?_
                exact SOps.nil (by first | rfl | simp_all)
              refine OpsOk.cons (fun rest => ?_) ?_
              · refine SOps.pick rfl rfl ?_
                exact SOps.nil (by first | rfl | simp_all)
              exact OpsOk.nil
            · show SCode _ _ _ _
              refine SCode.cond rfl (fun h => by cases h) (fun _ => ?_)
              refine SCode.skip ?_
              show SCode _ _ _ _
              refine SCode.region ?_
              refine SOps.move rfl ?_
              refine SOps.addI rfl rfl (by first | omega | (simp only [lenB]; omega)) (by first | omega | (simp only [lenB]; omega)) ?_
              refine SOps.assign rfl ?_
              refine SOps.nil ?_
              first
                | exact ⟨i + 1, out ++ [i], b0, ⟨by omega, by rw [filter_succ, if_pos (by simp_all [siteB]), ho]⟩, by omega, St.Le.of ⟨rfl, rfl, rfl, (by show some _ = some _; rw [List.map_append]; rfl), rfl, trivial⟩ rfl (by rw [List.map_append]; rfl)⟩
                | exact ⟨i + 1, out ++ [i], b1, ⟨by omega, by rw [filter_succ, if_pos (by simp_all [siteB]), ho]⟩, by omega, St.Le.of ⟨rfl, rfl, rfl, (by show some _ = some _; rw [List.map_append]; rfl), rfl, trivial⟩ rfl (by rw [List.map_append]; rfl)⟩
                | exact ⟨i + 1, out, k, ⟨by omega, by rw [filter_succ, if_neg (by simp_all [siteB]), ho, List.append_nil]⟩, by omega, St.Le.of ⟨rfl, rfl, rfl, rfl, rfl, trivial⟩⟩
          · refine SCode.drawPure mixed_ [(48, DLs a), (49, .agg (encR r)), (50, DRunes (runes s)), (51, .v (.int .i64 (i : Int))), (52, DRunes ((runes s).take i)), (53, .v (.string (encs ((runes s).take i)))), (54, .v (.bool true)), (55, .v (.bool true)), (56, DLs a), (57, .agg (encR r)), (58, DRunes (runes s)), (59, .v (.int .i64 (i : Int))), (60, DRunes ((runes s).drop (i))), (61, .v (.string (encs ((runes s).drop (i))))), (62, .v (.bool (precedesR a r (encs ((runes s).drop (i)))))), (63, .v (.bool (precedesR a r (encs ((runes s).drop (i))))))] [48, 49, 50, 51, 52, 53, 54, 55, 56, 57, 58, 59, 60, 61, 62, 63] [[.inr 0], [.inr 4], [.inr 7], [.inr 9], [.inl 2, .inl 3], [.inl 4], [.inl 0, .inl 1, .inl 5], [.inl 6], [.inl 7, .inr 0], [.inl 7, .inr 4], [.inl 7, .inr 7], [.inl 7, .inr 10], [.inl 7, .inl 10, .inl 11], [.inl 7, .inl 12], [.inl 7, .inl 8, .inl 9, .inl 13], [.inl 7, .inl 14]] [[(0, DLs a)], [(4, .ipin (encR r))], [(7, DRunes (runes s))], [(9, .v (.int .i64 (i : Int)))], [(50, DRunes (runes s)), (51, .v (.int .i64 (i : Int)))], [(52, DRunes ((runes s).take i))], [(48, DLs a), (49, .agg (encR r)), (53, .v (.string (encs ((runes s).take i))))], [(54, .v (.bool true))], [(55, .v (.bool true)), (0, DLs a)], [(55, .v (.bool true)), (4, .ipin (encR r))], [(55, .v (.bool true)), (7, DRunes (runes s))], [(55, .v (.bool true)), (10, .v (.int .i64 (i : Int)))], [(55, .v (.bool true)), (58, DRunes (runes s)), (59, .v (.int .i64 (i : Int)))], [(55, .v (.bool true)), (60, DRunes ((runes s).drop (i)))], [(55, .v (.bool true)), (56, DLs a), (57, .agg (encR r)), (61, .v (.string (encs ((runes s).drop (i)))))], [(55, .v (.bool true)), (62, .v (.bool (precedesR a r (encs ((runes s).drop (i))))))]] rfl (by kernel_rfl) (by kernel_rfl) rfl ?_ ?_
            · refine OpsOk.cons (fun rest => ?_) ?_
              · refine SOps.move rfl ?_
                exact SOps.nil (by first | rfl | simp_all)
              refine OpsOk.cons (fun rest => ?_) ?_
              · refine SOps.loadPinA rfl aggB_25_6 (Nat.le_of_ble_eq_true rfl) ?_
                exact SOps.nil (by first | rfl | simp_all)
              refine OpsOk.cons (fun rest => ?_) ?_
              · refine SOps.move rfl ?_
                exact SOps.nil (by first | rfl | simp_all)
              refine OpsOk.cons (fun rest => ?_) ?_
              · refine SOps.move rfl ?_
                exact SOps.nil (by first | rfl | simp_all)
              refine OpsOk.cons (fun rest => ?_) ?_
              · refine SOps.sliceT (n1 := 0) (i) sliceB_35_21_1 rfl rfl (by first | omega | (simp only [lenB]; omega)) (by first | omega | (simp only [lenB]; omega)) ?_
                exact SOps.nil (by first | rfl | simp_all)
              refine OpsOk.cons (fun rest => ?_) ?_
              · refine SOps.convRunesStr rfl sliceB_35_21_1 intB_21_i32 strB_9 (by simp [lenB] <;> (first | omega | (simp only [lenB]; omega))) ?_
                exact SOps.nil (by first | rfl | simp_all)
              refine OpsOk.cons (fun rest => ?_) ?_
              · refine SOps.callP (rFollows hV _ _ _ hr hz1) rfl ?_
                rintro _ rfl
                exact SOps.nil (by exact congrArg (fun b => St.put _ _ (.v (.bool b))) hq3)
              refine OpsOk.cons (fun rest => ?_) ?_
              · refine SOps.move rfl ?_
                exact SOps.nil (by first | rfl | simp_all)
              refine OpsOk.cons (fun rest => ?_) ?_
              · refine SOps.move rfl ?_
                exact SOps.nil (by first | rfl | simp_all)
              refine OpsOk.cons (fun rest => ?_) ?_
              · refine SOps.loadPinA rfl aggB_25_6 (Nat.le_of_ble_eq_true rfl) ?_
                exact SOps.nil (by first | rfl | simp_all)
              refine OpsOk.cons (fun rest => ?_) ?_
              · refine SOps.move rfl ?_
                exact SOps.nil (by first | rfl | simp_all)
              refine OpsOk.cons (fun rest => ?_) ?_
              · refine SOps.move rfl ?_
                exact SOps.nil (by first | rfl | simp_all)
              refine OpsOk.cons (fun rest => ?_) ?_
              · refine SOps.sliceD (n1 := 0) (i) sliceB_35_21_1 rfl rfl (by first | omega | (simp only [lenB]; omega)) (by first | omega | (simp only [lenB]; omega)) ?_
                exact SOps.nil (by first | rfl | simp_all)
              refine OpsOk.cons (fun rest => ?_) ?_
              · refine SOps.convRunesStr rfl sliceB_35_21_1 intB_21_i32 strB_9 (by simp [lenB] <;> (first | omega | (simp only [lenB]; omega))) ?_
                exact SOps.nil (by first | rfl | simp_all)
              refine OpsOk.cons (fun rest => ?_) ?_
              · refine SOps.callP (rPrecedes hV _ _ _ hr hz2) rfl ?_
                rintro _ rfl
                exact SOps.nil (by first | rfl | simp_all)
              refine OpsOk.cons (fun rest => ?_) ?_
              · refine SOps.pick rfl rfl ?_
                exact SOps.nil (by first | rfl | simp_all)
              exact OpsOk.nil
            · show SCode _ _ _ _
              refine SCode.cond rfl (fun hc7 => ?_) (fun hc7 => ?_)
              · try simp only [decide_eq_true_eq, decide_eq_false_iff_not, Bool.not_eq_true', Bool.not_eq_false', beq_iff_eq, bne_iff_ne, ne_eq, beq_eq_false_iff_ne, bne_eq_false_iff_eq, Int.not_lt, Int.not_le, Nat.not_lt, Nat.not_le, Int.ofNat_lt, Int.ofNat_le, Bool.not_eq_eq_eq_not, Bool.not_true, Bool.not_false] at hc7
                refine SCode.region ?_
                refine SOps.move rfl ?_
                refine SOps.move rfl ?_
                refine SOps.litF rfl sliceB_30_3_1 zeroIs_3 rfl ?_
                refine SOps.appendAcc [] [] sliceB_30_3_1 elemB_3_1_8 rfl rfl rfl SrcD.isl (by simp) (by simp [lenB] <;> (first | omega | (simp only [lenB]; omega))) (by simp <;> (first | omega | (simp only [lenB]; omega))) (fun b1 => ?_)
                refine SOps.assign rfl ?_
                refine SOps.nil ?_
                show SCode _ _ _ _
                refine SCode.region ?_
                refine SOps.move rfl ?_
                refine SOps.addI rfl rfl (by first | omega | (simp only [lenB]; omega)) (by first | omega | (simp only [lenB]; omega)) ?_
                refine SOps.assign rfl ?_
                refine SOps.nil ?_
                first
                  | exact ⟨i + 1, out ++ [i], b0, ⟨by omega, by rw [filter_succ, if_pos (by simp_all [siteB]), ho]⟩, by omega, St.Le.of ⟨rfl, rfl, rfl, (by show some _ = some _; rw [List.map_append]; rfl), rfl, trivial⟩ rfl (by rw [List.map_append]; rfl)⟩
                  | exact ⟨i + 1, out ++ [i], b1, ⟨by omega, by rw [filter_succ, if_pos (by simp_all [siteB]), ho]⟩, by omega, St.Le.of ⟨rfl, rfl, rfl, (by show some _ = some _; rw [List.map_append]; rfl), rfl, trivial⟩ rfl (by rw [List.map_append]; rfl)⟩
                  | exact ⟨i + 1, out, k, ⟨by omega, by rw [filter_succ, if_neg (by simp_all [siteB]), ho, List.append_nil]⟩, by omega, St.Le.of ⟨rfl, rfl, rfl, rfl, rfl, trivial⟩⟩
              · try simp only [decide_eq_true_eq, decide_eq_false_iff_not, Bool.not_eq_true', Bool.not_eq_false', beq_iff_eq, bne_iff_ne, ne_eq, beq_eq_false_iff_ne, bne_eq_false_iff_eq, Int.not_lt, Int.not_le, Nat.not_lt, Nat.not_le, Int.ofNat_lt, Int.ofNat_le, Bool.not_eq_eq_eq_not, Bool.not_true, Bool.not_false] at hc7
                refine SCode.skip ?_
                show SCode _ _ _ _
                refine SCode.region ?_
                refine SOps.move rfl ?_
                refine SOps.addI rfl rfl (by first | omega | (simp only [lenB]; omega)) (by first | omega | (simp only [lenB]; omega)) ?_
                refine SOps.assign rfl ?_
                refine SOps.nil ?_
                first
                  | exact ⟨i + 1, out ++ [i], b0, ⟨by omega, by rw [filter_succ, if_pos (by simp_all [siteB]), ho]⟩, by omega, St.Le.of ⟨rfl, rfl, rfl, (by show some _ = some _; rw [List.map_append]; rfl), rfl, trivial⟩ rfl (by rw [List.map_append]; rfl)⟩
                  | exact ⟨i + 1, out ++ [i], b1, ⟨by omega, by rw [filter_succ, if_pos (by simp_all [siteB]), ho]⟩, by omega, St.Le.of ⟨rfl, rfl, rfl, (by show some _ = some _; rw [List.map_append]; rfl), rfl, trivial⟩ rfl (by rw [List.map_append]; rfl)⟩
                  | exact ⟨i + 1, out, k, ⟨by omega, by rw [filter_succ, if_neg (by simp_all [siteB]), ho, List.append_nil]⟩, by omega, St.Le.of ⟨rfl, rfl, rfl, rfl, rfl, trivial⟩⟩
      · try simp only [decide_eq_true_eq, decide_eq_false_iff_not, Bool.not_eq_true', Bool.not_eq_false', beq_iff_eq, bne_iff_ne, ne_eq, beq_eq_false_iff_ne, bne_eq_false_iff_eq, Int.not_lt, Int.not_le, Nat.not_lt, Nat.not_le, Int.ofNat_lt, Int.ofNat_le, Bool.not_eq_eq_eq_not, Bool.not_true, Bool.not_false] at hc3
        refine SCode.exit ?_
        show SCode _ _ _ _
        refine SCode.seqR ?_
        refine SOps.freezeAcc (t := 8) [] [] rfl rfl rfl ?_
        obtain rfl : i = (runes s).length + 1 := by omega
        refine SOps.move rfl ?_
        refine SOps.assign rfl ?_
        refine SOps.nil ?_
        refine SCode.ret ?_
        exact ⟨_, Res.one (.tmp rfl), by first | (rw [if_neg (by simp_all [okR])]; done) | (rw [if_pos hok, ← ho]; rfl), rfl⟩
def sitesR (a : List Letter) (r : Rule) (s : ByteArray) : List Nat := if okR a r s then sitesF (siteB a r (runes s)) (runes s) else []
theorem rSites (hV : VS E) (a : List Letter) (r : Rule) (s : ByteArray) (hr : SmR r) (hs : s.size ≤ 1048576) : GCall Tryd.prog E 17 [DLs a, .agg (encR r), .v (.string s)] [] (fun d H => d = DNats (sitesR a r s) ∧ H = []) :=
  (rSites0 hV a r s hr hs).nilI.mono (fun d H h => ⟨h.1.trans (by unfold sitesR; split <;> rfl), h.2⟩)
def sitesQ (a : List Letter) (r : Rule) (s : ByteArray) : List Nat := if okR a r s then sitesF (siteQ a r (runes s)) (runes s) else []
theorem qSites (hV : VS E) (a : List Letter) (r : Rule) (s : ByteArray) (hs : s.size ≤ 1048576) : GCall Tryd.prog E 18 [DLs a, .agg (encR r), .v (.string s)] [] (fun d H => d = DNats (sitesQ a r s) ∧ H = []) := by
  refine GCall.body (C := ⟨Tryd.prog, E, true⟩) Tryd.func18 rfl (fun _ => rfl) (by kernel_rfl) rfl ?_
  refine SCode.seqR ?_
  refine SOps.boxAM rfl rfl ?_
  refine SOps.assign rfl ?_
  refine SOps.nil ?_
  refine SCode.seqR ?_
  refine SOps.litO sliceB_30_3_1 zeroIs_3 rfl (fun b0 hb_0 => ?_)
  refine SOps.assign rfl ?_
  refine SOps.nil ?_
  refine SCode.seq ?_
  refine SCode.seqR ?_
  refine SOps.move rfl ?_
  refine SOps.loadPinA rfl aggB_25_6 (Nat.le_of_ble_eq_true rfl) ?_
  refine SOps.callP (qValid hV _ _) rfl ?_
  rintro _ rfl
  refine SOps.un rfl rfl ?_
  refine SOps.move rfl ?_
  refine SOps.caseB 16 rfl (fun hb1 => ?_) (fun hb1 => ?_)
  · try simp only [decide_eq_true_eq, decide_eq_false_iff_not, Bool.not_eq_true', Bool.not_eq_false', beq_iff_eq, bne_iff_ne, ne_eq, beq_eq_false_iff_ne, bne_eq_false_iff_eq, Int.not_lt, Int.not_le, Nat.not_lt, Nat.not_le, Int.ofNat_lt, Int.ofNat_le, Bool.not_eq_eq_eq_not, Bool.not_true, Bool.not_false] at hb1
    refine SOps.skip rfl ?_
    refine SOps.skip rfl ?_
    refine SOps.skip rfl ?_
    refine SOps.skip rfl ?_
    refine SOps.pick rfl rfl ?_
    refine SOps.nil ?_
    refine SCode.cond rfl (fun _ => ?_) (fun h => by cases h)
    refine SCode.seqR ?_
    refine SOps.freezeS (t := 7) 0 rfl rfl rfl rfl ?_
    refine SOps.move rfl ?_
    refine SOps.assign rfl ?_
    refine SOps.nil ?_
    refine SCode.drop ?_
    refine SCode.ret ?_
    exact ⟨_, Res.one (.tmp rfl), by first | (rw [sitesQ, if_neg (by simp_all [okR])]; rfl) | (rw [sitesQ, if_pos hok, ← ho]; rfl), rfl⟩
  · try simp only [decide_eq_true_eq, decide_eq_false_iff_not, Bool.not_eq_true', Bool.not_eq_false', beq_iff_eq, bne_iff_ne, ne_eq, beq_eq_false_iff_ne, bne_eq_false_iff_eq, Int.not_lt, Int.not_le, Nat.not_lt, Nat.not_le, Int.ofNat_lt, Int.ofNat_le, Bool.not_eq_eq_eq_not, Bool.not_true, Bool.not_false] at hb1
    refine SOps.move rfl ?_
    refine SOps.move rfl ?_
    refine SOps.callP (qWord hV _ _) rfl ?_
    rintro _ rfl
    refine SOps.un rfl rfl ?_
    refine SOps.pick rfl rfl ?_
    refine SOps.nil ?_
    refine SCode.cond rfl (fun hc2 => ?_) (fun hc2 => ?_)
    · try simp only [decide_eq_true_eq, decide_eq_false_iff_not, Bool.not_eq_true', Bool.not_eq_false', beq_iff_eq, bne_iff_ne, ne_eq, beq_eq_false_iff_ne, bne_eq_false_iff_eq, Int.not_lt, Int.not_le, Nat.not_lt, Nat.not_le, Int.ofNat_lt, Int.ofNat_le, Bool.not_eq_eq_eq_not, Bool.not_true, Bool.not_false] at hc2
      refine SCode.seqR ?_
      refine SOps.freezeS (t := 7) 0 rfl rfl rfl rfl ?_
      refine SOps.move rfl ?_
      refine SOps.assign rfl ?_
      refine SOps.nil ?_
      refine SCode.drop ?_
      refine SCode.ret ?_
      exact ⟨_, Res.one (.tmp rfl), by first | (rw [sitesQ, if_neg (by simp_all [okR])]; rfl) | (rw [sitesQ, if_pos hok, ← ho]; rfl), rfl⟩
    · try simp only [decide_eq_true_eq, decide_eq_false_iff_not, Bool.not_eq_true', Bool.not_eq_false', beq_iff_eq, bne_iff_ne, ne_eq, beq_eq_false_iff_ne, bne_eq_false_iff_eq, Int.not_lt, Int.not_le, Nat.not_lt, Nat.not_le, Int.ofNat_lt, Int.ofNat_le, Bool.not_eq_eq_eq_not, Bool.not_true, Bool.not_false] at hc2
      refine SCode.skip ?_
      show SCode _ _ _ _
      refine SCode.seqR ?_
      refine SOps.move rfl ?_
      refine SOps.runesF rfl rfl strB_9 sliceB_35_21_1 intB_21_i32 ?_
      refine SOps.assign rfl ?_
      refine SOps.nil ?_
      refine SCode.seq ?_
      refine SCode.seqR ?_
      refine SOps.assign rfl ?_
      refine SOps.nil ?_
      refine SCode.block ?_
      have hok : okR a r s = true := by simp_all [okR]
      have hw40 : (runes s).length ≤ 40 := by have h40 : consS a 40 s = true := (by simp_all); rw [consS_eq] at h40; simp only [Bool.and_eq_true, decide_eq_true_eq] at h40; exact h40.1.2
      refine SCode.loop3 (fun (i : Nat) (out : List Nat) (k : Nat) => (⟨69, [(0, DLs a), (4, .ipin (encR r)), (7, .sl k 1 0 out.length), (8, DRunes (runes s)), (9, .v (.int .i64 (i : Int)))], [(k, .row 3 1 (out.map encN))]⟩ : St)) (fun (i : Nat) (out : List Nat) (k : Nat) => i ≤ (runes s).length + 1 ∧ (List.range i).filter (siteQ a r (runes s)) = out) (fun (i : Nat) (out : List Nat) (k : Nat) => (runes s).length + 1 - i) (0) ([]) (b0) (by exact ⟨Nat.zero_le _, rfl⟩) (St.Le.of ⟨(by first | rfl | (show some _ = some _; simp)), (by first | rfl | (show some _ = some _; simp)), (by first | rfl | (show some _ = some _; simp)), (by first | rfl | (show some _ = some _; simp)), (by first | rfl | (show some _ = some _; simp)), trivial⟩ rfl (by first | rfl | (simp))) ?_
      rintro i out k ⟨hi, ho⟩
      have hol := filter_len (siteQ a r (runes s)) i
      rw [ho] at hol
      refine SCode.seq ?_
      refine SCode.seqR ?_
      refine SOps.move rfl ?_
      refine SOps.move rfl ?_
      refine SOps.lenM rfl sliceB_35_21_1 ?_
      refine SOps.bin rfl rfl rfl ?_
      refine SOps.nil ?_
      refine SCode.cond rfl (fun hc3 => ?_) (fun hc3 => ?_)
      · try simp only [decide_eq_true_eq, decide_eq_false_iff_not, Bool.not_eq_true', Bool.not_eq_false', beq_iff_eq, bne_iff_ne, ne_eq, beq_eq_false_iff_ne, bne_eq_false_iff_eq, Int.not_lt, Int.not_le, Nat.not_lt, Nat.not_le, Int.ofNat_lt, Int.ofNat_le, Bool.not_eq_eq_eq_not, Bool.not_true, Bool.not_false] at hc3
        refine SCode.skip ?_
        show SCode _ _ _ _
        refine SCode.seq ?_
        refine SCode.block ?_
        refine SCode.seqR ?_
        refine SOps.move rfl ?_
        refine SOps.assign rfl ?_
        refine SOps.nil ?_
        refine SCode.seq ?_
        refine SCode.seqR ?_
        refine SOps.fieldPin rfl fieldB_25_0_0 ?_
        refine SOps.loadPin rfl flatB_21 ?_
        refine SOps.bin rfl rfl rfl ?_
        refine SOps.nil ?_
        refine SCode.cond rfl (fun hc4 => ?_) (fun hc4 => ?_)
        · try simp only [decide_eq_true_eq, decide_eq_false_iff_not, Bool.not_eq_true', Bool.not_eq_false', beq_iff_eq, bne_iff_ne, ne_eq, beq_eq_false_iff_ne, bne_eq_false_iff_eq, Int.not_lt, Int.not_le, Nat.not_lt, Nat.not_le, Int.ofNat_lt, Int.ofNat_le, Bool.not_eq_eq_eq_not, Bool.not_true, Bool.not_false] at hc4
          refine SCode.seq ?_
          refine SCode.seq ?_
          rcases (show i = (runes s).length ∨ i < (runes s).length from by omega) with hq | hq
          · refine SCode.drawPure mixed_ [(35, .v (.int .i64 (i : Int))), (36, DRunes (runes s)), (37, .v (.int .i64 (((runes s).length : Nat) : Int))), (38, .v (.bool true)), (39, .v (.bool true)), (40, .v (.tuple #[])), (41, .v (.tuple #[])), (42, .v (.tuple #[])), (43, .v (.tuple #[])), (44, .v (.tuple #[])), (45, .v (.tuple #[])), (46, .v (.tuple #[])), (47, .v (.bool true))] [35, 36, 37, 38, 39, 40, 41, 42, 43, 44, 45, 46, 47] [[.inr 9], [.inr 8], [.inl 1], [.inl 0, .inl 2], [.inl 3], [.inl 4], [.inl 4], [.inl 4], [.inl 4], [.inl 4], [.inl 4], [.inl 4], [.inl 4, .inl 11]] [[(9, .v (.int .i64 (i : Int)))], [(8, DRunes (runes s))], [(36, DRunes (runes s))], [(35, .v (.int .i64 (i : Int))), (37, .v (.int .i64 (((runes s).length : Nat) : Int)))], [(38, .v (.bool true))], [(39, .v (.bool true))], [(39, .v (.bool true))], [(39, .v (.bool true))], [(39, .v (.bool true))], [(39, .v (.bool true))], [(39, .v (.bool true))], [(39, .v (.bool true))], [(39, .v (.bool true)), (46, .v (.tuple #[]))]] rfl (by kernel_rfl) (by kernel_rfl) rfl ?_ ?_
            · refine OpsOk.cons (fun rest => ?_) ?_
              · refine SOps.move rfl ?_
                exact SOps.nil (by first | rfl | simp_all)
              refine OpsOk.cons (fun rest => ?_) ?_
              · refine SOps.move rfl ?_
                exact SOps.nil (by first | rfl | simp_all)
              refine OpsOk.cons (fun rest => ?_) ?_
              · refine SOps.lenM rfl sliceB_35_21_1 ?_
                exact SOps.nil (by first | rfl | simp_all)
              refine OpsOk.cons (fun rest => ?_) ?_
              · refine SOps.bin rfl rfl rfl ?_
                exact SOps.nil (by exact congrArg (fun b => St.put _ _ (.v (.bool b))) (beq_iff_eq.2 (by omega)))
              refine OpsOk.cons (fun rest => ?_) ?_
              · refine SOps.move rfl ?_
                exact SOps.nil (by first | rfl | simp_all)
              refine OpsOk.cons (fun rest => ?_) ?_
              · refine SOps.skip rfl ?_
                exact SOps.nil (by first | rfl | simp_all)
              refine OpsOk.cons (fun rest => ?_) ?_
              · refine SOps.skip rfl ?_
                exact SOps.nil (by first | rfl | simp_all)
              refine OpsOk.cons (fun rest => ?_) ?_
              · refine SOps.skip rfl ?_
                exact SOps.nil (by first | rfl | simp_all)
              refine OpsOk.cons (fun rest => ?_) ?_
              · refine SOps.skip rfl ?_
                exact SOps.nil (by first | rfl | simp_all)
              refine OpsOk.cons (fun rest => ?_) ?_
              · refine SOps.skip rfl ?_
                exact SOps.nil (by first | rfl | simp_all)
              refine OpsOk.cons (fun rest => ?_) ?_
              · refine SOps.skip rfl ?_
                exact SOps.nil (by first | rfl | simp_all)
              refine OpsOk.cons (fun rest => ?_) ?_
              · refine SOps.skip rfl ?_
                exact SOps.nil (by first | rfl | simp_all)
              refine OpsOk.cons (fun rest => ?_) ?_
              · refine SOps.pick rfl rfl ?_
                exact SOps.nil (by first | rfl | simp_all)
              exact OpsOk.nil
            · show SCode _ _ _ _
              refine SCode.cond rfl (fun _ => ?_) (fun h => by cases h)
              refine SCode.exit ?_
              show SCode _ _ _ _
              refine SCode.region ?_
              refine SOps.move rfl ?_
              refine SOps.addI rfl rfl (by first | omega | (simp only [lenB]; omega)) (by first | omega | (simp only [lenB]; omega)) ?_
              refine SOps.assign rfl ?_
              refine SOps.nil ?_
              first
                | exact ⟨i + 1, out ++ [i], b1, ⟨by omega, by rw [filter_succ, if_pos (by simp_all [siteQ]), ho]⟩, by omega, St.Le.of ⟨rfl, rfl, (by show some _ = some _; simp), rfl, rfl, trivial⟩ rfl (by rw [List.map_append]; rfl)⟩
                | exact ⟨i + 1, out ++ [i], b2, ⟨by omega, by rw [filter_succ, if_pos (by simp_all [siteQ]), ho]⟩, by omega, St.Le.of ⟨rfl, rfl, (by show some _ = some _; simp), rfl, rfl, trivial⟩ rfl (by rw [List.map_append]; rfl)⟩
                | exact ⟨i + 1, out, k, ⟨by omega, by rw [filter_succ, if_neg (by simp_all [siteQ]), ho, List.append_nil]⟩, by omega, St.Le.of ⟨rfl, rfl, rfl, rfl, rfl, trivial⟩⟩
          · refine SCode.drawPure mixed_ [(35, .v (.int .i64 (i : Int))), (36, DRunes (runes s)), (37, .v (.int .i64 (((runes s).length : Nat) : Int))), (38, .v (.bool false)), (39, .v (.bool false)), (40, DRunes (runes s)), (41, .v (.int .i64 (i : Int))), (42, .ipin (rcell ((runes s)[i]))), (43, .v (.int .i32 ((runes s)[i]))), (44, .ipin ((encR r).drop 0)), (45, .v (.int .i32 r.fr)), (46, .v (.bool (!decide ((runes s)[i] = r.fr)))), (47, .v (.bool (!decide ((runes s)[i] = r.fr))))] [35, 36, 37, 38, 39, 40, 41, 42, 43, 44, 45, 46, 47] [[.inr 9], [.inr 8], [.inl 1], [.inl 0, .inl 2], [.inl 3], [.inl 4, .inr 8], [.inl 4, .inr 9], [.inl 4, .inl 5, .inl 6], [.inl 4, .inl 7], [.inl 4, .inr 4], [.inl 4, .inl 9], [.inl 4, .inl 8, .inl 10], [.inl 4, .inl 11]] [[(9, .v (.int .i64 (i : Int)))], [(8, DRunes (runes s))], [(36, DRunes (runes s))], [(35, .v (.int .i64 (i : Int))), (37, .v (.int .i64 (((runes s).length : Nat) : Int)))], [(38, .v (.bool false))], [(39, .v (.bool false)), (8, DRunes (runes s))], [(39, .v (.bool false)), (9, .v (.int .i64 (i : Int)))], [(39, .v (.bool false)), (40, DRunes (runes s)), (41, .v (.int .i64 (i : Int)))], [(39, .v (.bool false)), (42, .ipin (rcell ((runes s)[i])))], [(39, .v (.bool false)), (4, .ipin (encR r))], [(39, .v (.bool false)), (44, .ipin ((encR r).drop 0))], [(39, .v (.bool false)), (43, .v (.int .i32 ((runes s)[i]))), (45, .v (.int .i32 r.fr))], [(39, .v (.bool false)), (46, .v (.bool (!decide ((runes s)[i] = r.fr))))]] rfl (by kernel_rfl) (by kernel_rfl) rfl ?_ ?_
            · refine OpsOk.cons (fun rest => ?_) ?_
              · refine SOps.move rfl ?_
                exact SOps.nil (by first | rfl | simp_all)
              refine OpsOk.cons (fun rest => ?_) ?_
              · refine SOps.move rfl ?_
                exact SOps.nil (by first | rfl | simp_all)
              refine OpsOk.cons (fun rest => ?_) ?_
              · refine SOps.lenM rfl sliceB_35_21_1 ?_
                exact SOps.nil (by first | rfl | simp_all)
              refine OpsOk.cons (fun rest => ?_) ?_
              · refine SOps.bin rfl rfl rfl ?_
                exact SOps.nil (by exact congrArg (fun b => St.put _ _ (.v (.bool b))) (beq_eq_false_iff_ne.2 (by omega)))
              refine OpsOk.cons (fun rest => ?_) ?_
              · refine SOps.move rfl ?_
                exact SOps.nil (by first | rfl | simp_all)
              refine OpsOk.cons (fun rest => ?_) ?_
              · refine SOps.move rfl ?_
                exact SOps.nil (by first | rfl | simp_all)
              refine OpsOk.cons (fun rest => ?_) ?_
              · refine SOps.move rfl ?_
                exact SOps.nil (by first | rfl | simp_all)
              refine OpsOk.cons (fun rest => ?_) ?_
              · refine SOps.indexM (i) rfl rfl sliceB_35_21_1 (by first | omega | (simp only [lenB]; omega)) (by first | omega | (simp only [lenB]; omega)) ?_
                exact SOps.nil (by first | rfl | simp_all)
              refine OpsOk.cons (fun rest => ?_) ?_
              · refine SOps.loadPin rfl flatB_21 ?_
                exact SOps.nil (by first | rfl | simp_all)
              refine OpsOk.cons (fun rest => ?_) ?_
              · refine SOps.fieldPin rfl fieldB_25_0_0 ?_
                exact SOps.nil (by first | rfl | simp_all)
              refine OpsOk.cons (fun rest => ?_) ?_
              · refine SOps.loadPin rfl flatB_21 ?_
                exact SOps.nil (by first | rfl | simp_all)
              refine OpsOk.cons (fun rest => ?_) ?_
              · refine SOps.bin rfl rfl rfl ?_
                exact SOps.nil (by first | rfl | simp_all)
              refine OpsOk.cons (fun rest => ?_) ?_
              · refine SOps.pick rfl rfl ?_
                exact SOps.nil (by first | rfl | simp_all)
              exact OpsOk.nil
            · show SCode _ _ _ _
              refine SCode.cond rfl (fun hc5 => ?_) (fun hc5 => ?_)
              · try simp only [decide_eq_true_eq, decide_eq_false_iff_not, Bool.not_eq_true', Bool.not_eq_false', beq_iff_eq, bne_iff_ne, ne_eq, beq_eq_false_iff_ne, bne_eq_false_iff_eq, Int.not_lt, Int.not_le, Nat.not_lt, Nat.not_le, Int.ofNat_lt, Int.ofNat_le, Bool.not_eq_eq_eq_not, Bool.not_true, Bool.not_false] at hc5
                refine SCode.exit ?_
                show SCode _ _ _ _
                refine SCode.region ?_
                refine SOps.move rfl ?_
                refine SOps.addI rfl rfl (by first | omega | (simp only [lenB]; omega)) (by first | omega | (simp only [lenB]; omega)) ?_
                refine SOps.assign rfl ?_
                refine SOps.nil ?_
                first
                  | exact ⟨i + 1, out ++ [i], b1, ⟨by omega, by rw [filter_succ, if_pos (by simp_all [siteQ]), ho]⟩, by omega, St.Le.of ⟨rfl, rfl, (by show some _ = some _; simp), rfl, rfl, trivial⟩ rfl (by rw [List.map_append]; rfl)⟩
                  | exact ⟨i + 1, out ++ [i], b2, ⟨by omega, by rw [filter_succ, if_pos (by simp_all [siteQ]), ho]⟩, by omega, St.Le.of ⟨rfl, rfl, (by show some _ = some _; simp), rfl, rfl, trivial⟩ rfl (by rw [List.map_append]; rfl)⟩
                  | exact ⟨i + 1, out, k, ⟨by omega, by rw [filter_succ, if_neg (by simp_all [siteQ]), ho, List.append_nil]⟩, by omega, St.Le.of ⟨rfl, rfl, rfl, rfl, rfl, trivial⟩⟩
              · try simp only [decide_eq_true_eq, decide_eq_false_iff_not, Bool.not_eq_true', Bool.not_eq_false', beq_iff_eq, bne_iff_ne, ne_eq, beq_eq_false_iff_ne, bne_eq_false_iff_eq, Int.not_lt, Int.not_le, Nat.not_lt, Nat.not_le, Int.ofNat_lt, Int.ofNat_le, Bool.not_eq_eq_eq_not, Bool.not_true, Bool.not_false] at hc5
                refine SCode.skip ?_
                show SCode _ _ _ _
                refine SCode.region ?_
                refine SOps.move rfl ?_
                refine SOps.addI rfl rfl (by first | omega | (simp only [lenB]; omega)) (by first | omega | (simp only [lenB]; omega)) ?_
                refine SOps.assign rfl ?_
                refine SOps.nil ?_
                show SCode _ _ _ _
                refine SCode.seq ?_
                rcases hq3 : leftR a r ((runes s).take i) with _ | _
                · refine SCode.drawPure mixed_ [(50, DLs a), (51, .agg (encR r)), (52, DRunes (runes s)), (53, .v (.int .i64 (i : Int))), (54, DRunes ((runes s).take i)), (55, .v (.bool false)), (56, .v (.bool false)), (57, .v (.tuple #[])), (58, .v (.tuple #[])), (59, .v (.tuple #[])), (60, .v (.tuple #[])), (61, .v (.tuple #[])), (62, .v (.tuple #[])), (63, .v (.bool false))] [50, 51, 52, 53, 54, 55, 56, 57, 58, 59, 60, 61, 62, 63] [[.inr 0], [.inr 4], [.inr 8], [.inr 9], [.inl 2, .inl 3], [.inl 0, .inl 1, .inl 4], [.inl 5], [.inl 6], [.inl 6], [.inl 6], [.inl 6], [.inl 6], [.inl 6], [.inl 6, .inl 12]] [[(0, DLs a)], [(4, .ipin (encR r))], [(8, DRunes (runes s))], [(9, .v (.int .i64 (i : Int)))], [(52, DRunes (runes s)), (53, .v (.int .i64 (i : Int)))], [(50, DLs a), (51, .agg (encR r)), (54, DRunes ((runes s).take i))], [(55, .v (.bool false))], [(56, .v (.bool false))], [(56, .v (.bool false))], [(56, .v (.bool false))], [(56, .v (.bool false))], [(56, .v (.bool false))], [(56, .v (.bool false))], [(56, .v (.bool false)), (62, .v (.tuple #[]))]] rfl (by kernel_rfl) (by kernel_rfl) rfl ?_ ?_
                  · refine OpsOk.cons (fun rest => ?_) ?_
                    · refine SOps.move rfl ?_
                      exact SOps.nil (by first | rfl | simp_all)
                    refine OpsOk.cons (fun rest => ?_) ?_
                    · refine SOps.loadPinA rfl aggB_25_6 (Nat.le_of_ble_eq_true rfl) ?_
                      exact SOps.nil (by first | rfl | simp_all)
                    refine OpsOk.cons (fun rest => ?_) ?_
                    · refine SOps.move rfl ?_
                      exact SOps.nil (by first | rfl | simp_all)
                    refine OpsOk.cons (fun rest => ?_) ?_
                    · refine SOps.move rfl ?_
                      exact SOps.nil (by first | rfl | simp_all)
                    refine OpsOk.cons (fun rest => ?_) ?_
                    · refine SOps.sliceT (n1 := 0) (i) sliceB_35_21_1 rfl rfl (by first | omega | (simp only [lenB]; omega)) (by first | omega | (simp only [lenB]; omega)) ?_
                      exact SOps.nil (by first | rfl | simp_all)
                    refine OpsOk.cons (fun rest => ?_) ?_
                    · refine SOps.callP (qLeft a r _ (by simp; omega)) rfl ?_
                      rintro _ rfl
                      exact SOps.nil (by exact congrArg (fun b => St.put _ _ (.v (.bool b))) hq3)
                    refine OpsOk.cons (fun rest => ?_) ?_
                    · refine SOps.move rfl ?_
                      exact SOps.nil (by first | rfl | simp_all)
                    refine OpsOk.cons (fun rest => ?_) ?_
                    · refine SOps.skip rfl ?_
                      exact SOps.nil (by first | rfl | simp_all)
                    refine OpsOk.cons (fun rest => ?_) ?_
                    · refine SOps.skip rfl ?_
                      exact SOps.nil (by first | rfl | simp_all)
                    refine OpsOk.cons (fun rest => ?_) ?_
                    · refine SOps.skip rfl ?_
                      exact SOps.nil (by first | rfl | simp_all)
                    refine OpsOk.cons (fun rest => ?_) ?_
                    · refine SOps.skip rfl ?_
                      exact SOps.nil (by first | rfl | simp_all)
                    refine OpsOk.cons (fun rest => ?_) ?_
                    · refine SOps.skip rfl ?_
                      exact SOps.nil (by first | rfl | simp_all)
                    refine OpsOk.cons (fun rest => ?_) ?_
                    · refine SOps.skip rfl ?_
                      exact SOps.nil (by first | rfl | simp_all)
                    refine OpsOk.cons (fun rest => ?_) ?_
                    · refine SOps.pick rfl rfl ?_
                      exact SOps.nil (by first | rfl | simp_all)
                    exact OpsOk.nil
                  · show SCode _ _ _ _
                    refine SCode.cond rfl (fun h => by cases h) (fun _ => ?_)
                    refine SCode.skip ?_
                    show SCode _ _ _ _
                    refine SCode.region ?_
                    refine SOps.move rfl ?_
                    refine SOps.addI rfl rfl (by first | omega | (simp only [lenB]; omega)) (by first | omega | (simp only [lenB]; omega)) ?_
                    refine SOps.assign rfl ?_
                    refine SOps.nil ?_
                    first
                      | exact ⟨i + 1, out ++ [i], b1, ⟨by omega, by rw [filter_succ, if_pos (by simp_all [siteQ]), ho]⟩, by omega, St.Le.of ⟨rfl, rfl, (by show some _ = some _; simp), rfl, rfl, trivial⟩ rfl (by rw [List.map_append]; rfl)⟩
                      | exact ⟨i + 1, out ++ [i], b2, ⟨by omega, by rw [filter_succ, if_pos (by simp_all [siteQ]), ho]⟩, by omega, St.Le.of ⟨rfl, rfl, (by show some _ = some _; simp), rfl, rfl, trivial⟩ rfl (by rw [List.map_append]; rfl)⟩
                      | exact ⟨i + 1, out, k, ⟨by omega, by rw [filter_succ, if_neg (by simp_all [siteQ]), ho, List.append_nil]⟩, by omega, St.Le.of ⟨rfl, rfl, rfl, rfl, rfl, trivial⟩⟩
                · refine SCode.drawPure mixed_ [(50, DLs a), (51, .agg (encR r)), (52, DRunes (runes s)), (53, .v (.int .i64 (i : Int))), (54, DRunes ((runes s).take i)), (55, .v (.bool true)), (56, .v (.bool true)), (57, DLs a), (58, .agg (encR r)), (59, DRunes (runes s)), (60, .v (.int .i64 ((i : Int) + 1))), (61, DRunes ((runes s).drop (i + 1))), (62, .v (.bool (rightR a r ((runes s).drop (i + 1))))), (63, .v (.bool (rightR a r ((runes s).drop (i + 1)))))] [50, 51, 52, 53, 54, 55, 56, 57, 58, 59, 60, 61, 62, 63] [[.inr 0], [.inr 4], [.inr 8], [.inr 9], [.inl 2, .inl 3], [.inl 0, .inl 1, .inl 4], [.inl 5], [.inl 6, .inr 0], [.inl 6, .inr 4], [.inl 6, .inr 8], [.inl 6, .inr 10], [.inl 6, .inl 9, .inl 10], [.inl 6, .inl 7, .inl 8, .inl 11], [.inl 6, .inl 12]] [[(0, DLs a)], [(4, .ipin (encR r))], [(8, DRunes (runes s))], [(9, .v (.int .i64 (i : Int)))], [(52, DRunes (runes s)), (53, .v (.int .i64 (i : Int)))], [(50, DLs a), (51, .agg (encR r)), (54, DRunes ((runes s).take i))], [(55, .v (.bool true))], [(56, .v (.bool true)), (0, DLs a)], [(56, .v (.bool true)), (4, .ipin (encR r))], [(56, .v (.bool true)), (8, DRunes (runes s))], [(56, .v (.bool true)), (10, .v (.int .i64 ((i : Int) + 1)))], [(56, .v (.bool true)), (59, DRunes (runes s)), (60, .v (.int .i64 ((i : Int) + 1)))], [(56, .v (.bool true)), (57, DLs a), (58, .agg (encR r)), (61, DRunes ((runes s).drop (i + 1)))], [(56, .v (.bool true)), (62, .v (.bool (rightR a r ((runes s).drop (i + 1)))))]] rfl (by kernel_rfl) (by kernel_rfl) rfl ?_ ?_
                  · refine OpsOk.cons (fun rest => ?_) ?_
                    · refine SOps.move rfl ?_
                      exact SOps.nil (by first | rfl | simp_all)
                    refine OpsOk.cons (fun rest => ?_) ?_
                    · refine SOps.loadPinA rfl aggB_25_6 (Nat.le_of_ble_eq_true rfl) ?_
                      exact SOps.nil (by first | rfl | simp_all)
                    refine OpsOk.cons (fun rest => ?_) ?_
                    · refine SOps.move rfl ?_
                      exact SOps.nil (by first | rfl | simp_all)
                    refine OpsOk.cons (fun rest => ?_) ?_
                    · refine SOps.move rfl ?_
                      exact SOps.nil (by first | rfl | simp_all)
                    refine OpsOk.cons (fun rest => ?_) ?_
                    · refine SOps.sliceT (n1 := 0) (i) sliceB_35_21_1 rfl rfl (by first | omega | (simp only [lenB]; omega)) (by first | omega | (simp only [lenB]; omega)) ?_
                      exact SOps.nil (by first | rfl | simp_all)
                    refine OpsOk.cons (fun rest => ?_) ?_
                    · refine SOps.callP (qLeft a r _ (by simp; omega)) rfl ?_
                      rintro _ rfl
                      exact SOps.nil (by exact congrArg (fun b => St.put _ _ (.v (.bool b))) hq3)
                    refine OpsOk.cons (fun rest => ?_) ?_
                    · refine SOps.move rfl ?_
                      exact SOps.nil (by first | rfl | simp_all)
                    refine OpsOk.cons (fun rest => ?_) ?_
                    · refine SOps.move rfl ?_
                      exact SOps.nil (by first | rfl | simp_all)
                    refine OpsOk.cons (fun rest => ?_) ?_
                    · refine SOps.loadPinA rfl aggB_25_6 (Nat.le_of_ble_eq_true rfl) ?_
                      exact SOps.nil (by first | rfl | simp_all)
                    refine OpsOk.cons (fun rest => ?_) ?_
                    · refine SOps.move rfl ?_
                      exact SOps.nil (by first | rfl | simp_all)
                    refine OpsOk.cons (fun rest => ?_) ?_
                    · refine SOps.move rfl ?_
                      exact SOps.nil (by first | rfl | simp_all)
                    refine OpsOk.cons (fun rest => ?_) ?_
                    · refine SOps.sliceD (n1 := 0) (i + 1) sliceB_35_21_1 rfl rfl (by first | omega | (simp only [lenB]; omega)) (by first | omega | (simp only [lenB]; omega)) ?_
                      exact SOps.nil (by first | rfl | simp_all)
                    refine OpsOk.cons (fun rest => ?_) ?_
                    · refine SOps.callP (qRight a r _ (by simp; omega)) rfl ?_
                      rintro _ rfl
                      exact SOps.nil (by first | rfl | simp_all)
                    refine OpsOk.cons (fun rest => ?_) ?_
                    · refine SOps.pick rfl rfl ?_
                      exact SOps.nil (by first | rfl | simp_all)
                    exact OpsOk.nil
                  · show SCode _ _ _ _
                    refine SCode.cond rfl (fun hc6 => ?_) (fun hc6 => ?_)
                    · try simp only [decide_eq_true_eq, decide_eq_false_iff_not, Bool.not_eq_true', Bool.not_eq_false', beq_iff_eq, bne_iff_ne, ne_eq, beq_eq_false_iff_ne, bne_eq_false_iff_eq, Int.not_lt, Int.not_le, Nat.not_lt, Nat.not_le, Int.ofNat_lt, Int.ofNat_le, Bool.not_eq_eq_eq_not, Bool.not_true, Bool.not_false] at hc6
                      refine SCode.region ?_
                      refine SOps.move rfl ?_
                      refine SOps.move rfl ?_
                      refine SOps.litF rfl sliceB_30_3_1 zeroIs_3 rfl ?_
                      refine SOps.appendOwn 0 sliceB_30_3_1 elemB_3_1_8 rfl rfl rfl (by simp) SrcD.isl (by simp) (by simp [lenB] <;> (first | omega | (simp only [lenB]; omega))) (by simp <;> (first | omega | (simp only [lenB]; omega))) (fun b1 hb_1 => ?_)
                      refine SOps.assign rfl ?_
                      refine SOps.nil ?_
                      show SCode _ _ _ _
                      refine SCode.region ?_
                      refine SOps.move rfl ?_
                      refine SOps.addI rfl rfl (by first | omega | (simp only [lenB]; omega)) (by first | omega | (simp only [lenB]; omega)) ?_
                      refine SOps.assign rfl ?_
                      refine SOps.nil ?_
                      first
                        | exact ⟨i + 1, out ++ [i], b1, ⟨by omega, by rw [filter_succ, if_pos (by simp_all [siteQ]), ho]⟩, by omega, St.Le.of ⟨rfl, rfl, (by show some _ = some _; simp), rfl, rfl, trivial⟩ rfl (by rw [List.map_append]; rfl)⟩
                        | exact ⟨i + 1, out ++ [i], b2, ⟨by omega, by rw [filter_succ, if_pos (by simp_all [siteQ]), ho]⟩, by omega, St.Le.of ⟨rfl, rfl, (by show some _ = some _; simp), rfl, rfl, trivial⟩ rfl (by rw [List.map_append]; rfl)⟩
                        | exact ⟨i + 1, out, k, ⟨by omega, by rw [filter_succ, if_neg (by simp_all [siteQ]), ho, List.append_nil]⟩, by omega, St.Le.of ⟨rfl, rfl, rfl, rfl, rfl, trivial⟩⟩
                    · try simp only [decide_eq_true_eq, decide_eq_false_iff_not, Bool.not_eq_true', Bool.not_eq_false', beq_iff_eq, bne_iff_ne, ne_eq, beq_eq_false_iff_ne, bne_eq_false_iff_eq, Int.not_lt, Int.not_le, Nat.not_lt, Nat.not_le, Int.ofNat_lt, Int.ofNat_le, Bool.not_eq_eq_eq_not, Bool.not_true, Bool.not_false] at hc6
                      refine SCode.skip ?_
                      show SCode _ _ _ _
                      refine SCode.region ?_
                      refine SOps.move rfl ?_
                      refine SOps.addI rfl rfl (by first | omega | (simp only [lenB]; omega)) (by first | omega | (simp only [lenB]; omega)) ?_
                      refine SOps.assign rfl ?_
                      refine SOps.nil ?_
                      first
                        | exact ⟨i + 1, out ++ [i], b1, ⟨by omega, by rw [filter_succ, if_pos (by simp_all [siteQ]), ho]⟩, by omega, St.Le.of ⟨rfl, rfl, (by show some _ = some _; simp), rfl, rfl, trivial⟩ rfl (by rw [List.map_append]; rfl)⟩
                        | exact ⟨i + 1, out ++ [i], b2, ⟨by omega, by rw [filter_succ, if_pos (by simp_all [siteQ]), ho]⟩, by omega, St.Le.of ⟨rfl, rfl, (by show some _ = some _; simp), rfl, rfl, trivial⟩ rfl (by rw [List.map_append]; rfl)⟩
                        | exact ⟨i + 1, out, k, ⟨by omega, by rw [filter_succ, if_neg (by simp_all [siteQ]), ho, List.append_nil]⟩, by omega, St.Le.of ⟨rfl, rfl, rfl, rfl, rfl, trivial⟩⟩
        · try simp only [decide_eq_true_eq, decide_eq_false_iff_not, Bool.not_eq_true', Bool.not_eq_false', beq_iff_eq, bne_iff_ne, ne_eq, beq_eq_false_iff_ne, bne_eq_false_iff_eq, Int.not_lt, Int.not_le, Nat.not_lt, Nat.not_le, Int.ofNat_lt, Int.ofNat_le, Bool.not_eq_eq_eq_not, Bool.not_true, Bool.not_false] at hc4
          refine SCode.skip ?_
          show SCode _ _ _ _
          refine SCode.seq ?_
          rcases hq3 : leftR a r ((runes s).take i) with _ | _
          · refine SCode.drawPure mixed_ [(50, DLs a), (51, .agg (encR r)), (52, DRunes (runes s)), (53, .v (.int .i64 (i : Int))), (54, DRunes ((runes s).take i)), (55, .v (.bool false)), (56, .v (.bool false)), (57, .v (.tuple #[])), (58, .v (.tuple #[])), (59, .v (.tuple #[])), (60, .v (.tuple #[])), (61, .v (.tuple #[])), (62, .v (.tuple #[])), (63, .v (.bool false))] [50, 51, 52, 53, 54, 55, 56, 57, 58, 59, 60, 61, 62, 63] [[.inr 0], [.inr 4], [.inr 8], [.inr 9], [.inl 2, .inl 3], [.inl 0, .inl 1, .inl 4], [.inl 5], [.inl 6], [.inl 6], [.inl 6], [.inl 6], [.inl 6], [.inl 6], [.inl 6, .inl 12]] [[(0, DLs a)], [(4, .ipin (encR r))], [(8, DRunes (runes s))], [(9, .v (.int .i64 (i : Int)))], [(52, DRunes (runes s)), (53, .v (.int .i64 (i : Int)))], [(50, DLs a), (51, .agg (encR r)), (54, DRunes ((runes s).take i))], [(55, .v (.bool false))], [(56, .v (.bool false))], [(56, .v (.bool false))], [(56, .v (.bool false))], [(56, .v (.bool false))], [(56, .v (.bool false))], [(56, .v (.bool false))], [(56, .v (.bool false)), (62, .v (.tuple #[]))]] rfl (by kernel_rfl) (by kernel_rfl) rfl ?_ ?_
            · refine OpsOk.cons (fun rest => ?_) ?_
              · refine SOps.move rfl ?_
                exact SOps.nil (by first | rfl | simp_all)
              refine OpsOk.cons (fun rest => ?_) ?_
              · refine SOps.loadPinA rfl aggB_25_6 (Nat.le_of_ble_eq_true rfl) ?_
                exact SOps.nil (by first | rfl | simp_all)
              refine OpsOk.cons (fun rest => ?_) ?_
              · refine SOps.move rfl ?_
                exact SOps.nil (by first | rfl | simp_all)
              refine OpsOk.cons (fun rest => ?_) ?_
              · refine SOps.move rfl ?_
                exact SOps.nil (by first | rfl | simp_all)
              refine OpsOk.cons (fun rest => ?_) ?_
              · refine SOps.sliceT (n1 := 0) (i) sliceB_35_21_1 rfl rfl (by first | omega | (simp only [lenB]; omega)) (by first | omega | (simp only [lenB]; omega)) ?_
                exact SOps.nil (by first | rfl | simp_all)
              refine OpsOk.cons (fun rest => ?_) ?_
              · refine SOps.callP (qLeft a r _ (by simp; omega)) rfl ?_
                rintro _ rfl
                exact SOps.nil (by exact congrArg (fun b => St.put _ _ (.v (.bool b))) hq3)
              refine OpsOk.cons (fun rest => ?_) ?_
              · refine SOps.move rfl ?_
                exact SOps.nil (by first | rfl | simp_all)
              refine OpsOk.cons (fun rest => ?_) ?_
              · refine SOps.skip rfl ?_
                exact SOps.nil (by first | rfl | simp_all)
              refine OpsOk.cons (fun rest => ?_) ?_
              · refine SOps.skip rfl ?_
                exact SOps.nil (by first | rfl | simp_all)
              refine OpsOk.cons (fun rest => ?_) ?_
              · refine SOps.skip rfl ?_
                exact SOps.nil (by first | rfl | simp_all)
              refine OpsOk.cons (fun rest => ?_) ?_
              · refine SOps.skip rfl ?_
                exact SOps.nil (by first | rfl | simp_all)
              refine OpsOk.cons (fun rest => ?_) ?_
              · refine SOps.skip rfl ?_
                exact SOps.nil (by first | rfl | simp_all)
              refine OpsOk.cons (fun rest => ?_) ?_
              · refine SOps.skip rfl ?_
                exact SOps.nil (by first | rfl | simp_all)
              refine OpsOk.cons (fun rest => ?_) ?_
              · refine SOps.pick rfl rfl ?_
                exact SOps.nil (by first | rfl | simp_all)
              exact OpsOk.nil
            · show SCode _ _ _ _
              refine SCode.cond rfl (fun h => by cases h) (fun _ => ?_)
              refine SCode.skip ?_
              show SCode _ _ _ _
              refine SCode.region ?_
              refine SOps.move rfl ?_
              refine SOps.addI rfl rfl (by first | omega | (simp only [lenB]; omega)) (by first | omega | (simp only [lenB]; omega)) ?_
              refine SOps.assign rfl ?_
              refine SOps.nil ?_
              first
                | exact ⟨i + 1, out ++ [i], b1, ⟨by omega, by rw [filter_succ, if_pos (by simp_all [siteQ]), ho]⟩, by omega, St.Le.of ⟨rfl, rfl, (by show some _ = some _; simp), rfl, rfl, trivial⟩ rfl (by rw [List.map_append]; rfl)⟩
                | exact ⟨i + 1, out ++ [i], b2, ⟨by omega, by rw [filter_succ, if_pos (by simp_all [siteQ]), ho]⟩, by omega, St.Le.of ⟨rfl, rfl, (by show some _ = some _; simp), rfl, rfl, trivial⟩ rfl (by rw [List.map_append]; rfl)⟩
                | exact ⟨i + 1, out, k, ⟨by omega, by rw [filter_succ, if_neg (by simp_all [siteQ]), ho, List.append_nil]⟩, by omega, St.Le.of ⟨rfl, rfl, rfl, rfl, rfl, trivial⟩⟩
          · refine SCode.drawPure mixed_ [(50, DLs a), (51, .agg (encR r)), (52, DRunes (runes s)), (53, .v (.int .i64 (i : Int))), (54, DRunes ((runes s).take i)), (55, .v (.bool true)), (56, .v (.bool true)), (57, DLs a), (58, .agg (encR r)), (59, DRunes (runes s)), (60, .v (.int .i64 (i : Int))), (61, DRunes ((runes s).drop (i))), (62, .v (.bool (rightR a r ((runes s).drop (i))))), (63, .v (.bool (rightR a r ((runes s).drop (i)))))] [50, 51, 52, 53, 54, 55, 56, 57, 58, 59, 60, 61, 62, 63] [[.inr 0], [.inr 4], [.inr 8], [.inr 9], [.inl 2, .inl 3], [.inl 0, .inl 1, .inl 4], [.inl 5], [.inl 6, .inr 0], [.inl 6, .inr 4], [.inl 6, .inr 8], [.inl 6, .inr 10], [.inl 6, .inl 9, .inl 10], [.inl 6, .inl 7, .inl 8, .inl 11], [.inl 6, .inl 12]] [[(0, DLs a)], [(4, .ipin (encR r))], [(8, DRunes (runes s))], [(9, .v (.int .i64 (i : Int)))], [(52, DRunes (runes s)), (53, .v (.int .i64 (i : Int)))], [(50, DLs a), (51, .agg (encR r)), (54, DRunes ((runes s).take i))], [(55, .v (.bool true))], [(56, .v (.bool true)), (0, DLs a)], [(56, .v (.bool true)), (4, .ipin (encR r))], [(56, .v (.bool true)), (8, DRunes (runes s))], [(56, .v (.bool true)), (10, .v (.int .i64 (i : Int)))], [(56, .v (.bool true)), (59, DRunes (runes s)), (60, .v (.int .i64 (i : Int)))], [(56, .v (.bool true)), (57, DLs a), (58, .agg (encR r)), (61, DRunes ((runes s).drop (i)))], [(56, .v (.bool true)), (62, .v (.bool (rightR a r ((runes s).drop (i)))))]] rfl (by kernel_rfl) (by kernel_rfl) rfl ?_ ?_
            · refine OpsOk.cons (fun rest => ?_) ?_
              · refine SOps.move rfl ?_
                exact SOps.nil (by first | rfl | simp_all)
              refine OpsOk.cons (fun rest => ?_) ?_
              · refine SOps.loadPinA rfl aggB_25_6 (Nat.le_of_ble_eq_true rfl) ?_
                exact SOps.nil (by first | rfl | simp_all)
              refine OpsOk.cons (fun rest => ?_) ?_
              · refine SOps.move rfl ?_
                exact SOps.nil (by first | rfl | simp_all)
              refine OpsOk.cons (fun rest => ?_) ?_
              · refine SOps.move rfl ?_
                exact SOps.nil (by first | rfl | simp_all)
              refine OpsOk.cons (fun rest => ?_) ?_
              · refine SOps.sliceT (n1 := 0) (i) sliceB_35_21_1 rfl rfl (by first | omega | (simp only [lenB]; omega)) (by first | omega | (simp only [lenB]; omega)) ?_
                exact SOps.nil (by first | rfl | simp_all)
              refine OpsOk.cons (fun rest => ?_) ?_
              · refine SOps.callP (qLeft a r _ (by simp; omega)) rfl ?_
                rintro _ rfl
                exact SOps.nil (by exact congrArg (fun b => St.put _ _ (.v (.bool b))) hq3)
              refine OpsOk.cons (fun rest => ?_) ?_
              · refine SOps.move rfl ?_
                exact SOps.nil (by first | rfl | simp_all)
              refine OpsOk.cons (fun rest => ?_) ?_
              · refine SOps.move rfl ?_
                exact SOps.nil (by first | rfl | simp_all)
              refine OpsOk.cons (fun rest => ?_) ?_
              · refine SOps.loadPinA rfl aggB_25_6 (Nat.le_of_ble_eq_true rfl) ?_
                exact SOps.nil (by first | rfl | simp_all)
              refine OpsOk.cons (fun rest => ?_) ?_
              · refine SOps.move rfl ?_
                exact SOps.nil (by first | rfl | simp_all)
              refine OpsOk.cons (fun rest => ?_) ?_
              · refine SOps.move rfl ?_
                exact SOps.nil (by first | rfl | simp_all)
              refine OpsOk.cons (fun rest => ?_) ?_
              · refine SOps.sliceD (n1 := 0) (i) sliceB_35_21_1 rfl rfl (by first | omega | (simp only [lenB]; omega)) (by first | omega | (simp only [lenB]; omega)) ?_
                exact SOps.nil (by first | rfl | simp_all)
              refine OpsOk.cons (fun rest => ?_) ?_
              · refine SOps.callP (qRight a r _ (by simp; omega)) rfl ?_
                rintro _ rfl
                exact SOps.nil (by first | rfl | simp_all)
              refine OpsOk.cons (fun rest => ?_) ?_
              · refine SOps.pick rfl rfl ?_
                exact SOps.nil (by first | rfl | simp_all)
              exact OpsOk.nil
            · show SCode _ _ _ _
              refine SCode.cond rfl (fun hc7 => ?_) (fun hc7 => ?_)
              · try simp only [decide_eq_true_eq, decide_eq_false_iff_not, Bool.not_eq_true', Bool.not_eq_false', beq_iff_eq, bne_iff_ne, ne_eq, beq_eq_false_iff_ne, bne_eq_false_iff_eq, Int.not_lt, Int.not_le, Nat.not_lt, Nat.not_le, Int.ofNat_lt, Int.ofNat_le, Bool.not_eq_eq_eq_not, Bool.not_true, Bool.not_false] at hc7
                refine SCode.region ?_
                refine SOps.move rfl ?_
                refine SOps.move rfl ?_
                refine SOps.litF rfl sliceB_30_3_1 zeroIs_3 rfl ?_
                refine SOps.appendOwn 0 sliceB_30_3_1 elemB_3_1_8 rfl rfl rfl (by simp) SrcD.isl (by simp) (by simp [lenB] <;> (first | omega | (simp only [lenB]; omega))) (by simp <;> (first | omega | (simp only [lenB]; omega))) (fun b2 hb_2 => ?_)
                refine SOps.assign rfl ?_
                refine SOps.nil ?_
                show SCode _ _ _ _
                refine SCode.region ?_
                refine SOps.move rfl ?_
                refine SOps.addI rfl rfl (by first | omega | (simp only [lenB]; omega)) (by first | omega | (simp only [lenB]; omega)) ?_
                refine SOps.assign rfl ?_
                refine SOps.nil ?_
                first
                  | exact ⟨i + 1, out ++ [i], b1, ⟨by omega, by rw [filter_succ, if_pos (by simp_all [siteQ]), ho]⟩, by omega, St.Le.of ⟨rfl, rfl, (by show some _ = some _; simp), rfl, rfl, trivial⟩ rfl (by rw [List.map_append]; rfl)⟩
                  | exact ⟨i + 1, out ++ [i], b2, ⟨by omega, by rw [filter_succ, if_pos (by simp_all [siteQ]), ho]⟩, by omega, St.Le.of ⟨rfl, rfl, (by show some _ = some _; simp), rfl, rfl, trivial⟩ rfl (by rw [List.map_append]; rfl)⟩
                  | exact ⟨i + 1, out, k, ⟨by omega, by rw [filter_succ, if_neg (by simp_all [siteQ]), ho, List.append_nil]⟩, by omega, St.Le.of ⟨rfl, rfl, rfl, rfl, rfl, trivial⟩⟩
              · try simp only [decide_eq_true_eq, decide_eq_false_iff_not, Bool.not_eq_true', Bool.not_eq_false', beq_iff_eq, bne_iff_ne, ne_eq, beq_eq_false_iff_ne, bne_eq_false_iff_eq, Int.not_lt, Int.not_le, Nat.not_lt, Nat.not_le, Int.ofNat_lt, Int.ofNat_le, Bool.not_eq_eq_eq_not, Bool.not_true, Bool.not_false] at hc7
                refine SCode.skip ?_
                show SCode _ _ _ _
                refine SCode.region ?_
                refine SOps.move rfl ?_
                refine SOps.addI rfl rfl (by first | omega | (simp only [lenB]; omega)) (by first | omega | (simp only [lenB]; omega)) ?_
                refine SOps.assign rfl ?_
                refine SOps.nil ?_
                first
                  | exact ⟨i + 1, out ++ [i], b1, ⟨by omega, by rw [filter_succ, if_pos (by simp_all [siteQ]), ho]⟩, by omega, St.Le.of ⟨rfl, rfl, (by show some _ = some _; simp), rfl, rfl, trivial⟩ rfl (by rw [List.map_append]; rfl)⟩
                  | exact ⟨i + 1, out ++ [i], b2, ⟨by omega, by rw [filter_succ, if_pos (by simp_all [siteQ]), ho]⟩, by omega, St.Le.of ⟨rfl, rfl, (by show some _ = some _; simp), rfl, rfl, trivial⟩ rfl (by rw [List.map_append]; rfl)⟩
                  | exact ⟨i + 1, out, k, ⟨by omega, by rw [filter_succ, if_neg (by simp_all [siteQ]), ho, List.append_nil]⟩, by omega, St.Le.of ⟨rfl, rfl, rfl, rfl, rfl, trivial⟩⟩
      · try simp only [decide_eq_true_eq, decide_eq_false_iff_not, Bool.not_eq_true', Bool.not_eq_false', beq_iff_eq, bne_iff_ne, ne_eq, beq_eq_false_iff_ne, bne_eq_false_iff_eq, Int.not_lt, Int.not_le, Nat.not_lt, Nat.not_le, Int.ofNat_lt, Int.ofNat_le, Bool.not_eq_eq_eq_not, Bool.not_true, Bool.not_false] at hc3
        refine SCode.exit ?_
        show SCode _ _ _ _
        refine SCode.seqR ?_
        refine SOps.freezeS (t := 7) 0 rfl rfl rfl (by simp) ?_
        obtain rfl : i = (runes s).length + 1 := by omega
        refine SOps.move rfl ?_
        refine SOps.assign rfl ?_
        refine SOps.nil ?_
        refine SCode.drop ?_
        refine SCode.ret ?_
        exact ⟨_, Res.one (.tmp rfl), by first | (rw [sitesQ, if_neg (by simp_all [okR])]; rfl) | (rw [sitesQ, if_pos hok, ← ho]; rfl), rfl⟩
def resF (fr : Int) (tl : List Int) : List Int → Nat → List Nat → List Int
  | [], i, ss => if ss.head? = some i then tl else []
  | c :: w, i, ss => (if ss.head? = some i then tl else []) ++ ((if ss.head? = some i ∧ fr ≠ 0 then [] else [c]) ++ resF fr tl w (i + 1) (if ss.head? = some i then ss.tail else ss))
theorem resF_nil (fr : Int) (tl : List Int) (i : Nat) (ss : List Nat) : resF fr tl [] i ss = if ss.head? = some i then tl else [] := rfl
theorem resF_cons (fr : Int) (tl : List Int) (c : Int) (w : List Int) (i : Nat) (ss : List Nat) : resF fr tl (c :: w) i ss = (if ss.head? = some i then tl else []) ++ ((if ss.head? = some i ∧ fr ≠ 0 then [] else [c]) ++ resF fr tl w (i + 1) (if ss.head? = some i then ss.tail else ss)) := rfl
theorem resF_len (fr : Int) (tl : List Int) : ∀ (w : List Int) (i : Nat) (ss : List Nat), (resF fr tl w i ss).length ≤ (w.length + 1) * (tl.length + 1)
  | [], i, ss => by rw [resF_nil]; split <;> simp
  | c :: w, i, ss => by
    have := resF_len fr tl w (i + 1) (if ss.head? = some i then ss.tail else ss)
    rw [resF_cons, List.length_append, List.length_append, List.length_cons, Nat.add_mul (w.length + 1) 1]
    have h1 : (if ss.head? = some i then tl else []).length ≤ tl.length := by split <;> simp
    have h2 : (if ss.head? = some i ∧ fr ≠ 0 then [] else [c]).length ≤ 1 := by split <;> simp
    omega
theorem rResult (r : Rule) (l : List Nat) (s : ByteArray) (h4 : (runes r.«to»).length ≤ 4) (h40 : (runes s).length ≤ 40) : GCall Tryd.prog E 42 [.agg (encR r), DNats l, .v (.string s)] [] (fun d H => d = .v (.string (encs (resF r.fr (runes r.«to») (runes s) 0 l))) ∧ H = []) := by
  refine GCall.body (C := ⟨Tryd.prog, E, true⟩) Tryd.func42 rfl (fun _ => rfl) (by kernel_rfl) rfl ?_
  refine SCode.seqR ?_
  refine SOps.boxAM rfl rfl ?_
  refine SOps.assign rfl ?_
  refine SOps.nil ?_
  refine SCode.seqR ?_
  refine SOps.move rfl ?_
  refine SOps.runesF rfl rfl strB_9 sliceB_35_21_1 intB_21_i32 ?_
  refine SOps.assign rfl ?_
  refine SOps.nil ?_
  refine SCode.seqR ?_
  refine SOps.fieldPin rfl fieldB_25_1_1 ?_
  refine SOps.loadPin rfl flatB_9 ?_
  refine SOps.runesF rfl rfl strB_9 sliceB_35_21_1 intB_21_i32 ?_
  refine SOps.assign rfl ?_
  refine SOps.nil ?_
  refine SCode.seqR ?_
  refine SOps.assign rfl ?_
  refine SOps.nil ?_
  refine SCode.seq ?_
  refine SCode.seqR ?_
  refine SOps.assign rfl ?_
  refine SOps.nil ?_
  refine SCode.block ?_
  refine SCode.loop4 (fun (i : Nat) (ss : List Nat) (out : List Int) (k : Nat) => (⟨61, [(1, DNats ss), (3, .ipin (encR r)), (7, DRunes (runes s)), (8, DRunes (runes r.«to»)), (9, accD 1 k (out.map rcell)), (10, .v (.int .i64 (i : Int)))], accH 21 1 k (out.map rcell) ++ []⟩ : St)) (fun (i : Nat) (ss : List Nat) (out : List Int) (k : Nat) => out.length ≤ 5 * i ∧ ((i ≤ (runes s).length ∧ out ++ resF r.fr (runes r.«to») ((runes s).drop i) i ss = resF r.fr (runes r.«to») (runes s) 0 l) ∨ (i = (runes s).length + 1 ∧ out = resF r.fr (runes r.«to») (runes s) 0 l))) (fun (i : Nat) (ss : List Nat) (out : List Int) (k : Nat) => (runes s).length + 1 - i) (0) (l) ([]) (0) (by exact ⟨Nat.le_refl _, .inl ⟨Nat.zero_le _, rfl⟩⟩) (St.Le.of ⟨(by first | rfl | (show some _ = some _; simp)), (by first | rfl | (show some _ = some _; simp)), (by first | rfl | (show some _ = some _; simp)), (by first | rfl | (show some _ = some _; simp)), (by first | rfl | (show some _ = some _; simp)), (by first | rfl | (show some _ = some _; simp)), trivial⟩ rfl (by first | rfl | (simp))) ?_
  rintro i ss out k ⟨hol, hf⟩
  refine SCode.seq ?_
  refine SCode.seqR ?_
  refine SOps.move rfl ?_
  refine SOps.move rfl ?_
  refine SOps.lenM rfl sliceB_35_21_1 ?_
  refine SOps.bin rfl rfl rfl ?_
  refine SOps.nil ?_
  refine SCode.cond rfl (fun hc1 => ?_) (fun hc1 => ?_)
  · try simp only [decide_eq_true_eq, decide_eq_false_iff_not, Bool.not_eq_true', Bool.not_eq_false', beq_iff_eq, bne_iff_ne, ne_eq, beq_eq_false_iff_ne, bne_eq_false_iff_eq, Int.not_lt, Int.not_le, Nat.not_lt, Nat.not_le, Int.ofNat_lt, Int.ofNat_le, Bool.not_eq_eq_eq_not, Bool.not_true, Bool.not_false] at hc1
    refine SCode.skip ?_
    show SCode _ _ _ _
    refine SCode.seq ?_
    refine SCode.block ?_
    refine SCode.seqR ?_
    have hf2 := (hf.resolve_right (by omega)).2
    have hdn : i = (runes s).length → (runes s).drop i = [] := fun h => List.drop_eq_nil_of_le (by omega)
    have hdc : ∀ h : i < (runes s).length, (runes s).drop i = (runes s)[i] :: (runes s).drop (i + 1) := fun h => List.drop_eq_getElem_cons h
    refine SOps.move rfl ?_
    refine SOps.lenM rfl sliceB_30_3_1 ?_
    refine SOps.bin rfl rfl rfl ?_
    refine SOps.move rfl ?_
    refine SOps.caseB 26 rfl (fun hb2 => ?_) (fun hb2 => ?_)
    · try simp only [decide_eq_true_eq, decide_eq_false_iff_not, Bool.not_eq_true', Bool.not_eq_false', beq_iff_eq, bne_iff_ne, ne_eq, beq_eq_false_iff_ne, bne_eq_false_iff_eq, Int.not_lt, Int.not_le, Nat.not_lt, Nat.not_le, Int.ofNat_lt, Int.ofNat_le, Bool.not_eq_eq_eq_not, Bool.not_true, Bool.not_false] at hb2
      obtain ⟨s0, ss0, rfl⟩ : ∃ s0 ss0, ss = s0 :: ss0 := by cases ss with | nil => exact absurd hb2 (by simp) | cons x y => exact ⟨x, y, rfl⟩
      refine SOps.move rfl ?_
      refine SOps.indexM (0) rfl rfl sliceB_30_3_1 (by first | omega | (simp only [lenB]; omega)) (by first | omega | (simp only [lenB]; omega)) ?_
      refine SOps.loadPin rfl flatB_3 ?_
      refine SOps.move rfl ?_
      refine SOps.bin rfl rfl rfl ?_
      refine SOps.pick rfl rfl ?_
      refine SOps.assign rfl ?_
      refine SOps.nil ?_
      refine SCode.seq ?_
      refine SCode.seqR ?_
      refine SOps.move rfl ?_
      refine SOps.nil ?_
      refine SCode.cond rfl (fun hc3 => ?_) (fun hc3 => ?_)
      · try simp only [decide_eq_true_eq, decide_eq_false_iff_not, Bool.not_eq_true', Bool.not_eq_false', beq_iff_eq, bne_iff_ne, ne_eq, beq_eq_false_iff_ne, bne_eq_false_iff_eq, Int.not_lt, Int.not_le, Nat.not_lt, Nat.not_le, Int.ofNat_lt, Int.ofNat_le, Bool.not_eq_eq_eq_not, Bool.not_true, Bool.not_false] at hc3
        have hs0 : s0 = i := Int.ofNat.inj hc3
        refine SCode.seqR ?_
        refine SOps.move rfl ?_
        refine SOps.sliceD (n1 := 0) (1) sliceB_30_3_1 rfl rfl (by first | omega | (simp only [lenB]; omega)) (by first | omega | (simp only [lenB]; omega)) ?_
        refine SOps.assign rfl ?_
        refine SOps.nil ?_
        refine SCode.region ?_
        refine SOps.move rfl ?_
        refine SOps.move rfl ?_
        refine SOps.appendAccE [] [] sliceB_35_21_1 elemB_21_1_4 rfl rfl rfl SrcD.isl (by simp [lenB]; omega) (by simp; omega) (fun kA => ?_)
        refine SOps.assign rfl ?_
        refine SOps.nil ?_
        show SCode _ _ _ _
        refine SCode.seqR ?_
        refine SOps.move rfl ?_
        refine SOps.move rfl ?_
        refine SOps.lenM rfl sliceB_35_21_1 ?_
        refine SOps.bin rfl rfl rfl ?_
        refine SOps.move rfl ?_
        refine SOps.caseB 43 rfl (fun hb4 => ?_) (fun hb4 => ?_)
        · try simp only [decide_eq_true_eq, decide_eq_false_iff_not, Bool.not_eq_true', Bool.not_eq_false', beq_iff_eq, bne_iff_ne, ne_eq, beq_eq_false_iff_ne, bne_eq_false_iff_eq, Int.not_lt, Int.not_le, Nat.not_lt, Nat.not_le, Int.ofNat_lt, Int.ofNat_le, Bool.not_eq_eq_eq_not, Bool.not_true, Bool.not_false] at hb4
          refine SOps.move rfl ?_
          refine SOps.un rfl rfl ?_
          refine SOps.move rfl ?_
          refine SOps.caseB 46 rfl (fun hb5 => ?_) (fun hb5 => ?_)
          · try simp only [decide_eq_true_eq, decide_eq_false_iff_not, Bool.not_eq_true', Bool.not_eq_false', beq_iff_eq, bne_iff_ne, ne_eq, beq_eq_false_iff_ne, bne_eq_false_iff_eq, Int.not_lt, Int.not_le, Nat.not_lt, Nat.not_le, Int.ofNat_lt, Int.ofNat_le, Bool.not_eq_eq_eq_not, Bool.not_true, Bool.not_false] at hb5
            refine SOps.skip rfl ?_
            refine SOps.skip rfl ?_
            refine SOps.skip rfl ?_
            refine SOps.pick rfl rfl ?_
            refine SOps.pick rfl rfl ?_
            refine SOps.nil ?_
            refine SCode.cond rfl (fun _ => ?_) (fun h => by cases h)
            refine SCode.region ?_
            refine SOps.move rfl ?_
            refine SOps.move rfl ?_
            refine SOps.move rfl ?_
            refine SOps.indexM (i) rfl rfl sliceB_35_21_1 (by first | omega | (simp only [lenB]; omega)) (by first | omega | (simp only [lenB]; omega)) ?_
            refine SOps.loadPin rfl flatB_21 ?_
            refine SOps.litF rfl sliceB_35_21_1 zeroIs_21 rfl ?_
            refine SOps.appendAcc [] [] sliceB_35_21_1 elemB_21_1_4 rfl rfl rfl SrcD.isl (by simp) (by simp [lenB]; omega) (by simp; omega) (fun kB => ?_)
            refine SOps.assign rfl ?_
            refine SOps.nil ?_
            show SCode _ _ _ _
            refine SCode.region ?_
            refine SOps.move rfl ?_
            refine SOps.addI rfl rfl (by first | omega | (simp only [lenB]; omega)) (by first | omega | (simp only [lenB]; omega)) ?_
            refine SOps.assign rfl ?_
            refine SOps.nil ?_
            first
              | (exfalso; simp only [List.getElem_cons_zero] at *; omega)
              | exact ⟨i + 1, ss0, out ++ runes r.«to» ++ [(runes s)[i]], ((fun _ : Nat => kB) kA), ⟨by first | omega | (simp; omega), by cases Nat.lt_or_ge i (runes s).length with | inl hlt => (first | (exfalso; omega) | (left; refine ⟨by omega, ?_⟩; rw [← hf2, hdc hlt, resF_cons]; clear hf2 hf hdc hdn; simp_all; done)) | inr hge => (first | (exfalso; omega) | (right; refine ⟨by omega, ?_⟩; rw [← hf2, hdn (by omega), resF_nil]; clear hf2 hf hdc hdn; simp_all; done))⟩, by omega, St.Le.of ⟨rfl, rfl, rfl, rfl, (by show some _ = some _; first | (simp only [List.map_append, List.append_assoc]; done) | (simp only [List.map_append, List.append_assoc]; rfl)), rfl, trivial⟩ rfl (by first | (simp only [List.map_append, List.append_assoc]; done) | (simp only [List.map_append, List.append_assoc]; rfl))⟩
              | exact ⟨i + 1, (s0 :: ss0), out ++ runes r.«to» ++ [(runes s)[i]], ((fun _ : Nat => kB) kA), ⟨by first | omega | (simp; omega), by cases Nat.lt_or_ge i (runes s).length with | inl hlt => (first | (exfalso; omega) | (left; refine ⟨by omega, ?_⟩; rw [← hf2, hdc hlt, resF_cons]; clear hf2 hf hdc hdn; simp_all; done)) | inr hge => (first | (exfalso; omega) | (right; refine ⟨by omega, ?_⟩; rw [← hf2, hdn (by omega), resF_nil]; clear hf2 hf hdc hdn; simp_all; done))⟩, by omega, St.Le.of ⟨rfl, rfl, rfl, rfl, (by show some _ = some _; first | (simp only [List.map_append, List.append_assoc]; done) | (simp only [List.map_append, List.append_assoc]; rfl)), rfl, trivial⟩ rfl (by first | (simp only [List.map_append, List.append_assoc]; done) | (simp only [List.map_append, List.append_assoc]; rfl))⟩
              | exact ⟨i + 1, [], out ++ runes r.«to» ++ [(runes s)[i]], ((fun _ : Nat => kB) kA), ⟨by first | omega | (simp; omega), by cases Nat.lt_or_ge i (runes s).length with | inl hlt => (first | (exfalso; omega) | (left; refine ⟨by omega, ?_⟩; rw [← hf2, hdc hlt, resF_cons]; clear hf2 hf hdc hdn; simp_all; done)) | inr hge => (first | (exfalso; omega) | (right; refine ⟨by omega, ?_⟩; rw [← hf2, hdn (by omega), resF_nil]; clear hf2 hf hdc hdn; simp_all; done))⟩, by omega, St.Le.of ⟨rfl, rfl, rfl, rfl, (by show some _ = some _; first | (simp only [List.map_append, List.append_assoc]; done) | (simp only [List.map_append, List.append_assoc]; rfl)), rfl, trivial⟩ rfl (by first | (simp only [List.map_append, List.append_assoc]; done) | (simp only [List.map_append, List.append_assoc]; rfl))⟩
              | exact ⟨i + 1, ss0, out ++ runes r.«to», kA, ⟨by first | omega | (simp; omega), by cases Nat.lt_or_ge i (runes s).length with | inl hlt => (first | (exfalso; omega) | (left; refine ⟨by omega, ?_⟩; rw [← hf2, hdc hlt, resF_cons]; clear hf2 hf hdc hdn; simp_all; done)) | inr hge => (first | (exfalso; omega) | (right; refine ⟨by omega, ?_⟩; rw [← hf2, hdn (by omega), resF_nil]; clear hf2 hf hdc hdn; simp_all; done))⟩, by omega, St.Le.of ⟨rfl, rfl, rfl, rfl, (by show some _ = some _; first | (simp only [List.map_append, List.append_assoc]; done) | (simp only [List.map_append, List.append_assoc]; rfl)), rfl, trivial⟩ rfl (by first | (simp only [List.map_append, List.append_assoc]; done) | (simp only [List.map_append, List.append_assoc]; rfl))⟩
              | exact ⟨i + 1, (s0 :: ss0), out ++ runes r.«to», kA, ⟨by first | omega | (simp; omega), by cases Nat.lt_or_ge i (runes s).length with | inl hlt => (first | (exfalso; omega) | (left; refine ⟨by omega, ?_⟩; rw [← hf2, hdc hlt, resF_cons]; clear hf2 hf hdc hdn; simp_all; done)) | inr hge => (first | (exfalso; omega) | (right; refine ⟨by omega, ?_⟩; rw [← hf2, hdn (by omega), resF_nil]; clear hf2 hf hdc hdn; simp_all; done))⟩, by omega, St.Le.of ⟨rfl, rfl, rfl, rfl, (by show some _ = some _; first | (simp only [List.map_append, List.append_assoc]; done) | (simp only [List.map_append, List.append_assoc]; rfl)), rfl, trivial⟩ rfl (by first | (simp only [List.map_append, List.append_assoc]; done) | (simp only [List.map_append, List.append_assoc]; rfl))⟩
              | exact ⟨i + 1, [], out ++ runes r.«to», kA, ⟨by first | omega | (simp; omega), by cases Nat.lt_or_ge i (runes s).length with | inl hlt => (first | (exfalso; omega) | (left; refine ⟨by omega, ?_⟩; rw [← hf2, hdc hlt, resF_cons]; clear hf2 hf hdc hdn; simp_all; done)) | inr hge => (first | (exfalso; omega) | (right; refine ⟨by omega, ?_⟩; rw [← hf2, hdn (by omega), resF_nil]; clear hf2 hf hdc hdn; simp_all; done))⟩, by omega, St.Le.of ⟨rfl, rfl, rfl, rfl, (by show some _ = some _; first | (simp only [List.map_append, List.append_assoc]; done) | (simp only [List.map_append, List.append_assoc]; rfl)), rfl, trivial⟩ rfl (by first | (simp only [List.map_append, List.append_assoc]; done) | (simp only [List.map_append, List.append_assoc]; rfl))⟩
              | exact ⟨i + 1, ss0, out ++ [(runes s)[i]], kB, ⟨by first | omega | (simp; omega), by cases Nat.lt_or_ge i (runes s).length with | inl hlt => (first | (exfalso; omega) | (left; refine ⟨by omega, ?_⟩; rw [← hf2, hdc hlt, resF_cons]; clear hf2 hf hdc hdn; simp_all; done)) | inr hge => (first | (exfalso; omega) | (right; refine ⟨by omega, ?_⟩; rw [← hf2, hdn (by omega), resF_nil]; clear hf2 hf hdc hdn; simp_all; done))⟩, by omega, St.Le.of ⟨rfl, rfl, rfl, rfl, (by show some _ = some _; first | (simp only [List.map_append, List.append_assoc]; done) | (simp only [List.map_append, List.append_assoc]; rfl)), rfl, trivial⟩ rfl (by first | (simp only [List.map_append, List.append_assoc]; done) | (simp only [List.map_append, List.append_assoc]; rfl))⟩
              | exact ⟨i + 1, (s0 :: ss0), out ++ [(runes s)[i]], kB, ⟨by first | omega | (simp; omega), by cases Nat.lt_or_ge i (runes s).length with | inl hlt => (first | (exfalso; omega) | (left; refine ⟨by omega, ?_⟩; rw [← hf2, hdc hlt, resF_cons]; clear hf2 hf hdc hdn; simp_all; done)) | inr hge => (first | (exfalso; omega) | (right; refine ⟨by omega, ?_⟩; rw [← hf2, hdn (by omega), resF_nil]; clear hf2 hf hdc hdn; simp_all; done))⟩, by omega, St.Le.of ⟨rfl, rfl, rfl, rfl, (by show some _ = some _; first | (simp only [List.map_append, List.append_assoc]; done) | (simp only [List.map_append, List.append_assoc]; rfl)), rfl, trivial⟩ rfl (by first | (simp only [List.map_append, List.append_assoc]; done) | (simp only [List.map_append, List.append_assoc]; rfl))⟩
              | exact ⟨i + 1, [], out ++ [(runes s)[i]], kB, ⟨by first | omega | (simp; omega), by cases Nat.lt_or_ge i (runes s).length with | inl hlt => (first | (exfalso; omega) | (left; refine ⟨by omega, ?_⟩; rw [← hf2, hdc hlt, resF_cons]; clear hf2 hf hdc hdn; simp_all; done)) | inr hge => (first | (exfalso; omega) | (right; refine ⟨by omega, ?_⟩; rw [← hf2, hdn (by omega), resF_nil]; clear hf2 hf hdc hdn; simp_all; done))⟩, by omega, St.Le.of ⟨rfl, rfl, rfl, rfl, (by show some _ = some _; first | (simp only [List.map_append, List.append_assoc]; done) | (simp only [List.map_append, List.append_assoc]; rfl)), rfl, trivial⟩ rfl (by first | (simp only [List.map_append, List.append_assoc]; done) | (simp only [List.map_append, List.append_assoc]; rfl))⟩
              | exact ⟨i + 1, ss0, out, k, ⟨by first | omega | (simp; omega), by cases Nat.lt_or_ge i (runes s).length with | inl hlt => (first | (exfalso; omega) | (left; refine ⟨by omega, ?_⟩; rw [← hf2, hdc hlt, resF_cons]; clear hf2 hf hdc hdn; simp_all; done)) | inr hge => (first | (exfalso; omega) | (right; refine ⟨by omega, ?_⟩; rw [← hf2, hdn (by omega), resF_nil]; clear hf2 hf hdc hdn; simp_all; done))⟩, by omega, St.Le.of ⟨rfl, rfl, rfl, rfl, rfl, rfl, trivial⟩ rfl (rfl)⟩
              | exact ⟨i + 1, (s0 :: ss0), out, k, ⟨by first | omega | (simp; omega), by cases Nat.lt_or_ge i (runes s).length with | inl hlt => (first | (exfalso; omega) | (left; refine ⟨by omega, ?_⟩; rw [← hf2, hdc hlt, resF_cons]; clear hf2 hf hdc hdn; simp_all; done)) | inr hge => (first | (exfalso; omega) | (right; refine ⟨by omega, ?_⟩; rw [← hf2, hdn (by omega), resF_nil]; clear hf2 hf hdc hdn; simp_all; done))⟩, by omega, St.Le.of ⟨rfl, rfl, rfl, rfl, rfl, rfl, trivial⟩ rfl (rfl)⟩
              | exact ⟨i + 1, [], out, k, ⟨by first | omega | (simp; omega), by cases Nat.lt_or_ge i (runes s).length with | inl hlt => (first | (exfalso; omega) | (left; refine ⟨by omega, ?_⟩; rw [← hf2, hdc hlt, resF_cons]; clear hf2 hf hdc hdn; simp_all; done)) | inr hge => (first | (exfalso; omega) | (right; refine ⟨by omega, ?_⟩; rw [← hf2, hdn (by omega), resF_nil]; clear hf2 hf hdc hdn; simp_all; done))⟩, by omega, St.Le.of ⟨rfl, rfl, rfl, rfl, rfl, rfl, trivial⟩ rfl (rfl)⟩
          · try simp only [decide_eq_true_eq, decide_eq_false_iff_not, Bool.not_eq_true', Bool.not_eq_false', beq_iff_eq, bne_iff_ne, ne_eq, beq_eq_false_iff_ne, bne_eq_false_iff_eq, Int.not_lt, Int.not_le, Nat.not_lt, Nat.not_le, Int.ofNat_lt, Int.ofNat_le, Bool.not_eq_eq_eq_not, Bool.not_true, Bool.not_false] at hb5
            refine SOps.fieldPin rfl fieldB_25_0_0 ?_
            refine SOps.loadPin rfl flatB_21 ?_
            refine SOps.bin rfl rfl rfl ?_
            refine SOps.pick rfl rfl ?_
            refine SOps.pick rfl rfl ?_
            refine SOps.nil ?_
            refine SCode.cond rfl (fun hc6 => ?_) (fun hc6 => ?_)
            · try simp only [decide_eq_true_eq, decide_eq_false_iff_not, Bool.not_eq_true', Bool.not_eq_false', beq_iff_eq, bne_iff_ne, ne_eq, beq_eq_false_iff_ne, bne_eq_false_iff_eq, Int.not_lt, Int.not_le, Nat.not_lt, Nat.not_le, Int.ofNat_lt, Int.ofNat_le, Bool.not_eq_eq_eq_not, Bool.not_true, Bool.not_false] at hc6
              refine SCode.region ?_
              refine SOps.move rfl ?_
              refine SOps.move rfl ?_
              refine SOps.move rfl ?_
              refine SOps.indexM (i) rfl rfl sliceB_35_21_1 (by first | omega | (simp only [lenB]; omega)) (by first | omega | (simp only [lenB]; omega)) ?_
              refine SOps.loadPin rfl flatB_21 ?_
              refine SOps.litF rfl sliceB_35_21_1 zeroIs_21 rfl ?_
              refine SOps.appendAcc [] [] sliceB_35_21_1 elemB_21_1_4 rfl rfl rfl SrcD.isl (by simp) (by simp [lenB]; omega) (by simp; omega) (fun kB => ?_)
              refine SOps.assign rfl ?_
              refine SOps.nil ?_
              show SCode _ _ _ _
              refine SCode.region ?_
              refine SOps.move rfl ?_
              refine SOps.addI rfl rfl (by first | omega | (simp only [lenB]; omega)) (by first | omega | (simp only [lenB]; omega)) ?_
              refine SOps.assign rfl ?_
              refine SOps.nil ?_
              first
                | (exfalso; simp only [List.getElem_cons_zero] at *; omega)
                | exact ⟨i + 1, ss0, out ++ runes r.«to» ++ [(runes s)[i]], ((fun _ : Nat => kB) kA), ⟨by first | omega | (simp; omega), by cases Nat.lt_or_ge i (runes s).length with | inl hlt => (first | (exfalso; omega) | (left; refine ⟨by omega, ?_⟩; rw [← hf2, hdc hlt, resF_cons]; clear hf2 hf hdc hdn; simp_all; done)) | inr hge => (first | (exfalso; omega) | (right; refine ⟨by omega, ?_⟩; rw [← hf2, hdn (by omega), resF_nil]; clear hf2 hf hdc hdn; simp_all; done))⟩, by omega, St.Le.of ⟨rfl, rfl, rfl, rfl, (by show some _ = some _; first | (simp only [List.map_append, List.append_assoc]; done) | (simp only [List.map_append, List.append_assoc]; rfl)), rfl, trivial⟩ rfl (by first | (simp only [List.map_append, List.append_assoc]; done) | (simp only [List.map_append, List.append_assoc]; rfl))⟩
                | exact ⟨i + 1, (s0 :: ss0), out ++ runes r.«to» ++ [(runes s)[i]], ((fun _ : Nat => kB) kA), ⟨by first | omega | (simp; omega), by cases Nat.lt_or_ge i (runes s).length with | inl hlt => (first | (exfalso; omega) | (left; refine ⟨by omega, ?_⟩; rw [← hf2, hdc hlt, resF_cons]; clear hf2 hf hdc hdn; simp_all; done)) | inr hge => (first | (exfalso; omega) | (right; refine ⟨by omega, ?_⟩; rw [← hf2, hdn (by omega), resF_nil]; clear hf2 hf hdc hdn; simp_all; done))⟩, by omega, St.Le.of ⟨rfl, rfl, rfl, rfl, (by show some _ = some _; first | (simp only [List.map_append, List.append_assoc]; done) | (simp only [List.map_append, List.append_assoc]; rfl)), rfl, trivial⟩ rfl (by first | (simp only [List.map_append, List.append_assoc]; done) | (simp only [List.map_append, List.append_assoc]; rfl))⟩
                | exact ⟨i + 1, [], out ++ runes r.«to» ++ [(runes s)[i]], ((fun _ : Nat => kB) kA), ⟨by first | omega | (simp; omega), by cases Nat.lt_or_ge i (runes s).length with | inl hlt => (first | (exfalso; omega) | (left; refine ⟨by omega, ?_⟩; rw [← hf2, hdc hlt, resF_cons]; clear hf2 hf hdc hdn; simp_all; done)) | inr hge => (first | (exfalso; omega) | (right; refine ⟨by omega, ?_⟩; rw [← hf2, hdn (by omega), resF_nil]; clear hf2 hf hdc hdn; simp_all; done))⟩, by omega, St.Le.of ⟨rfl, rfl, rfl, rfl, (by show some _ = some _; first | (simp only [List.map_append, List.append_assoc]; done) | (simp only [List.map_append, List.append_assoc]; rfl)), rfl, trivial⟩ rfl (by first | (simp only [List.map_append, List.append_assoc]; done) | (simp only [List.map_append, List.append_assoc]; rfl))⟩
                | exact ⟨i + 1, ss0, out ++ runes r.«to», kA, ⟨by first | omega | (simp; omega), by cases Nat.lt_or_ge i (runes s).length with | inl hlt => (first | (exfalso; omega) | (left; refine ⟨by omega, ?_⟩; rw [← hf2, hdc hlt, resF_cons]; clear hf2 hf hdc hdn; simp_all; done)) | inr hge => (first | (exfalso; omega) | (right; refine ⟨by omega, ?_⟩; rw [← hf2, hdn (by omega), resF_nil]; clear hf2 hf hdc hdn; simp_all; done))⟩, by omega, St.Le.of ⟨rfl, rfl, rfl, rfl, (by show some _ = some _; first | (simp only [List.map_append, List.append_assoc]; done) | (simp only [List.map_append, List.append_assoc]; rfl)), rfl, trivial⟩ rfl (by first | (simp only [List.map_append, List.append_assoc]; done) | (simp only [List.map_append, List.append_assoc]; rfl))⟩
                | exact ⟨i + 1, (s0 :: ss0), out ++ runes r.«to», kA, ⟨by first | omega | (simp; omega), by cases Nat.lt_or_ge i (runes s).length with | inl hlt => (first | (exfalso; omega) | (left; refine ⟨by omega, ?_⟩; rw [← hf2, hdc hlt, resF_cons]; clear hf2 hf hdc hdn; simp_all; done)) | inr hge => (first | (exfalso; omega) | (right; refine ⟨by omega, ?_⟩; rw [← hf2, hdn (by omega), resF_nil]; clear hf2 hf hdc hdn; simp_all; done))⟩, by omega, St.Le.of ⟨rfl, rfl, rfl, rfl, (by show some _ = some _; first | (simp only [List.map_append, List.append_assoc]; done) | (simp only [List.map_append, List.append_assoc]; rfl)), rfl, trivial⟩ rfl (by first | (simp only [List.map_append, List.append_assoc]; done) | (simp only [List.map_append, List.append_assoc]; rfl))⟩
                | exact ⟨i + 1, [], out ++ runes r.«to», kA, ⟨by first | omega | (simp; omega), by cases Nat.lt_or_ge i (runes s).length with | inl hlt => (first | (exfalso; omega) | (left; refine ⟨by omega, ?_⟩; rw [← hf2, hdc hlt, resF_cons]; clear hf2 hf hdc hdn; simp_all; done)) | inr hge => (first | (exfalso; omega) | (right; refine ⟨by omega, ?_⟩; rw [← hf2, hdn (by omega), resF_nil]; clear hf2 hf hdc hdn; simp_all; done))⟩, by omega, St.Le.of ⟨rfl, rfl, rfl, rfl, (by show some _ = some _; first | (simp only [List.map_append, List.append_assoc]; done) | (simp only [List.map_append, List.append_assoc]; rfl)), rfl, trivial⟩ rfl (by first | (simp only [List.map_append, List.append_assoc]; done) | (simp only [List.map_append, List.append_assoc]; rfl))⟩
                | exact ⟨i + 1, ss0, out ++ [(runes s)[i]], kB, ⟨by first | omega | (simp; omega), by cases Nat.lt_or_ge i (runes s).length with | inl hlt => (first | (exfalso; omega) | (left; refine ⟨by omega, ?_⟩; rw [← hf2, hdc hlt, resF_cons]; clear hf2 hf hdc hdn; simp_all; done)) | inr hge => (first | (exfalso; omega) | (right; refine ⟨by omega, ?_⟩; rw [← hf2, hdn (by omega), resF_nil]; clear hf2 hf hdc hdn; simp_all; done))⟩, by omega, St.Le.of ⟨rfl, rfl, rfl, rfl, (by show some _ = some _; first | (simp only [List.map_append, List.append_assoc]; done) | (simp only [List.map_append, List.append_assoc]; rfl)), rfl, trivial⟩ rfl (by first | (simp only [List.map_append, List.append_assoc]; done) | (simp only [List.map_append, List.append_assoc]; rfl))⟩
                | exact ⟨i + 1, (s0 :: ss0), out ++ [(runes s)[i]], kB, ⟨by first | omega | (simp; omega), by cases Nat.lt_or_ge i (runes s).length with | inl hlt => (first | (exfalso; omega) | (left; refine ⟨by omega, ?_⟩; rw [← hf2, hdc hlt, resF_cons]; clear hf2 hf hdc hdn; simp_all; done)) | inr hge => (first | (exfalso; omega) | (right; refine ⟨by omega, ?_⟩; rw [← hf2, hdn (by omega), resF_nil]; clear hf2 hf hdc hdn; simp_all; done))⟩, by omega, St.Le.of ⟨rfl, rfl, rfl, rfl, (by show some _ = some _; first | (simp only [List.map_append, List.append_assoc]; done) | (simp only [List.map_append, List.append_assoc]; rfl)), rfl, trivial⟩ rfl (by first | (simp only [List.map_append, List.append_assoc]; done) | (simp only [List.map_append, List.append_assoc]; rfl))⟩
                | exact ⟨i + 1, [], out ++ [(runes s)[i]], kB, ⟨by first | omega | (simp; omega), by cases Nat.lt_or_ge i (runes s).length with | inl hlt => (first | (exfalso; omega) | (left; refine ⟨by omega, ?_⟩; rw [← hf2, hdc hlt, resF_cons]; clear hf2 hf hdc hdn; simp_all; done)) | inr hge => (first | (exfalso; omega) | (right; refine ⟨by omega, ?_⟩; rw [← hf2, hdn (by omega), resF_nil]; clear hf2 hf hdc hdn; simp_all; done))⟩, by omega, St.Le.of ⟨rfl, rfl, rfl, rfl, (by show some _ = some _; first | (simp only [List.map_append, List.append_assoc]; done) | (simp only [List.map_append, List.append_assoc]; rfl)), rfl, trivial⟩ rfl (by first | (simp only [List.map_append, List.append_assoc]; done) | (simp only [List.map_append, List.append_assoc]; rfl))⟩
                | exact ⟨i + 1, ss0, out, k, ⟨by first | omega | (simp; omega), by cases Nat.lt_or_ge i (runes s).length with | inl hlt => (first | (exfalso; omega) | (left; refine ⟨by omega, ?_⟩; rw [← hf2, hdc hlt, resF_cons]; clear hf2 hf hdc hdn; simp_all; done)) | inr hge => (first | (exfalso; omega) | (right; refine ⟨by omega, ?_⟩; rw [← hf2, hdn (by omega), resF_nil]; clear hf2 hf hdc hdn; simp_all; done))⟩, by omega, St.Le.of ⟨rfl, rfl, rfl, rfl, rfl, rfl, trivial⟩ rfl (rfl)⟩
                | exact ⟨i + 1, (s0 :: ss0), out, k, ⟨by first | omega | (simp; omega), by cases Nat.lt_or_ge i (runes s).length with | inl hlt => (first | (exfalso; omega) | (left; refine ⟨by omega, ?_⟩; rw [← hf2, hdc hlt, resF_cons]; clear hf2 hf hdc hdn; simp_all; done)) | inr hge => (first | (exfalso; omega) | (right; refine ⟨by omega, ?_⟩; rw [← hf2, hdn (by omega), resF_nil]; clear hf2 hf hdc hdn; simp_all; done))⟩, by omega, St.Le.of ⟨rfl, rfl, rfl, rfl, rfl, rfl, trivial⟩ rfl (rfl)⟩
                | exact ⟨i + 1, [], out, k, ⟨by first | omega | (simp; omega), by cases Nat.lt_or_ge i (runes s).length with | inl hlt => (first | (exfalso; omega) | (left; refine ⟨by omega, ?_⟩; rw [← hf2, hdc hlt, resF_cons]; clear hf2 hf hdc hdn; simp_all; done)) | inr hge => (first | (exfalso; omega) | (right; refine ⟨by omega, ?_⟩; rw [← hf2, hdn (by omega), resF_nil]; clear hf2 hf hdc hdn; simp_all; done))⟩, by omega, St.Le.of ⟨rfl, rfl, rfl, rfl, rfl, rfl, trivial⟩ rfl (rfl)⟩
            · try simp only [decide_eq_true_eq, decide_eq_false_iff_not, Bool.not_eq_true', Bool.not_eq_false', beq_iff_eq, bne_iff_ne, ne_eq, beq_eq_false_iff_ne, bne_eq_false_iff_eq, Int.not_lt, Int.not_le, Nat.not_lt, Nat.not_le, Int.ofNat_lt, Int.ofNat_le, Bool.not_eq_eq_eq_not, Bool.not_true, Bool.not_false] at hc6
              refine SCode.skip ?_
              show SCode _ _ _ _
              refine SCode.region ?_
              refine SOps.move rfl ?_
              refine SOps.addI rfl rfl (by first | omega | (simp only [lenB]; omega)) (by first | omega | (simp only [lenB]; omega)) ?_
              refine SOps.assign rfl ?_
              refine SOps.nil ?_
              first
                | (exfalso; simp only [List.getElem_cons_zero] at *; omega)
                | exact ⟨i + 1, ss0, out ++ runes r.«to» ++ [(runes s)[i]], ((fun _ : Nat => kB) kA), ⟨by first | omega | (simp; omega), by cases Nat.lt_or_ge i (runes s).length with | inl hlt => (first | (exfalso; omega) | (left; refine ⟨by omega, ?_⟩; rw [← hf2, hdc hlt, resF_cons]; clear hf2 hf hdc hdn; simp_all; done)) | inr hge => (first | (exfalso; omega) | (right; refine ⟨by omega, ?_⟩; rw [← hf2, hdn (by omega), resF_nil]; clear hf2 hf hdc hdn; simp_all; done))⟩, by omega, St.Le.of ⟨rfl, rfl, rfl, rfl, (by show some _ = some _; first | (simp only [List.map_append, List.append_assoc]; done) | (simp only [List.map_append, List.append_assoc]; rfl)), rfl, trivial⟩ rfl (by first | (simp only [List.map_append, List.append_assoc]; done) | (simp only [List.map_append, List.append_assoc]; rfl))⟩
                | exact ⟨i + 1, (s0 :: ss0), out ++ runes r.«to» ++ [(runes s)[i]], ((fun _ : Nat => kB) kA), ⟨by first | omega | (simp; omega), by cases Nat.lt_or_ge i (runes s).length with | inl hlt => (first | (exfalso; omega) | (left; refine ⟨by omega, ?_⟩; rw [← hf2, hdc hlt, resF_cons]; clear hf2 hf hdc hdn; simp_all; done)) | inr hge => (first | (exfalso; omega) | (right; refine ⟨by omega, ?_⟩; rw [← hf2, hdn (by omega), resF_nil]; clear hf2 hf hdc hdn; simp_all; done))⟩, by omega, St.Le.of ⟨rfl, rfl, rfl, rfl, (by show some _ = some _; first | (simp only [List.map_append, List.append_assoc]; done) | (simp only [List.map_append, List.append_assoc]; rfl)), rfl, trivial⟩ rfl (by first | (simp only [List.map_append, List.append_assoc]; done) | (simp only [List.map_append, List.append_assoc]; rfl))⟩
                | exact ⟨i + 1, [], out ++ runes r.«to» ++ [(runes s)[i]], ((fun _ : Nat => kB) kA), ⟨by first | omega | (simp; omega), by cases Nat.lt_or_ge i (runes s).length with | inl hlt => (first | (exfalso; omega) | (left; refine ⟨by omega, ?_⟩; rw [← hf2, hdc hlt, resF_cons]; clear hf2 hf hdc hdn; simp_all; done)) | inr hge => (first | (exfalso; omega) | (right; refine ⟨by omega, ?_⟩; rw [← hf2, hdn (by omega), resF_nil]; clear hf2 hf hdc hdn; simp_all; done))⟩, by omega, St.Le.of ⟨rfl, rfl, rfl, rfl, (by show some _ = some _; first | (simp only [List.map_append, List.append_assoc]; done) | (simp only [List.map_append, List.append_assoc]; rfl)), rfl, trivial⟩ rfl (by first | (simp only [List.map_append, List.append_assoc]; done) | (simp only [List.map_append, List.append_assoc]; rfl))⟩
                | exact ⟨i + 1, ss0, out ++ runes r.«to», kA, ⟨by first | omega | (simp; omega), by cases Nat.lt_or_ge i (runes s).length with | inl hlt => (first | (exfalso; omega) | (left; refine ⟨by omega, ?_⟩; rw [← hf2, hdc hlt, resF_cons]; clear hf2 hf hdc hdn; simp_all; done)) | inr hge => (first | (exfalso; omega) | (right; refine ⟨by omega, ?_⟩; rw [← hf2, hdn (by omega), resF_nil]; clear hf2 hf hdc hdn; simp_all; done))⟩, by omega, St.Le.of ⟨rfl, rfl, rfl, rfl, (by show some _ = some _; first | (simp only [List.map_append, List.append_assoc]; done) | (simp only [List.map_append, List.append_assoc]; rfl)), rfl, trivial⟩ rfl (by first | (simp only [List.map_append, List.append_assoc]; done) | (simp only [List.map_append, List.append_assoc]; rfl))⟩
                | exact ⟨i + 1, (s0 :: ss0), out ++ runes r.«to», kA, ⟨by first | omega | (simp; omega), by cases Nat.lt_or_ge i (runes s).length with | inl hlt => (first | (exfalso; omega) | (left; refine ⟨by omega, ?_⟩; rw [← hf2, hdc hlt, resF_cons]; clear hf2 hf hdc hdn; simp_all; done)) | inr hge => (first | (exfalso; omega) | (right; refine ⟨by omega, ?_⟩; rw [← hf2, hdn (by omega), resF_nil]; clear hf2 hf hdc hdn; simp_all; done))⟩, by omega, St.Le.of ⟨rfl, rfl, rfl, rfl, (by show some _ = some _; first | (simp only [List.map_append, List.append_assoc]; done) | (simp only [List.map_append, List.append_assoc]; rfl)), rfl, trivial⟩ rfl (by first | (simp only [List.map_append, List.append_assoc]; done) | (simp only [List.map_append, List.append_assoc]; rfl))⟩
                | exact ⟨i + 1, [], out ++ runes r.«to», kA, ⟨by first | omega | (simp; omega), by cases Nat.lt_or_ge i (runes s).length with | inl hlt => (first | (exfalso; omega) | (left; refine ⟨by omega, ?_⟩; rw [← hf2, hdc hlt, resF_cons]; clear hf2 hf hdc hdn; simp_all; done)) | inr hge => (first | (exfalso; omega) | (right; refine ⟨by omega, ?_⟩; rw [← hf2, hdn (by omega), resF_nil]; clear hf2 hf hdc hdn; simp_all; done))⟩, by omega, St.Le.of ⟨rfl, rfl, rfl, rfl, (by show some _ = some _; first | (simp only [List.map_append, List.append_assoc]; done) | (simp only [List.map_append, List.append_assoc]; rfl)), rfl, trivial⟩ rfl (by first | (simp only [List.map_append, List.append_assoc]; done) | (simp only [List.map_append, List.append_assoc]; rfl))⟩
                | exact ⟨i + 1, ss0, out ++ [(runes s)[i]], kB, ⟨by first | omega | (simp; omega), by cases Nat.lt_or_ge i (runes s).length with | inl hlt => (first | (exfalso; omega) | (left; refine ⟨by omega, ?_⟩; rw [← hf2, hdc hlt, resF_cons]; clear hf2 hf hdc hdn; simp_all; done)) | inr hge => (first | (exfalso; omega) | (right; refine ⟨by omega, ?_⟩; rw [← hf2, hdn (by omega), resF_nil]; clear hf2 hf hdc hdn; simp_all; done))⟩, by omega, St.Le.of ⟨rfl, rfl, rfl, rfl, (by show some _ = some _; first | (simp only [List.map_append, List.append_assoc]; done) | (simp only [List.map_append, List.append_assoc]; rfl)), rfl, trivial⟩ rfl (by first | (simp only [List.map_append, List.append_assoc]; done) | (simp only [List.map_append, List.append_assoc]; rfl))⟩
                | exact ⟨i + 1, (s0 :: ss0), out ++ [(runes s)[i]], kB, ⟨by first | omega | (simp; omega), by cases Nat.lt_or_ge i (runes s).length with | inl hlt => (first | (exfalso; omega) | (left; refine ⟨by omega, ?_⟩; rw [← hf2, hdc hlt, resF_cons]; clear hf2 hf hdc hdn; simp_all; done)) | inr hge => (first | (exfalso; omega) | (right; refine ⟨by omega, ?_⟩; rw [← hf2, hdn (by omega), resF_nil]; clear hf2 hf hdc hdn; simp_all; done))⟩, by omega, St.Le.of ⟨rfl, rfl, rfl, rfl, (by show some _ = some _; first | (simp only [List.map_append, List.append_assoc]; done) | (simp only [List.map_append, List.append_assoc]; rfl)), rfl, trivial⟩ rfl (by first | (simp only [List.map_append, List.append_assoc]; done) | (simp only [List.map_append, List.append_assoc]; rfl))⟩
                | exact ⟨i + 1, [], out ++ [(runes s)[i]], kB, ⟨by first | omega | (simp; omega), by cases Nat.lt_or_ge i (runes s).length with | inl hlt => (first | (exfalso; omega) | (left; refine ⟨by omega, ?_⟩; rw [← hf2, hdc hlt, resF_cons]; clear hf2 hf hdc hdn; simp_all; done)) | inr hge => (first | (exfalso; omega) | (right; refine ⟨by omega, ?_⟩; rw [← hf2, hdn (by omega), resF_nil]; clear hf2 hf hdc hdn; simp_all; done))⟩, by omega, St.Le.of ⟨rfl, rfl, rfl, rfl, (by show some _ = some _; first | (simp only [List.map_append, List.append_assoc]; done) | (simp only [List.map_append, List.append_assoc]; rfl)), rfl, trivial⟩ rfl (by first | (simp only [List.map_append, List.append_assoc]; done) | (simp only [List.map_append, List.append_assoc]; rfl))⟩
                | exact ⟨i + 1, ss0, out, k, ⟨by first | omega | (simp; omega), by cases Nat.lt_or_ge i (runes s).length with | inl hlt => (first | (exfalso; omega) | (left; refine ⟨by omega, ?_⟩; rw [← hf2, hdc hlt, resF_cons]; clear hf2 hf hdc hdn; simp_all; done)) | inr hge => (first | (exfalso; omega) | (right; refine ⟨by omega, ?_⟩; rw [← hf2, hdn (by omega), resF_nil]; clear hf2 hf hdc hdn; simp_all; done))⟩, by omega, St.Le.of ⟨rfl, rfl, rfl, rfl, rfl, rfl, trivial⟩ rfl (rfl)⟩
                | exact ⟨i + 1, (s0 :: ss0), out, k, ⟨by first | omega | (simp; omega), by cases Nat.lt_or_ge i (runes s).length with | inl hlt => (first | (exfalso; omega) | (left; refine ⟨by omega, ?_⟩; rw [← hf2, hdc hlt, resF_cons]; clear hf2 hf hdc hdn; simp_all; done)) | inr hge => (first | (exfalso; omega) | (right; refine ⟨by omega, ?_⟩; rw [← hf2, hdn (by omega), resF_nil]; clear hf2 hf hdc hdn; simp_all; done))⟩, by omega, St.Le.of ⟨rfl, rfl, rfl, rfl, rfl, rfl, trivial⟩ rfl (rfl)⟩
                | exact ⟨i + 1, [], out, k, ⟨by first | omega | (simp; omega), by cases Nat.lt_or_ge i (runes s).length with | inl hlt => (first | (exfalso; omega) | (left; refine ⟨by omega, ?_⟩; rw [← hf2, hdc hlt, resF_cons]; clear hf2 hf hdc hdn; simp_all; done)) | inr hge => (first | (exfalso; omega) | (right; refine ⟨by omega, ?_⟩; rw [← hf2, hdn (by omega), resF_nil]; clear hf2 hf hdc hdn; simp_all; done))⟩, by omega, St.Le.of ⟨rfl, rfl, rfl, rfl, rfl, rfl, trivial⟩ rfl (rfl)⟩
        · try simp only [decide_eq_true_eq, decide_eq_false_iff_not, Bool.not_eq_true', Bool.not_eq_false', beq_iff_eq, bne_iff_ne, ne_eq, beq_eq_false_iff_ne, bne_eq_false_iff_eq, Int.not_lt, Int.not_le, Nat.not_lt, Nat.not_le, Int.ofNat_lt, Int.ofNat_le, Bool.not_eq_eq_eq_not, Bool.not_true, Bool.not_false] at hb4
          refine SOps.skip rfl ?_
          refine SOps.skip rfl ?_
          refine SOps.skip rfl ?_
          refine SOps.skip rfl ?_
          refine SOps.skip rfl ?_
          refine SOps.skip rfl ?_
          refine SOps.skip rfl ?_
          refine SOps.pick rfl rfl ?_
          refine SOps.nil ?_
          refine SCode.cond rfl (fun h => by cases h) (fun _ => ?_)
          refine SCode.skip ?_
          show SCode _ _ _ _
          refine SCode.region ?_
          refine SOps.move rfl ?_
          refine SOps.addI rfl rfl (by first | omega | (simp only [lenB]; omega)) (by first | omega | (simp only [lenB]; omega)) ?_
          refine SOps.assign rfl ?_
          refine SOps.nil ?_
          first
            | (exfalso; simp only [List.getElem_cons_zero] at *; omega)
            | exact ⟨i + 1, ss0, out ++ runes r.«to» ++ [(runes s)[i]], ((fun _ : Nat => kB) kA), ⟨by first | omega | (simp; omega), by cases Nat.lt_or_ge i (runes s).length with | inl hlt => (first | (exfalso; omega) | (left; refine ⟨by omega, ?_⟩; rw [← hf2, hdc hlt, resF_cons]; clear hf2 hf hdc hdn; simp_all; done)) | inr hge => (first | (exfalso; omega) | (right; refine ⟨by omega, ?_⟩; rw [← hf2, hdn (by omega), resF_nil]; clear hf2 hf hdc hdn; simp_all; done))⟩, by omega, St.Le.of ⟨rfl, rfl, rfl, rfl, (by show some _ = some _; first | (simp only [List.map_append, List.append_assoc]; done) | (simp only [List.map_append, List.append_assoc]; rfl)), rfl, trivial⟩ rfl (by first | (simp only [List.map_append, List.append_assoc]; done) | (simp only [List.map_append, List.append_assoc]; rfl))⟩
            | exact ⟨i + 1, (s0 :: ss0), out ++ runes r.«to» ++ [(runes s)[i]], ((fun _ : Nat => kB) kA), ⟨by first | omega | (simp; omega), by cases Nat.lt_or_ge i (runes s).length with | inl hlt => (first | (exfalso; omega) | (left; refine ⟨by omega, ?_⟩; rw [← hf2, hdc hlt, resF_cons]; clear hf2 hf hdc hdn; simp_all; done)) | inr hge => (first | (exfalso; omega) | (right; refine ⟨by omega, ?_⟩; rw [← hf2, hdn (by omega), resF_nil]; clear hf2 hf hdc hdn; simp_all; done))⟩, by omega, St.Le.of ⟨rfl, rfl, rfl, rfl, (by show some _ = some _; first | (simp only [List.map_append, List.append_assoc]; done) | (simp only [List.map_append, List.append_assoc]; rfl)), rfl, trivial⟩ rfl (by first | (simp only [List.map_append, List.append_assoc]; done) | (simp only [List.map_append, List.append_assoc]; rfl))⟩
            | exact ⟨i + 1, [], out ++ runes r.«to» ++ [(runes s)[i]], ((fun _ : Nat => kB) kA), ⟨by first | omega | (simp; omega), by cases Nat.lt_or_ge i (runes s).length with | inl hlt => (first | (exfalso; omega) | (left; refine ⟨by omega, ?_⟩; rw [← hf2, hdc hlt, resF_cons]; clear hf2 hf hdc hdn; simp_all; done)) | inr hge => (first | (exfalso; omega) | (right; refine ⟨by omega, ?_⟩; rw [← hf2, hdn (by omega), resF_nil]; clear hf2 hf hdc hdn; simp_all; done))⟩, by omega, St.Le.of ⟨rfl, rfl, rfl, rfl, (by show some _ = some _; first | (simp only [List.map_append, List.append_assoc]; done) | (simp only [List.map_append, List.append_assoc]; rfl)), rfl, trivial⟩ rfl (by first | (simp only [List.map_append, List.append_assoc]; done) | (simp only [List.map_append, List.append_assoc]; rfl))⟩
            | exact ⟨i + 1, ss0, out ++ runes r.«to», kA, ⟨by first | omega | (simp; omega), by cases Nat.lt_or_ge i (runes s).length with | inl hlt => (first | (exfalso; omega) | (left; refine ⟨by omega, ?_⟩; rw [← hf2, hdc hlt, resF_cons]; clear hf2 hf hdc hdn; simp_all; done)) | inr hge => (first | (exfalso; omega) | (right; refine ⟨by omega, ?_⟩; rw [← hf2, hdn (by omega), resF_nil]; clear hf2 hf hdc hdn; simp_all; done))⟩, by omega, St.Le.of ⟨rfl, rfl, rfl, rfl, (by show some _ = some _; first | (simp only [List.map_append, List.append_assoc]; done) | (simp only [List.map_append, List.append_assoc]; rfl)), rfl, trivial⟩ rfl (by first | (simp only [List.map_append, List.append_assoc]; done) | (simp only [List.map_append, List.append_assoc]; rfl))⟩
            | exact ⟨i + 1, (s0 :: ss0), out ++ runes r.«to», kA, ⟨by first | omega | (simp; omega), by cases Nat.lt_or_ge i (runes s).length with | inl hlt => (first | (exfalso; omega) | (left; refine ⟨by omega, ?_⟩; rw [← hf2, hdc hlt, resF_cons]; clear hf2 hf hdc hdn; simp_all; done)) | inr hge => (first | (exfalso; omega) | (right; refine ⟨by omega, ?_⟩; rw [← hf2, hdn (by omega), resF_nil]; clear hf2 hf hdc hdn; simp_all; done))⟩, by omega, St.Le.of ⟨rfl, rfl, rfl, rfl, (by show some _ = some _; first | (simp only [List.map_append, List.append_assoc]; done) | (simp only [List.map_append, List.append_assoc]; rfl)), rfl, trivial⟩ rfl (by first | (simp only [List.map_append, List.append_assoc]; done) | (simp only [List.map_append, List.append_assoc]; rfl))⟩
            | exact ⟨i + 1, [], out ++ runes r.«to», kA, ⟨by first | omega | (simp; omega), by cases Nat.lt_or_ge i (runes s).length with | inl hlt => (first | (exfalso; omega) | (left; refine ⟨by omega, ?_⟩; rw [← hf2, hdc hlt, resF_cons]; clear hf2 hf hdc hdn; simp_all; done)) | inr hge => (first | (exfalso; omega) | (right; refine ⟨by omega, ?_⟩; rw [← hf2, hdn (by omega), resF_nil]; clear hf2 hf hdc hdn; simp_all; done))⟩, by omega, St.Le.of ⟨rfl, rfl, rfl, rfl, (by show some _ = some _; first | (simp only [List.map_append, List.append_assoc]; done) | (simp only [List.map_append, List.append_assoc]; rfl)), rfl, trivial⟩ rfl (by first | (simp only [List.map_append, List.append_assoc]; done) | (simp only [List.map_append, List.append_assoc]; rfl))⟩
            | exact ⟨i + 1, ss0, out ++ [(runes s)[i]], kB, ⟨by first | omega | (simp; omega), by cases Nat.lt_or_ge i (runes s).length with | inl hlt => (first | (exfalso; omega) | (left; refine ⟨by omega, ?_⟩; rw [← hf2, hdc hlt, resF_cons]; clear hf2 hf hdc hdn; simp_all; done)) | inr hge => (first | (exfalso; omega) | (right; refine ⟨by omega, ?_⟩; rw [← hf2, hdn (by omega), resF_nil]; clear hf2 hf hdc hdn; simp_all; done))⟩, by omega, St.Le.of ⟨rfl, rfl, rfl, rfl, (by show some _ = some _; first | (simp only [List.map_append, List.append_assoc]; done) | (simp only [List.map_append, List.append_assoc]; rfl)), rfl, trivial⟩ rfl (by first | (simp only [List.map_append, List.append_assoc]; done) | (simp only [List.map_append, List.append_assoc]; rfl))⟩
            | exact ⟨i + 1, (s0 :: ss0), out ++ [(runes s)[i]], kB, ⟨by first | omega | (simp; omega), by cases Nat.lt_or_ge i (runes s).length with | inl hlt => (first | (exfalso; omega) | (left; refine ⟨by omega, ?_⟩; rw [← hf2, hdc hlt, resF_cons]; clear hf2 hf hdc hdn; simp_all; done)) | inr hge => (first | (exfalso; omega) | (right; refine ⟨by omega, ?_⟩; rw [← hf2, hdn (by omega), resF_nil]; clear hf2 hf hdc hdn; simp_all; done))⟩, by omega, St.Le.of ⟨rfl, rfl, rfl, rfl, (by show some _ = some _; first | (simp only [List.map_append, List.append_assoc]; done) | (simp only [List.map_append, List.append_assoc]; rfl)), rfl, trivial⟩ rfl (by first | (simp only [List.map_append, List.append_assoc]; done) | (simp only [List.map_append, List.append_assoc]; rfl))⟩
            | exact ⟨i + 1, [], out ++ [(runes s)[i]], kB, ⟨by first | omega | (simp; omega), by cases Nat.lt_or_ge i (runes s).length with | inl hlt => (first | (exfalso; omega) | (left; refine ⟨by omega, ?_⟩; rw [← hf2, hdc hlt, resF_cons]; clear hf2 hf hdc hdn; simp_all; done)) | inr hge => (first | (exfalso; omega) | (right; refine ⟨by omega, ?_⟩; rw [← hf2, hdn (by omega), resF_nil]; clear hf2 hf hdc hdn; simp_all; done))⟩, by omega, St.Le.of ⟨rfl, rfl, rfl, rfl, (by show some _ = some _; first | (simp only [List.map_append, List.append_assoc]; done) | (simp only [List.map_append, List.append_assoc]; rfl)), rfl, trivial⟩ rfl (by first | (simp only [List.map_append, List.append_assoc]; done) | (simp only [List.map_append, List.append_assoc]; rfl))⟩
            | exact ⟨i + 1, ss0, out, k, ⟨by first | omega | (simp; omega), by cases Nat.lt_or_ge i (runes s).length with | inl hlt => (first | (exfalso; omega) | (left; refine ⟨by omega, ?_⟩; rw [← hf2, hdc hlt, resF_cons]; clear hf2 hf hdc hdn; simp_all; done)) | inr hge => (first | (exfalso; omega) | (right; refine ⟨by omega, ?_⟩; rw [← hf2, hdn (by omega), resF_nil]; clear hf2 hf hdc hdn; simp_all; done))⟩, by omega, St.Le.of ⟨rfl, rfl, rfl, rfl, rfl, rfl, trivial⟩ rfl (rfl)⟩
            | exact ⟨i + 1, (s0 :: ss0), out, k, ⟨by first | omega | (simp; omega), by cases Nat.lt_or_ge i (runes s).length with | inl hlt => (first | (exfalso; omega) | (left; refine ⟨by omega, ?_⟩; rw [← hf2, hdc hlt, resF_cons]; clear hf2 hf hdc hdn; simp_all; done)) | inr hge => (first | (exfalso; omega) | (right; refine ⟨by omega, ?_⟩; rw [← hf2, hdn (by omega), resF_nil]; clear hf2 hf hdc hdn; simp_all; done))⟩, by omega, St.Le.of ⟨rfl, rfl, rfl, rfl, rfl, rfl, trivial⟩ rfl (rfl)⟩
            | exact ⟨i + 1, [], out, k, ⟨by first | omega | (simp; omega), by cases Nat.lt_or_ge i (runes s).length with | inl hlt => (first | (exfalso; omega) | (left; refine ⟨by omega, ?_⟩; rw [← hf2, hdc hlt, resF_cons]; clear hf2 hf hdc hdn; simp_all; done)) | inr hge => (first | (exfalso; omega) | (right; refine ⟨by omega, ?_⟩; rw [← hf2, hdn (by omega), resF_nil]; clear hf2 hf hdc hdn; simp_all; done))⟩, by omega, St.Le.of ⟨rfl, rfl, rfl, rfl, rfl, rfl, trivial⟩ rfl (rfl)⟩
      · try simp only [decide_eq_true_eq, decide_eq_false_iff_not, Bool.not_eq_true', Bool.not_eq_false', beq_iff_eq, bne_iff_ne, ne_eq, beq_eq_false_iff_ne, bne_eq_false_iff_eq, Int.not_lt, Int.not_le, Nat.not_lt, Nat.not_le, Int.ofNat_lt, Int.ofNat_le, Bool.not_eq_eq_eq_not, Bool.not_true, Bool.not_false] at hc3
        have hs0 : ¬ s0 = i := fun h => hc3 (by rw [← h]; rfl)
        refine SCode.skip ?_
        show SCode _ _ _ _
        refine SCode.seqR ?_
        refine SOps.move rfl ?_
        refine SOps.move rfl ?_
        refine SOps.lenM rfl sliceB_35_21_1 ?_
        refine SOps.bin rfl rfl rfl ?_
        refine SOps.move rfl ?_
        refine SOps.caseB 43 rfl (fun hb7 => ?_) (fun hb7 => ?_)
        · try simp only [decide_eq_true_eq, decide_eq_false_iff_not, Bool.not_eq_true', Bool.not_eq_false', beq_iff_eq, bne_iff_ne, ne_eq, beq_eq_false_iff_ne, bne_eq_false_iff_eq, Int.not_lt, Int.not_le, Nat.not_lt, Nat.not_le, Int.ofNat_lt, Int.ofNat_le, Bool.not_eq_eq_eq_not, Bool.not_true, Bool.not_false] at hb7
          refine SOps.move rfl ?_
          refine SOps.un rfl rfl ?_
          refine SOps.move rfl ?_
          refine SOps.caseB 46 rfl (fun hb8 => ?_) (fun hb8 => ?_)
          · try simp only [decide_eq_true_eq, decide_eq_false_iff_not, Bool.not_eq_true', Bool.not_eq_false', beq_iff_eq, bne_iff_ne, ne_eq, beq_eq_false_iff_ne, bne_eq_false_iff_eq, Int.not_lt, Int.not_le, Nat.not_lt, Nat.not_le, Int.ofNat_lt, Int.ofNat_le, Bool.not_eq_eq_eq_not, Bool.not_true, Bool.not_false] at hb8
            refine SOps.skip rfl ?_
            refine SOps.skip rfl ?_
            refine SOps.skip rfl ?_
            refine SOps.pick rfl rfl ?_
            refine SOps.pick rfl rfl ?_
            refine SOps.nil ?_
            refine SCode.cond rfl (fun _ => ?_) (fun h => by cases h)
            refine SCode.region ?_
            refine SOps.move rfl ?_
            refine SOps.move rfl ?_
            refine SOps.move rfl ?_
            refine SOps.indexM (i) rfl rfl sliceB_35_21_1 (by first | omega | (simp only [lenB]; omega)) (by first | omega | (simp only [lenB]; omega)) ?_
            refine SOps.loadPin rfl flatB_21 ?_
            refine SOps.litF rfl sliceB_35_21_1 zeroIs_21 rfl ?_
            refine SOps.appendAcc [] [] sliceB_35_21_1 elemB_21_1_4 rfl rfl rfl SrcD.isl (by simp) (by simp [lenB]; omega) (by simp; omega) (fun kB => ?_)
            refine SOps.assign rfl ?_
            refine SOps.nil ?_
            show SCode _ _ _ _
            refine SCode.region ?_
            refine SOps.move rfl ?_
            refine SOps.addI rfl rfl (by first | omega | (simp only [lenB]; omega)) (by first | omega | (simp only [lenB]; omega)) ?_
            refine SOps.assign rfl ?_
            refine SOps.nil ?_
            first
              | (exfalso; simp only [List.getElem_cons_zero] at *; omega)
              | exact ⟨i + 1, ss0, out ++ runes r.«to» ++ [(runes s)[i]], ((fun _ : Nat => kB) kA), ⟨by first | omega | (simp; omega), by cases Nat.lt_or_ge i (runes s).length with | inl hlt => (first | (exfalso; omega) | (left; refine ⟨by omega, ?_⟩; rw [← hf2, hdc hlt, resF_cons]; clear hf2 hf hdc hdn; simp_all; done)) | inr hge => (first | (exfalso; omega) | (right; refine ⟨by omega, ?_⟩; rw [← hf2, hdn (by omega), resF_nil]; clear hf2 hf hdc hdn; simp_all; done))⟩, by omega, St.Le.of ⟨rfl, rfl, rfl, rfl, (by show some _ = some _; first | (simp only [List.map_append, List.append_assoc]; done) | (simp only [List.map_append, List.append_assoc]; rfl)), rfl, trivial⟩ rfl (by first | (simp only [List.map_append, List.append_assoc]; done) | (simp only [List.map_append, List.append_assoc]; rfl))⟩
              | exact ⟨i + 1, (s0 :: ss0), out ++ runes r.«to» ++ [(runes s)[i]], ((fun _ : Nat => kB) kA), ⟨by first | omega | (simp; omega), by cases Nat.lt_or_ge i (runes s).length with | inl hlt => (first | (exfalso; omega) | (left; refine ⟨by omega, ?_⟩; rw [← hf2, hdc hlt, resF_cons]; clear hf2 hf hdc hdn; simp_all; done)) | inr hge => (first | (exfalso; omega) | (right; refine ⟨by omega, ?_⟩; rw [← hf2, hdn (by omega), resF_nil]; clear hf2 hf hdc hdn; simp_all; done))⟩, by omega, St.Le.of ⟨rfl, rfl, rfl, rfl, (by show some _ = some _; first | (simp only [List.map_append, List.append_assoc]; done) | (simp only [List.map_append, List.append_assoc]; rfl)), rfl, trivial⟩ rfl (by first | (simp only [List.map_append, List.append_assoc]; done) | (simp only [List.map_append, List.append_assoc]; rfl))⟩
              | exact ⟨i + 1, [], out ++ runes r.«to» ++ [(runes s)[i]], ((fun _ : Nat => kB) kA), ⟨by first | omega | (simp; omega), by cases Nat.lt_or_ge i (runes s).length with | inl hlt => (first | (exfalso; omega) | (left; refine ⟨by omega, ?_⟩; rw [← hf2, hdc hlt, resF_cons]; clear hf2 hf hdc hdn; simp_all; done)) | inr hge => (first | (exfalso; omega) | (right; refine ⟨by omega, ?_⟩; rw [← hf2, hdn (by omega), resF_nil]; clear hf2 hf hdc hdn; simp_all; done))⟩, by omega, St.Le.of ⟨rfl, rfl, rfl, rfl, (by show some _ = some _; first | (simp only [List.map_append, List.append_assoc]; done) | (simp only [List.map_append, List.append_assoc]; rfl)), rfl, trivial⟩ rfl (by first | (simp only [List.map_append, List.append_assoc]; done) | (simp only [List.map_append, List.append_assoc]; rfl))⟩
              | exact ⟨i + 1, ss0, out ++ runes r.«to», kA, ⟨by first | omega | (simp; omega), by cases Nat.lt_or_ge i (runes s).length with | inl hlt => (first | (exfalso; omega) | (left; refine ⟨by omega, ?_⟩; rw [← hf2, hdc hlt, resF_cons]; clear hf2 hf hdc hdn; simp_all; done)) | inr hge => (first | (exfalso; omega) | (right; refine ⟨by omega, ?_⟩; rw [← hf2, hdn (by omega), resF_nil]; clear hf2 hf hdc hdn; simp_all; done))⟩, by omega, St.Le.of ⟨rfl, rfl, rfl, rfl, (by show some _ = some _; first | (simp only [List.map_append, List.append_assoc]; done) | (simp only [List.map_append, List.append_assoc]; rfl)), rfl, trivial⟩ rfl (by first | (simp only [List.map_append, List.append_assoc]; done) | (simp only [List.map_append, List.append_assoc]; rfl))⟩
              | exact ⟨i + 1, (s0 :: ss0), out ++ runes r.«to», kA, ⟨by first | omega | (simp; omega), by cases Nat.lt_or_ge i (runes s).length with | inl hlt => (first | (exfalso; omega) | (left; refine ⟨by omega, ?_⟩; rw [← hf2, hdc hlt, resF_cons]; clear hf2 hf hdc hdn; simp_all; done)) | inr hge => (first | (exfalso; omega) | (right; refine ⟨by omega, ?_⟩; rw [← hf2, hdn (by omega), resF_nil]; clear hf2 hf hdc hdn; simp_all; done))⟩, by omega, St.Le.of ⟨rfl, rfl, rfl, rfl, (by show some _ = some _; first | (simp only [List.map_append, List.append_assoc]; done) | (simp only [List.map_append, List.append_assoc]; rfl)), rfl, trivial⟩ rfl (by first | (simp only [List.map_append, List.append_assoc]; done) | (simp only [List.map_append, List.append_assoc]; rfl))⟩
              | exact ⟨i + 1, [], out ++ runes r.«to», kA, ⟨by first | omega | (simp; omega), by cases Nat.lt_or_ge i (runes s).length with | inl hlt => (first | (exfalso; omega) | (left; refine ⟨by omega, ?_⟩; rw [← hf2, hdc hlt, resF_cons]; clear hf2 hf hdc hdn; simp_all; done)) | inr hge => (first | (exfalso; omega) | (right; refine ⟨by omega, ?_⟩; rw [← hf2, hdn (by omega), resF_nil]; clear hf2 hf hdc hdn; simp_all; done))⟩, by omega, St.Le.of ⟨rfl, rfl, rfl, rfl, (by show some _ = some _; first | (simp only [List.map_append, List.append_assoc]; done) | (simp only [List.map_append, List.append_assoc]; rfl)), rfl, trivial⟩ rfl (by first | (simp only [List.map_append, List.append_assoc]; done) | (simp only [List.map_append, List.append_assoc]; rfl))⟩
              | exact ⟨i + 1, ss0, out ++ [(runes s)[i]], kB, ⟨by first | omega | (simp; omega), by cases Nat.lt_or_ge i (runes s).length with | inl hlt => (first | (exfalso; omega) | (left; refine ⟨by omega, ?_⟩; rw [← hf2, hdc hlt, resF_cons]; clear hf2 hf hdc hdn; simp_all; done)) | inr hge => (first | (exfalso; omega) | (right; refine ⟨by omega, ?_⟩; rw [← hf2, hdn (by omega), resF_nil]; clear hf2 hf hdc hdn; simp_all; done))⟩, by omega, St.Le.of ⟨rfl, rfl, rfl, rfl, (by show some _ = some _; first | (simp only [List.map_append, List.append_assoc]; done) | (simp only [List.map_append, List.append_assoc]; rfl)), rfl, trivial⟩ rfl (by first | (simp only [List.map_append, List.append_assoc]; done) | (simp only [List.map_append, List.append_assoc]; rfl))⟩
              | exact ⟨i + 1, (s0 :: ss0), out ++ [(runes s)[i]], kB, ⟨by first | omega | (simp; omega), by cases Nat.lt_or_ge i (runes s).length with | inl hlt => (first | (exfalso; omega) | (left; refine ⟨by omega, ?_⟩; rw [← hf2, hdc hlt, resF_cons]; clear hf2 hf hdc hdn; simp_all; done)) | inr hge => (first | (exfalso; omega) | (right; refine ⟨by omega, ?_⟩; rw [← hf2, hdn (by omega), resF_nil]; clear hf2 hf hdc hdn; simp_all; done))⟩, by omega, St.Le.of ⟨rfl, rfl, rfl, rfl, (by show some _ = some _; first | (simp only [List.map_append, List.append_assoc]; done) | (simp only [List.map_append, List.append_assoc]; rfl)), rfl, trivial⟩ rfl (by first | (simp only [List.map_append, List.append_assoc]; done) | (simp only [List.map_append, List.append_assoc]; rfl))⟩
              | exact ⟨i + 1, [], out ++ [(runes s)[i]], kB, ⟨by first | omega | (simp; omega), by cases Nat.lt_or_ge i (runes s).length with | inl hlt => (first | (exfalso; omega) | (left; refine ⟨by omega, ?_⟩; rw [← hf2, hdc hlt, resF_cons]; clear hf2 hf hdc hdn; simp_all; done)) | inr hge => (first | (exfalso; omega) | (right; refine ⟨by omega, ?_⟩; rw [← hf2, hdn (by omega), resF_nil]; clear hf2 hf hdc hdn; simp_all; done))⟩, by omega, St.Le.of ⟨rfl, rfl, rfl, rfl, (by show some _ = some _; first | (simp only [List.map_append, List.append_assoc]; done) | (simp only [List.map_append, List.append_assoc]; rfl)), rfl, trivial⟩ rfl (by first | (simp only [List.map_append, List.append_assoc]; done) | (simp only [List.map_append, List.append_assoc]; rfl))⟩
              | exact ⟨i + 1, ss0, out, k, ⟨by first | omega | (simp; omega), by cases Nat.lt_or_ge i (runes s).length with | inl hlt => (first | (exfalso; omega) | (left; refine ⟨by omega, ?_⟩; rw [← hf2, hdc hlt, resF_cons]; clear hf2 hf hdc hdn; simp_all; done)) | inr hge => (first | (exfalso; omega) | (right; refine ⟨by omega, ?_⟩; rw [← hf2, hdn (by omega), resF_nil]; clear hf2 hf hdc hdn; simp_all; done))⟩, by omega, St.Le.of ⟨rfl, rfl, rfl, rfl, rfl, rfl, trivial⟩ rfl (rfl)⟩
              | exact ⟨i + 1, (s0 :: ss0), out, k, ⟨by first | omega | (simp; omega), by cases Nat.lt_or_ge i (runes s).length with | inl hlt => (first | (exfalso; omega) | (left; refine ⟨by omega, ?_⟩; rw [← hf2, hdc hlt, resF_cons]; clear hf2 hf hdc hdn; simp_all; done)) | inr hge => (first | (exfalso; omega) | (right; refine ⟨by omega, ?_⟩; rw [← hf2, hdn (by omega), resF_nil]; clear hf2 hf hdc hdn; simp_all; done))⟩, by omega, St.Le.of ⟨rfl, rfl, rfl, rfl, rfl, rfl, trivial⟩ rfl (rfl)⟩
              | exact ⟨i + 1, [], out, k, ⟨by first | omega | (simp; omega), by cases Nat.lt_or_ge i (runes s).length with | inl hlt => (first | (exfalso; omega) | (left; refine ⟨by omega, ?_⟩; rw [← hf2, hdc hlt, resF_cons]; clear hf2 hf hdc hdn; simp_all; done)) | inr hge => (first | (exfalso; omega) | (right; refine ⟨by omega, ?_⟩; rw [← hf2, hdn (by omega), resF_nil]; clear hf2 hf hdc hdn; simp_all; done))⟩, by omega, St.Le.of ⟨rfl, rfl, rfl, rfl, rfl, rfl, trivial⟩ rfl (rfl)⟩
          · try simp only [decide_eq_true_eq, decide_eq_false_iff_not, Bool.not_eq_true', Bool.not_eq_false', beq_iff_eq, bne_iff_ne, ne_eq, beq_eq_false_iff_ne, bne_eq_false_iff_eq, Int.not_lt, Int.not_le, Nat.not_lt, Nat.not_le, Int.ofNat_lt, Int.ofNat_le, Bool.not_eq_eq_eq_not, Bool.not_true, Bool.not_false] at hb8
            refine SOps.fieldPin rfl fieldB_25_0_0 ?_
            refine SOps.loadPin rfl flatB_21 ?_
            refine SOps.bin rfl rfl rfl ?_
            refine SOps.pick rfl rfl ?_
            refine SOps.pick rfl rfl ?_
            refine SOps.nil ?_
            refine SCode.cond rfl (fun hc9 => ?_) (fun hc9 => ?_)
            · try simp only [decide_eq_true_eq, decide_eq_false_iff_not, Bool.not_eq_true', Bool.not_eq_false', beq_iff_eq, bne_iff_ne, ne_eq, beq_eq_false_iff_ne, bne_eq_false_iff_eq, Int.not_lt, Int.not_le, Nat.not_lt, Nat.not_le, Int.ofNat_lt, Int.ofNat_le, Bool.not_eq_eq_eq_not, Bool.not_true, Bool.not_false] at hc9
              refine SCode.region ?_
              refine SOps.move rfl ?_
              refine SOps.move rfl ?_
              refine SOps.move rfl ?_
              refine SOps.indexM (i) rfl rfl sliceB_35_21_1 (by first | omega | (simp only [lenB]; omega)) (by first | omega | (simp only [lenB]; omega)) ?_
              refine SOps.loadPin rfl flatB_21 ?_
              refine SOps.litF rfl sliceB_35_21_1 zeroIs_21 rfl ?_
              refine SOps.appendAcc [] [] sliceB_35_21_1 elemB_21_1_4 rfl rfl rfl SrcD.isl (by simp) (by simp [lenB]; omega) (by simp; omega) (fun kB => ?_)
              refine SOps.assign rfl ?_
              refine SOps.nil ?_
              show SCode _ _ _ _
              refine SCode.region ?_
              refine SOps.move rfl ?_
              refine SOps.addI rfl rfl (by first | omega | (simp only [lenB]; omega)) (by first | omega | (simp only [lenB]; omega)) ?_
              refine SOps.assign rfl ?_
              refine SOps.nil ?_
              first
                | (exfalso; simp only [List.getElem_cons_zero] at *; omega)
                | exact ⟨i + 1, ss0, out ++ runes r.«to» ++ [(runes s)[i]], ((fun _ : Nat => kB) kA), ⟨by first | omega | (simp; omega), by cases Nat.lt_or_ge i (runes s).length with | inl hlt => (first | (exfalso; omega) | (left; refine ⟨by omega, ?_⟩; rw [← hf2, hdc hlt, resF_cons]; clear hf2 hf hdc hdn; simp_all; done)) | inr hge => (first | (exfalso; omega) | (right; refine ⟨by omega, ?_⟩; rw [← hf2, hdn (by omega), resF_nil]; clear hf2 hf hdc hdn; simp_all; done))⟩, by omega, St.Le.of ⟨rfl, rfl, rfl, rfl, (by show some _ = some _; first | (simp only [List.map_append, List.append_assoc]; done) | (simp only [List.map_append, List.append_assoc]; rfl)), rfl, trivial⟩ rfl (by first | (simp only [List.map_append, List.append_assoc]; done) | (simp only [List.map_append, List.append_assoc]; rfl))⟩
                | exact ⟨i + 1, (s0 :: ss0), out ++ runes r.«to» ++ [(runes s)[i]], ((fun _ : Nat => kB) kA), ⟨by first | omega | (simp; omega), by cases Nat.lt_or_ge i (runes s).length with | inl hlt => (first | (exfalso; omega) | (left; refine ⟨by omega, ?_⟩; rw [← hf2, hdc hlt, resF_cons]; clear hf2 hf hdc hdn; simp_all; done)) | inr hge => (first | (exfalso; omega) | (right; refine ⟨by omega, ?_⟩; rw [← hf2, hdn (by omega), resF_nil]; clear hf2 hf hdc hdn; simp_all; done))⟩, by omega, St.Le.of ⟨rfl, rfl, rfl, rfl, (by show some _ = some _; first | (simp only [List.map_append, List.append_assoc]; done) | (simp only [List.map_append, List.append_assoc]; rfl)), rfl, trivial⟩ rfl (by first | (simp only [List.map_append, List.append_assoc]; done) | (simp only [List.map_append, List.append_assoc]; rfl))⟩
                | exact ⟨i + 1, [], out ++ runes r.«to» ++ [(runes s)[i]], ((fun _ : Nat => kB) kA), ⟨by first | omega | (simp; omega), by cases Nat.lt_or_ge i (runes s).length with | inl hlt => (first | (exfalso; omega) | (left; refine ⟨by omega, ?_⟩; rw [← hf2, hdc hlt, resF_cons]; clear hf2 hf hdc hdn; simp_all; done)) | inr hge => (first | (exfalso; omega) | (right; refine ⟨by omega, ?_⟩; rw [← hf2, hdn (by omega), resF_nil]; clear hf2 hf hdc hdn; simp_all; done))⟩, by omega, St.Le.of ⟨rfl, rfl, rfl, rfl, (by show some _ = some _; first | (simp only [List.map_append, List.append_assoc]; done) | (simp only [List.map_append, List.append_assoc]; rfl)), rfl, trivial⟩ rfl (by first | (simp only [List.map_append, List.append_assoc]; done) | (simp only [List.map_append, List.append_assoc]; rfl))⟩
                | exact ⟨i + 1, ss0, out ++ runes r.«to», kA, ⟨by first | omega | (simp; omega), by cases Nat.lt_or_ge i (runes s).length with | inl hlt => (first | (exfalso; omega) | (left; refine ⟨by omega, ?_⟩; rw [← hf2, hdc hlt, resF_cons]; clear hf2 hf hdc hdn; simp_all; done)) | inr hge => (first | (exfalso; omega) | (right; refine ⟨by omega, ?_⟩; rw [← hf2, hdn (by omega), resF_nil]; clear hf2 hf hdc hdn; simp_all; done))⟩, by omega, St.Le.of ⟨rfl, rfl, rfl, rfl, (by show some _ = some _; first | (simp only [List.map_append, List.append_assoc]; done) | (simp only [List.map_append, List.append_assoc]; rfl)), rfl, trivial⟩ rfl (by first | (simp only [List.map_append, List.append_assoc]; done) | (simp only [List.map_append, List.append_assoc]; rfl))⟩
                | exact ⟨i + 1, (s0 :: ss0), out ++ runes r.«to», kA, ⟨by first | omega | (simp; omega), by cases Nat.lt_or_ge i (runes s).length with | inl hlt => (first | (exfalso; omega) | (left; refine ⟨by omega, ?_⟩; rw [← hf2, hdc hlt, resF_cons]; clear hf2 hf hdc hdn; simp_all; done)) | inr hge => (first | (exfalso; omega) | (right; refine ⟨by omega, ?_⟩; rw [← hf2, hdn (by omega), resF_nil]; clear hf2 hf hdc hdn; simp_all; done))⟩, by omega, St.Le.of ⟨rfl, rfl, rfl, rfl, (by show some _ = some _; first | (simp only [List.map_append, List.append_assoc]; done) | (simp only [List.map_append, List.append_assoc]; rfl)), rfl, trivial⟩ rfl (by first | (simp only [List.map_append, List.append_assoc]; done) | (simp only [List.map_append, List.append_assoc]; rfl))⟩
                | exact ⟨i + 1, [], out ++ runes r.«to», kA, ⟨by first | omega | (simp; omega), by cases Nat.lt_or_ge i (runes s).length with | inl hlt => (first | (exfalso; omega) | (left; refine ⟨by omega, ?_⟩; rw [← hf2, hdc hlt, resF_cons]; clear hf2 hf hdc hdn; simp_all; done)) | inr hge => (first | (exfalso; omega) | (right; refine ⟨by omega, ?_⟩; rw [← hf2, hdn (by omega), resF_nil]; clear hf2 hf hdc hdn; simp_all; done))⟩, by omega, St.Le.of ⟨rfl, rfl, rfl, rfl, (by show some _ = some _; first | (simp only [List.map_append, List.append_assoc]; done) | (simp only [List.map_append, List.append_assoc]; rfl)), rfl, trivial⟩ rfl (by first | (simp only [List.map_append, List.append_assoc]; done) | (simp only [List.map_append, List.append_assoc]; rfl))⟩
                | exact ⟨i + 1, ss0, out ++ [(runes s)[i]], kB, ⟨by first | omega | (simp; omega), by cases Nat.lt_or_ge i (runes s).length with | inl hlt => (first | (exfalso; omega) | (left; refine ⟨by omega, ?_⟩; rw [← hf2, hdc hlt, resF_cons]; clear hf2 hf hdc hdn; simp_all; done)) | inr hge => (first | (exfalso; omega) | (right; refine ⟨by omega, ?_⟩; rw [← hf2, hdn (by omega), resF_nil]; clear hf2 hf hdc hdn; simp_all; done))⟩, by omega, St.Le.of ⟨rfl, rfl, rfl, rfl, (by show some _ = some _; first | (simp only [List.map_append, List.append_assoc]; done) | (simp only [List.map_append, List.append_assoc]; rfl)), rfl, trivial⟩ rfl (by first | (simp only [List.map_append, List.append_assoc]; done) | (simp only [List.map_append, List.append_assoc]; rfl))⟩
                | exact ⟨i + 1, (s0 :: ss0), out ++ [(runes s)[i]], kB, ⟨by first | omega | (simp; omega), by cases Nat.lt_or_ge i (runes s).length with | inl hlt => (first | (exfalso; omega) | (left; refine ⟨by omega, ?_⟩; rw [← hf2, hdc hlt, resF_cons]; clear hf2 hf hdc hdn; simp_all; done)) | inr hge => (first | (exfalso; omega) | (right; refine ⟨by omega, ?_⟩; rw [← hf2, hdn (by omega), resF_nil]; clear hf2 hf hdc hdn; simp_all; done))⟩, by omega, St.Le.of ⟨rfl, rfl, rfl, rfl, (by show some _ = some _; first | (simp only [List.map_append, List.append_assoc]; done) | (simp only [List.map_append, List.append_assoc]; rfl)), rfl, trivial⟩ rfl (by first | (simp only [List.map_append, List.append_assoc]; done) | (simp only [List.map_append, List.append_assoc]; rfl))⟩
                | exact ⟨i + 1, [], out ++ [(runes s)[i]], kB, ⟨by first | omega | (simp; omega), by cases Nat.lt_or_ge i (runes s).length with | inl hlt => (first | (exfalso; omega) | (left; refine ⟨by omega, ?_⟩; rw [← hf2, hdc hlt, resF_cons]; clear hf2 hf hdc hdn; simp_all; done)) | inr hge => (first | (exfalso; omega) | (right; refine ⟨by omega, ?_⟩; rw [← hf2, hdn (by omega), resF_nil]; clear hf2 hf hdc hdn; simp_all; done))⟩, by omega, St.Le.of ⟨rfl, rfl, rfl, rfl, (by show some _ = some _; first | (simp only [List.map_append, List.append_assoc]; done) | (simp only [List.map_append, List.append_assoc]; rfl)), rfl, trivial⟩ rfl (by first | (simp only [List.map_append, List.append_assoc]; done) | (simp only [List.map_append, List.append_assoc]; rfl))⟩
                | exact ⟨i + 1, ss0, out, k, ⟨by first | omega | (simp; omega), by cases Nat.lt_or_ge i (runes s).length with | inl hlt => (first | (exfalso; omega) | (left; refine ⟨by omega, ?_⟩; rw [← hf2, hdc hlt, resF_cons]; clear hf2 hf hdc hdn; simp_all; done)) | inr hge => (first | (exfalso; omega) | (right; refine ⟨by omega, ?_⟩; rw [← hf2, hdn (by omega), resF_nil]; clear hf2 hf hdc hdn; simp_all; done))⟩, by omega, St.Le.of ⟨rfl, rfl, rfl, rfl, rfl, rfl, trivial⟩ rfl (rfl)⟩
                | exact ⟨i + 1, (s0 :: ss0), out, k, ⟨by first | omega | (simp; omega), by cases Nat.lt_or_ge i (runes s).length with | inl hlt => (first | (exfalso; omega) | (left; refine ⟨by omega, ?_⟩; rw [← hf2, hdc hlt, resF_cons]; clear hf2 hf hdc hdn; simp_all; done)) | inr hge => (first | (exfalso; omega) | (right; refine ⟨by omega, ?_⟩; rw [← hf2, hdn (by omega), resF_nil]; clear hf2 hf hdc hdn; simp_all; done))⟩, by omega, St.Le.of ⟨rfl, rfl, rfl, rfl, rfl, rfl, trivial⟩ rfl (rfl)⟩
                | exact ⟨i + 1, [], out, k, ⟨by first | omega | (simp; omega), by cases Nat.lt_or_ge i (runes s).length with | inl hlt => (first | (exfalso; omega) | (left; refine ⟨by omega, ?_⟩; rw [← hf2, hdc hlt, resF_cons]; clear hf2 hf hdc hdn; simp_all; done)) | inr hge => (first | (exfalso; omega) | (right; refine ⟨by omega, ?_⟩; rw [← hf2, hdn (by omega), resF_nil]; clear hf2 hf hdc hdn; simp_all; done))⟩, by omega, St.Le.of ⟨rfl, rfl, rfl, rfl, rfl, rfl, trivial⟩ rfl (rfl)⟩
            · try simp only [decide_eq_true_eq, decide_eq_false_iff_not, Bool.not_eq_true', Bool.not_eq_false', beq_iff_eq, bne_iff_ne, ne_eq, beq_eq_false_iff_ne, bne_eq_false_iff_eq, Int.not_lt, Int.not_le, Nat.not_lt, Nat.not_le, Int.ofNat_lt, Int.ofNat_le, Bool.not_eq_eq_eq_not, Bool.not_true, Bool.not_false] at hc9
              refine SCode.skip ?_
              show SCode _ _ _ _
              refine SCode.region ?_
              refine SOps.move rfl ?_
              refine SOps.addI rfl rfl (by first | omega | (simp only [lenB]; omega)) (by first | omega | (simp only [lenB]; omega)) ?_
              refine SOps.assign rfl ?_
              refine SOps.nil ?_
              first
                | (exfalso; simp only [List.getElem_cons_zero] at *; omega)
                | exact ⟨i + 1, ss0, out ++ runes r.«to» ++ [(runes s)[i]], ((fun _ : Nat => kB) kA), ⟨by first | omega | (simp; omega), by cases Nat.lt_or_ge i (runes s).length with | inl hlt => (first | (exfalso; omega) | (left; refine ⟨by omega, ?_⟩; rw [← hf2, hdc hlt, resF_cons]; clear hf2 hf hdc hdn; simp_all; done)) | inr hge => (first | (exfalso; omega) | (right; refine ⟨by omega, ?_⟩; rw [← hf2, hdn (by omega), resF_nil]; clear hf2 hf hdc hdn; simp_all; done))⟩, by omega, St.Le.of ⟨rfl, rfl, rfl, rfl, (by show some _ = some _; first | (simp only [List.map_append, List.append_assoc]; done) | (simp only [List.map_append, List.append_assoc]; rfl)), rfl, trivial⟩ rfl (by first | (simp only [List.map_append, List.append_assoc]; done) | (simp only [List.map_append, List.append_assoc]; rfl))⟩
                | exact ⟨i + 1, (s0 :: ss0), out ++ runes r.«to» ++ [(runes s)[i]], ((fun _ : Nat => kB) kA), ⟨by first | omega | (simp; omega), by cases Nat.lt_or_ge i (runes s).length with | inl hlt => (first | (exfalso; omega) | (left; refine ⟨by omega, ?_⟩; rw [← hf2, hdc hlt, resF_cons]; clear hf2 hf hdc hdn; simp_all; done)) | inr hge => (first | (exfalso; omega) | (right; refine ⟨by omega, ?_⟩; rw [← hf2, hdn (by omega), resF_nil]; clear hf2 hf hdc hdn; simp_all; done))⟩, by omega, St.Le.of ⟨rfl, rfl, rfl, rfl, (by show some _ = some _; first | (simp only [List.map_append, List.append_assoc]; done) | (simp only [List.map_append, List.append_assoc]; rfl)), rfl, trivial⟩ rfl (by first | (simp only [List.map_append, List.append_assoc]; done) | (simp only [List.map_append, List.append_assoc]; rfl))⟩
                | exact ⟨i + 1, [], out ++ runes r.«to» ++ [(runes s)[i]], ((fun _ : Nat => kB) kA), ⟨by first | omega | (simp; omega), by cases Nat.lt_or_ge i (runes s).length with | inl hlt => (first | (exfalso; omega) | (left; refine ⟨by omega, ?_⟩; rw [← hf2, hdc hlt, resF_cons]; clear hf2 hf hdc hdn; simp_all; done)) | inr hge => (first | (exfalso; omega) | (right; refine ⟨by omega, ?_⟩; rw [← hf2, hdn (by omega), resF_nil]; clear hf2 hf hdc hdn; simp_all; done))⟩, by omega, St.Le.of ⟨rfl, rfl, rfl, rfl, (by show some _ = some _; first | (simp only [List.map_append, List.append_assoc]; done) | (simp only [List.map_append, List.append_assoc]; rfl)), rfl, trivial⟩ rfl (by first | (simp only [List.map_append, List.append_assoc]; done) | (simp only [List.map_append, List.append_assoc]; rfl))⟩
                | exact ⟨i + 1, ss0, out ++ runes r.«to», kA, ⟨by first | omega | (simp; omega), by cases Nat.lt_or_ge i (runes s).length with | inl hlt => (first | (exfalso; omega) | (left; refine ⟨by omega, ?_⟩; rw [← hf2, hdc hlt, resF_cons]; clear hf2 hf hdc hdn; simp_all; done)) | inr hge => (first | (exfalso; omega) | (right; refine ⟨by omega, ?_⟩; rw [← hf2, hdn (by omega), resF_nil]; clear hf2 hf hdc hdn; simp_all; done))⟩, by omega, St.Le.of ⟨rfl, rfl, rfl, rfl, (by show some _ = some _; first | (simp only [List.map_append, List.append_assoc]; done) | (simp only [List.map_append, List.append_assoc]; rfl)), rfl, trivial⟩ rfl (by first | (simp only [List.map_append, List.append_assoc]; done) | (simp only [List.map_append, List.append_assoc]; rfl))⟩
                | exact ⟨i + 1, (s0 :: ss0), out ++ runes r.«to», kA, ⟨by first | omega | (simp; omega), by cases Nat.lt_or_ge i (runes s).length with | inl hlt => (first | (exfalso; omega) | (left; refine ⟨by omega, ?_⟩; rw [← hf2, hdc hlt, resF_cons]; clear hf2 hf hdc hdn; simp_all; done)) | inr hge => (first | (exfalso; omega) | (right; refine ⟨by omega, ?_⟩; rw [← hf2, hdn (by omega), resF_nil]; clear hf2 hf hdc hdn; simp_all; done))⟩, by omega, St.Le.of ⟨rfl, rfl, rfl, rfl, (by show some _ = some _; first | (simp only [List.map_append, List.append_assoc]; done) | (simp only [List.map_append, List.append_assoc]; rfl)), rfl, trivial⟩ rfl (by first | (simp only [List.map_append, List.append_assoc]; done) | (simp only [List.map_append, List.append_assoc]; rfl))⟩
                | exact ⟨i + 1, [], out ++ runes r.«to», kA, ⟨by first | omega | (simp; omega), by cases Nat.lt_or_ge i (runes s).length with | inl hlt => (first | (exfalso; omega) | (left; refine ⟨by omega, ?_⟩; rw [← hf2, hdc hlt, resF_cons]; clear hf2 hf hdc hdn; simp_all; done)) | inr hge => (first | (exfalso; omega) | (right; refine ⟨by omega, ?_⟩; rw [← hf2, hdn (by omega), resF_nil]; clear hf2 hf hdc hdn; simp_all; done))⟩, by omega, St.Le.of ⟨rfl, rfl, rfl, rfl, (by show some _ = some _; first | (simp only [List.map_append, List.append_assoc]; done) | (simp only [List.map_append, List.append_assoc]; rfl)), rfl, trivial⟩ rfl (by first | (simp only [List.map_append, List.append_assoc]; done) | (simp only [List.map_append, List.append_assoc]; rfl))⟩
                | exact ⟨i + 1, ss0, out ++ [(runes s)[i]], kB, ⟨by first | omega | (simp; omega), by cases Nat.lt_or_ge i (runes s).length with | inl hlt => (first | (exfalso; omega) | (left; refine ⟨by omega, ?_⟩; rw [← hf2, hdc hlt, resF_cons]; clear hf2 hf hdc hdn; simp_all; done)) | inr hge => (first | (exfalso; omega) | (right; refine ⟨by omega, ?_⟩; rw [← hf2, hdn (by omega), resF_nil]; clear hf2 hf hdc hdn; simp_all; done))⟩, by omega, St.Le.of ⟨rfl, rfl, rfl, rfl, (by show some _ = some _; first | (simp only [List.map_append, List.append_assoc]; done) | (simp only [List.map_append, List.append_assoc]; rfl)), rfl, trivial⟩ rfl (by first | (simp only [List.map_append, List.append_assoc]; done) | (simp only [List.map_append, List.append_assoc]; rfl))⟩
                | exact ⟨i + 1, (s0 :: ss0), out ++ [(runes s)[i]], kB, ⟨by first | omega | (simp; omega), by cases Nat.lt_or_ge i (runes s).length with | inl hlt => (first | (exfalso; omega) | (left; refine ⟨by omega, ?_⟩; rw [← hf2, hdc hlt, resF_cons]; clear hf2 hf hdc hdn; simp_all; done)) | inr hge => (first | (exfalso; omega) | (right; refine ⟨by omega, ?_⟩; rw [← hf2, hdn (by omega), resF_nil]; clear hf2 hf hdc hdn; simp_all; done))⟩, by omega, St.Le.of ⟨rfl, rfl, rfl, rfl, (by show some _ = some _; first | (simp only [List.map_append, List.append_assoc]; done) | (simp only [List.map_append, List.append_assoc]; rfl)), rfl, trivial⟩ rfl (by first | (simp only [List.map_append, List.append_assoc]; done) | (simp only [List.map_append, List.append_assoc]; rfl))⟩
                | exact ⟨i + 1, [], out ++ [(runes s)[i]], kB, ⟨by first | omega | (simp; omega), by cases Nat.lt_or_ge i (runes s).length with | inl hlt => (first | (exfalso; omega) | (left; refine ⟨by omega, ?_⟩; rw [← hf2, hdc hlt, resF_cons]; clear hf2 hf hdc hdn; simp_all; done)) | inr hge => (first | (exfalso; omega) | (right; refine ⟨by omega, ?_⟩; rw [← hf2, hdn (by omega), resF_nil]; clear hf2 hf hdc hdn; simp_all; done))⟩, by omega, St.Le.of ⟨rfl, rfl, rfl, rfl, (by show some _ = some _; first | (simp only [List.map_append, List.append_assoc]; done) | (simp only [List.map_append, List.append_assoc]; rfl)), rfl, trivial⟩ rfl (by first | (simp only [List.map_append, List.append_assoc]; done) | (simp only [List.map_append, List.append_assoc]; rfl))⟩
                | exact ⟨i + 1, ss0, out, k, ⟨by first | omega | (simp; omega), by cases Nat.lt_or_ge i (runes s).length with | inl hlt => (first | (exfalso; omega) | (left; refine ⟨by omega, ?_⟩; rw [← hf2, hdc hlt, resF_cons]; clear hf2 hf hdc hdn; simp_all; done)) | inr hge => (first | (exfalso; omega) | (right; refine ⟨by omega, ?_⟩; rw [← hf2, hdn (by omega), resF_nil]; clear hf2 hf hdc hdn; simp_all; done))⟩, by omega, St.Le.of ⟨rfl, rfl, rfl, rfl, rfl, rfl, trivial⟩ rfl (rfl)⟩
                | exact ⟨i + 1, (s0 :: ss0), out, k, ⟨by first | omega | (simp; omega), by cases Nat.lt_or_ge i (runes s).length with | inl hlt => (first | (exfalso; omega) | (left; refine ⟨by omega, ?_⟩; rw [← hf2, hdc hlt, resF_cons]; clear hf2 hf hdc hdn; simp_all; done)) | inr hge => (first | (exfalso; omega) | (right; refine ⟨by omega, ?_⟩; rw [← hf2, hdn (by omega), resF_nil]; clear hf2 hf hdc hdn; simp_all; done))⟩, by omega, St.Le.of ⟨rfl, rfl, rfl, rfl, rfl, rfl, trivial⟩ rfl (rfl)⟩
                | exact ⟨i + 1, [], out, k, ⟨by first | omega | (simp; omega), by cases Nat.lt_or_ge i (runes s).length with | inl hlt => (first | (exfalso; omega) | (left; refine ⟨by omega, ?_⟩; rw [← hf2, hdc hlt, resF_cons]; clear hf2 hf hdc hdn; simp_all; done)) | inr hge => (first | (exfalso; omega) | (right; refine ⟨by omega, ?_⟩; rw [← hf2, hdn (by omega), resF_nil]; clear hf2 hf hdc hdn; simp_all; done))⟩, by omega, St.Le.of ⟨rfl, rfl, rfl, rfl, rfl, rfl, trivial⟩ rfl (rfl)⟩
        · try simp only [decide_eq_true_eq, decide_eq_false_iff_not, Bool.not_eq_true', Bool.not_eq_false', beq_iff_eq, bne_iff_ne, ne_eq, beq_eq_false_iff_ne, bne_eq_false_iff_eq, Int.not_lt, Int.not_le, Nat.not_lt, Nat.not_le, Int.ofNat_lt, Int.ofNat_le, Bool.not_eq_eq_eq_not, Bool.not_true, Bool.not_false] at hb7
          refine SOps.skip rfl ?_
          refine SOps.skip rfl ?_
          refine SOps.skip rfl ?_
          refine SOps.skip rfl ?_
          refine SOps.skip rfl ?_
          refine SOps.skip rfl ?_
          refine SOps.skip rfl ?_
          refine SOps.pick rfl rfl ?_
          refine SOps.nil ?_
          refine SCode.cond rfl (fun h => by cases h) (fun _ => ?_)
          refine SCode.skip ?_
          show SCode _ _ _ _
          refine SCode.region ?_
          refine SOps.move rfl ?_
          refine SOps.addI rfl rfl (by first | omega | (simp only [lenB]; omega)) (by first | omega | (simp only [lenB]; omega)) ?_
          refine SOps.assign rfl ?_
          refine SOps.nil ?_
          first
            | (exfalso; simp only [List.getElem_cons_zero] at *; omega)
            | exact ⟨i + 1, ss0, out ++ runes r.«to» ++ [(runes s)[i]], ((fun _ : Nat => kB) kA), ⟨by first | omega | (simp; omega), by cases Nat.lt_or_ge i (runes s).length with | inl hlt => (first | (exfalso; omega) | (left; refine ⟨by omega, ?_⟩; rw [← hf2, hdc hlt, resF_cons]; clear hf2 hf hdc hdn; simp_all; done)) | inr hge => (first | (exfalso; omega) | (right; refine ⟨by omega, ?_⟩; rw [← hf2, hdn (by omega), resF_nil]; clear hf2 hf hdc hdn; simp_all; done))⟩, by omega, St.Le.of ⟨rfl, rfl, rfl, rfl, (by show some _ = some _; first | (simp only [List.map_append, List.append_assoc]; done) | (simp only [List.map_append, List.append_assoc]; rfl)), rfl, trivial⟩ rfl (by first | (simp only [List.map_append, List.append_assoc]; done) | (simp only [List.map_append, List.append_assoc]; rfl))⟩
            | exact ⟨i + 1, (s0 :: ss0), out ++ runes r.«to» ++ [(runes s)[i]], ((fun _ : Nat => kB) kA), ⟨by first | omega | (simp; omega), by cases Nat.lt_or_ge i (runes s).length with | inl hlt => (first | (exfalso; omega) | (left; refine ⟨by omega, ?_⟩; rw [← hf2, hdc hlt, resF_cons]; clear hf2 hf hdc hdn; simp_all; done)) | inr hge => (first | (exfalso; omega) | (right; refine ⟨by omega, ?_⟩; rw [← hf2, hdn (by omega), resF_nil]; clear hf2 hf hdc hdn; simp_all; done))⟩, by omega, St.Le.of ⟨rfl, rfl, rfl, rfl, (by show some _ = some _; first | (simp only [List.map_append, List.append_assoc]; done) | (simp only [List.map_append, List.append_assoc]; rfl)), rfl, trivial⟩ rfl (by first | (simp only [List.map_append, List.append_assoc]; done) | (simp only [List.map_append, List.append_assoc]; rfl))⟩
            | exact ⟨i + 1, [], out ++ runes r.«to» ++ [(runes s)[i]], ((fun _ : Nat => kB) kA), ⟨by first | omega | (simp; omega), by cases Nat.lt_or_ge i (runes s).length with | inl hlt => (first | (exfalso; omega) | (left; refine ⟨by omega, ?_⟩; rw [← hf2, hdc hlt, resF_cons]; clear hf2 hf hdc hdn; simp_all; done)) | inr hge => (first | (exfalso; omega) | (right; refine ⟨by omega, ?_⟩; rw [← hf2, hdn (by omega), resF_nil]; clear hf2 hf hdc hdn; simp_all; done))⟩, by omega, St.Le.of ⟨rfl, rfl, rfl, rfl, (by show some _ = some _; first | (simp only [List.map_append, List.append_assoc]; done) | (simp only [List.map_append, List.append_assoc]; rfl)), rfl, trivial⟩ rfl (by first | (simp only [List.map_append, List.append_assoc]; done) | (simp only [List.map_append, List.append_assoc]; rfl))⟩
            | exact ⟨i + 1, ss0, out ++ runes r.«to», kA, ⟨by first | omega | (simp; omega), by cases Nat.lt_or_ge i (runes s).length with | inl hlt => (first | (exfalso; omega) | (left; refine ⟨by omega, ?_⟩; rw [← hf2, hdc hlt, resF_cons]; clear hf2 hf hdc hdn; simp_all; done)) | inr hge => (first | (exfalso; omega) | (right; refine ⟨by omega, ?_⟩; rw [← hf2, hdn (by omega), resF_nil]; clear hf2 hf hdc hdn; simp_all; done))⟩, by omega, St.Le.of ⟨rfl, rfl, rfl, rfl, (by show some _ = some _; first | (simp only [List.map_append, List.append_assoc]; done) | (simp only [List.map_append, List.append_assoc]; rfl)), rfl, trivial⟩ rfl (by first | (simp only [List.map_append, List.append_assoc]; done) | (simp only [List.map_append, List.append_assoc]; rfl))⟩
            | exact ⟨i + 1, (s0 :: ss0), out ++ runes r.«to», kA, ⟨by first | omega | (simp; omega), by cases Nat.lt_or_ge i (runes s).length with | inl hlt => (first | (exfalso; omega) | (left; refine ⟨by omega, ?_⟩; rw [← hf2, hdc hlt, resF_cons]; clear hf2 hf hdc hdn; simp_all; done)) | inr hge => (first | (exfalso; omega) | (right; refine ⟨by omega, ?_⟩; rw [← hf2, hdn (by omega), resF_nil]; clear hf2 hf hdc hdn; simp_all; done))⟩, by omega, St.Le.of ⟨rfl, rfl, rfl, rfl, (by show some _ = some _; first | (simp only [List.map_append, List.append_assoc]; done) | (simp only [List.map_append, List.append_assoc]; rfl)), rfl, trivial⟩ rfl (by first | (simp only [List.map_append, List.append_assoc]; done) | (simp only [List.map_append, List.append_assoc]; rfl))⟩
            | exact ⟨i + 1, [], out ++ runes r.«to», kA, ⟨by first | omega | (simp; omega), by cases Nat.lt_or_ge i (runes s).length with | inl hlt => (first | (exfalso; omega) | (left; refine ⟨by omega, ?_⟩; rw [← hf2, hdc hlt, resF_cons]; clear hf2 hf hdc hdn; simp_all; done)) | inr hge => (first | (exfalso; omega) | (right; refine ⟨by omega, ?_⟩; rw [← hf2, hdn (by omega), resF_nil]; clear hf2 hf hdc hdn; simp_all; done))⟩, by omega, St.Le.of ⟨rfl, rfl, rfl, rfl, (by show some _ = some _; first | (simp only [List.map_append, List.append_assoc]; done) | (simp only [List.map_append, List.append_assoc]; rfl)), rfl, trivial⟩ rfl (by first | (simp only [List.map_append, List.append_assoc]; done) | (simp only [List.map_append, List.append_assoc]; rfl))⟩
            | exact ⟨i + 1, ss0, out ++ [(runes s)[i]], kB, ⟨by first | omega | (simp; omega), by cases Nat.lt_or_ge i (runes s).length with | inl hlt => (first | (exfalso; omega) | (left; refine ⟨by omega, ?_⟩; rw [← hf2, hdc hlt, resF_cons]; clear hf2 hf hdc hdn; simp_all; done)) | inr hge => (first | (exfalso; omega) | (right; refine ⟨by omega, ?_⟩; rw [← hf2, hdn (by omega), resF_nil]; clear hf2 hf hdc hdn; simp_all; done))⟩, by omega, St.Le.of ⟨rfl, rfl, rfl, rfl, (by show some _ = some _; first | (simp only [List.map_append, List.append_assoc]; done) | (simp only [List.map_append, List.append_assoc]; rfl)), rfl, trivial⟩ rfl (by first | (simp only [List.map_append, List.append_assoc]; done) | (simp only [List.map_append, List.append_assoc]; rfl))⟩
            | exact ⟨i + 1, (s0 :: ss0), out ++ [(runes s)[i]], kB, ⟨by first | omega | (simp; omega), by cases Nat.lt_or_ge i (runes s).length with | inl hlt => (first | (exfalso; omega) | (left; refine ⟨by omega, ?_⟩; rw [← hf2, hdc hlt, resF_cons]; clear hf2 hf hdc hdn; simp_all; done)) | inr hge => (first | (exfalso; omega) | (right; refine ⟨by omega, ?_⟩; rw [← hf2, hdn (by omega), resF_nil]; clear hf2 hf hdc hdn; simp_all; done))⟩, by omega, St.Le.of ⟨rfl, rfl, rfl, rfl, (by show some _ = some _; first | (simp only [List.map_append, List.append_assoc]; done) | (simp only [List.map_append, List.append_assoc]; rfl)), rfl, trivial⟩ rfl (by first | (simp only [List.map_append, List.append_assoc]; done) | (simp only [List.map_append, List.append_assoc]; rfl))⟩
            | exact ⟨i + 1, [], out ++ [(runes s)[i]], kB, ⟨by first | omega | (simp; omega), by cases Nat.lt_or_ge i (runes s).length with | inl hlt => (first | (exfalso; omega) | (left; refine ⟨by omega, ?_⟩; rw [← hf2, hdc hlt, resF_cons]; clear hf2 hf hdc hdn; simp_all; done)) | inr hge => (first | (exfalso; omega) | (right; refine ⟨by omega, ?_⟩; rw [← hf2, hdn (by omega), resF_nil]; clear hf2 hf hdc hdn; simp_all; done))⟩, by omega, St.Le.of ⟨rfl, rfl, rfl, rfl, (by show some _ = some _; first | (simp only [List.map_append, List.append_assoc]; done) | (simp only [List.map_append, List.append_assoc]; rfl)), rfl, trivial⟩ rfl (by first | (simp only [List.map_append, List.append_assoc]; done) | (simp only [List.map_append, List.append_assoc]; rfl))⟩
            | exact ⟨i + 1, ss0, out, k, ⟨by first | omega | (simp; omega), by cases Nat.lt_or_ge i (runes s).length with | inl hlt => (first | (exfalso; omega) | (left; refine ⟨by omega, ?_⟩; rw [← hf2, hdc hlt, resF_cons]; clear hf2 hf hdc hdn; simp_all; done)) | inr hge => (first | (exfalso; omega) | (right; refine ⟨by omega, ?_⟩; rw [← hf2, hdn (by omega), resF_nil]; clear hf2 hf hdc hdn; simp_all; done))⟩, by omega, St.Le.of ⟨rfl, rfl, rfl, rfl, rfl, rfl, trivial⟩ rfl (rfl)⟩
            | exact ⟨i + 1, (s0 :: ss0), out, k, ⟨by first | omega | (simp; omega), by cases Nat.lt_or_ge i (runes s).length with | inl hlt => (first | (exfalso; omega) | (left; refine ⟨by omega, ?_⟩; rw [← hf2, hdc hlt, resF_cons]; clear hf2 hf hdc hdn; simp_all; done)) | inr hge => (first | (exfalso; omega) | (right; refine ⟨by omega, ?_⟩; rw [← hf2, hdn (by omega), resF_nil]; clear hf2 hf hdc hdn; simp_all; done))⟩, by omega, St.Le.of ⟨rfl, rfl, rfl, rfl, rfl, rfl, trivial⟩ rfl (rfl)⟩
            | exact ⟨i + 1, [], out, k, ⟨by first | omega | (simp; omega), by cases Nat.lt_or_ge i (runes s).length with | inl hlt => (first | (exfalso; omega) | (left; refine ⟨by omega, ?_⟩; rw [← hf2, hdc hlt, resF_cons]; clear hf2 hf hdc hdn; simp_all; done)) | inr hge => (first | (exfalso; omega) | (right; refine ⟨by omega, ?_⟩; rw [← hf2, hdn (by omega), resF_nil]; clear hf2 hf hdc hdn; simp_all; done))⟩, by omega, St.Le.of ⟨rfl, rfl, rfl, rfl, rfl, rfl, trivial⟩ rfl (rfl)⟩
    · try simp only [decide_eq_true_eq, decide_eq_false_iff_not, Bool.not_eq_true', Bool.not_eq_false', beq_iff_eq, bne_iff_ne, ne_eq, beq_eq_false_iff_ne, bne_eq_false_iff_eq, Int.not_lt, Int.not_le, Nat.not_lt, Nat.not_le, Int.ofNat_lt, Int.ofNat_le, Bool.not_eq_eq_eq_not, Bool.not_true, Bool.not_false] at hb2
      obtain rfl : ss = [] := by cases ss with | nil => rfl | cons x y => (simp only [List.length_cons] at hb2; omega)
      have ss0 : List Nat := []
      refine SOps.skip rfl ?_
      refine SOps.skip rfl ?_
      refine SOps.skip rfl ?_
      refine SOps.skip rfl ?_
      refine SOps.skip rfl ?_
      refine SOps.pick rfl rfl ?_
      refine SOps.assign rfl ?_
      refine SOps.nil ?_
      refine SCode.seq ?_
      refine SCode.seqR ?_
      refine SOps.move rfl ?_
      refine SOps.nil ?_
      refine SCode.cond rfl (fun h => by cases h) (fun _ => ?_)
      refine SCode.skip ?_
      show SCode _ _ _ _
      refine SCode.seqR ?_
      refine SOps.move rfl ?_
      refine SOps.move rfl ?_
      refine SOps.lenM rfl sliceB_35_21_1 ?_
      refine SOps.bin rfl rfl rfl ?_
      refine SOps.move rfl ?_
      refine SOps.caseB 43 rfl (fun hb10 => ?_) (fun hb10 => ?_)
      · try simp only [decide_eq_true_eq, decide_eq_false_iff_not, Bool.not_eq_true', Bool.not_eq_false', beq_iff_eq, bne_iff_ne, ne_eq, beq_eq_false_iff_ne, bne_eq_false_iff_eq, Int.not_lt, Int.not_le, Nat.not_lt, Nat.not_le, Int.ofNat_lt, Int.ofNat_le, Bool.not_eq_eq_eq_not, Bool.not_true, Bool.not_false] at hb10
        refine SOps.move rfl ?_
        refine SOps.un rfl rfl ?_
        refine SOps.move rfl ?_
        refine SOps.skip rfl ?_
        refine SOps.skip rfl ?_
        refine SOps.skip rfl ?_
        refine SOps.pick rfl rfl ?_
        refine SOps.pick rfl rfl ?_
        refine SOps.nil ?_
        refine SCode.cond rfl (fun _ => ?_) (fun h => by cases h)
        refine SCode.region ?_
        refine SOps.move rfl ?_
        refine SOps.move rfl ?_
        refine SOps.move rfl ?_
        refine SOps.indexM (i) rfl rfl sliceB_35_21_1 (by first | omega | (simp only [lenB]; omega)) (by first | omega | (simp only [lenB]; omega)) ?_
        refine SOps.loadPin rfl flatB_21 ?_
        refine SOps.litF rfl sliceB_35_21_1 zeroIs_21 rfl ?_
        refine SOps.appendAcc [] [] sliceB_35_21_1 elemB_21_1_4 rfl rfl rfl SrcD.isl (by simp) (by simp [lenB]; omega) (by simp; omega) (fun kB => ?_)
        refine SOps.assign rfl ?_
        refine SOps.nil ?_
        show SCode _ _ _ _
        refine SCode.region ?_
        refine SOps.move rfl ?_
        refine SOps.addI rfl rfl (by first | omega | (simp only [lenB]; omega)) (by first | omega | (simp only [lenB]; omega)) ?_
        refine SOps.assign rfl ?_
        refine SOps.nil ?_
        first
          | (exfalso; simp only [List.getElem_cons_zero] at *; omega)
          | exact ⟨i + 1, ss0, out ++ runes r.«to» ++ [(runes s)[i]], ((fun _ : Nat => kB) kA), ⟨by first | omega | (simp; omega), by cases Nat.lt_or_ge i (runes s).length with | inl hlt => (first | (exfalso; omega) | (left; refine ⟨by omega, ?_⟩; rw [← hf2, hdc hlt, resF_cons]; clear hf2 hf hdc hdn; simp_all; done)) | inr hge => (first | (exfalso; omega) | (right; refine ⟨by omega, ?_⟩; rw [← hf2, hdn (by omega), resF_nil]; clear hf2 hf hdc hdn; simp_all; done))⟩, by omega, St.Le.of ⟨rfl, rfl, rfl, rfl, (by show some _ = some _; first | (simp only [List.map_append, List.append_assoc]; done) | (simp only [List.map_append, List.append_assoc]; rfl)), rfl, trivial⟩ rfl (by first | (simp only [List.map_append, List.append_assoc]; done) | (simp only [List.map_append, List.append_assoc]; rfl))⟩
          | exact ⟨i + 1, (s0 :: ss0), out ++ runes r.«to» ++ [(runes s)[i]], ((fun _ : Nat => kB) kA), ⟨by first | omega | (simp; omega), by cases Nat.lt_or_ge i (runes s).length with | inl hlt => (first | (exfalso; omega) | (left; refine ⟨by omega, ?_⟩; rw [← hf2, hdc hlt, resF_cons]; clear hf2 hf hdc hdn; simp_all; done)) | inr hge => (first | (exfalso; omega) | (right; refine ⟨by omega, ?_⟩; rw [← hf2, hdn (by omega), resF_nil]; clear hf2 hf hdc hdn; simp_all; done))⟩, by omega, St.Le.of ⟨rfl, rfl, rfl, rfl, (by show some _ = some _; first | (simp only [List.map_append, List.append_assoc]; done) | (simp only [List.map_append, List.append_assoc]; rfl)), rfl, trivial⟩ rfl (by first | (simp only [List.map_append, List.append_assoc]; done) | (simp only [List.map_append, List.append_assoc]; rfl))⟩
          | exact ⟨i + 1, [], out ++ runes r.«to» ++ [(runes s)[i]], ((fun _ : Nat => kB) kA), ⟨by first | omega | (simp; omega), by cases Nat.lt_or_ge i (runes s).length with | inl hlt => (first | (exfalso; omega) | (left; refine ⟨by omega, ?_⟩; rw [← hf2, hdc hlt, resF_cons]; clear hf2 hf hdc hdn; simp_all; done)) | inr hge => (first | (exfalso; omega) | (right; refine ⟨by omega, ?_⟩; rw [← hf2, hdn (by omega), resF_nil]; clear hf2 hf hdc hdn; simp_all; done))⟩, by omega, St.Le.of ⟨rfl, rfl, rfl, rfl, (by show some _ = some _; first | (simp only [List.map_append, List.append_assoc]; done) | (simp only [List.map_append, List.append_assoc]; rfl)), rfl, trivial⟩ rfl (by first | (simp only [List.map_append, List.append_assoc]; done) | (simp only [List.map_append, List.append_assoc]; rfl))⟩
          | exact ⟨i + 1, ss0, out ++ runes r.«to», kA, ⟨by first | omega | (simp; omega), by cases Nat.lt_or_ge i (runes s).length with | inl hlt => (first | (exfalso; omega) | (left; refine ⟨by omega, ?_⟩; rw [← hf2, hdc hlt, resF_cons]; clear hf2 hf hdc hdn; simp_all; done)) | inr hge => (first | (exfalso; omega) | (right; refine ⟨by omega, ?_⟩; rw [← hf2, hdn (by omega), resF_nil]; clear hf2 hf hdc hdn; simp_all; done))⟩, by omega, St.Le.of ⟨rfl, rfl, rfl, rfl, (by show some _ = some _; first | (simp only [List.map_append, List.append_assoc]; done) | (simp only [List.map_append, List.append_assoc]; rfl)), rfl, trivial⟩ rfl (by first | (simp only [List.map_append, List.append_assoc]; done) | (simp only [List.map_append, List.append_assoc]; rfl))⟩
          | exact ⟨i + 1, (s0 :: ss0), out ++ runes r.«to», kA, ⟨by first | omega | (simp; omega), by cases Nat.lt_or_ge i (runes s).length with | inl hlt => (first | (exfalso; omega) | (left; refine ⟨by omega, ?_⟩; rw [← hf2, hdc hlt, resF_cons]; clear hf2 hf hdc hdn; simp_all; done)) | inr hge => (first | (exfalso; omega) | (right; refine ⟨by omega, ?_⟩; rw [← hf2, hdn (by omega), resF_nil]; clear hf2 hf hdc hdn; simp_all; done))⟩, by omega, St.Le.of ⟨rfl, rfl, rfl, rfl, (by show some _ = some _; first | (simp only [List.map_append, List.append_assoc]; done) | (simp only [List.map_append, List.append_assoc]; rfl)), rfl, trivial⟩ rfl (by first | (simp only [List.map_append, List.append_assoc]; done) | (simp only [List.map_append, List.append_assoc]; rfl))⟩
          | exact ⟨i + 1, [], out ++ runes r.«to», kA, ⟨by first | omega | (simp; omega), by cases Nat.lt_or_ge i (runes s).length with | inl hlt => (first | (exfalso; omega) | (left; refine ⟨by omega, ?_⟩; rw [← hf2, hdc hlt, resF_cons]; clear hf2 hf hdc hdn; simp_all; done)) | inr hge => (first | (exfalso; omega) | (right; refine ⟨by omega, ?_⟩; rw [← hf2, hdn (by omega), resF_nil]; clear hf2 hf hdc hdn; simp_all; done))⟩, by omega, St.Le.of ⟨rfl, rfl, rfl, rfl, (by show some _ = some _; first | (simp only [List.map_append, List.append_assoc]; done) | (simp only [List.map_append, List.append_assoc]; rfl)), rfl, trivial⟩ rfl (by first | (simp only [List.map_append, List.append_assoc]; done) | (simp only [List.map_append, List.append_assoc]; rfl))⟩
          | exact ⟨i + 1, ss0, out ++ [(runes s)[i]], kB, ⟨by first | omega | (simp; omega), by cases Nat.lt_or_ge i (runes s).length with | inl hlt => (first | (exfalso; omega) | (left; refine ⟨by omega, ?_⟩; rw [← hf2, hdc hlt, resF_cons]; clear hf2 hf hdc hdn; simp_all; done)) | inr hge => (first | (exfalso; omega) | (right; refine ⟨by omega, ?_⟩; rw [← hf2, hdn (by omega), resF_nil]; clear hf2 hf hdc hdn; simp_all; done))⟩, by omega, St.Le.of ⟨rfl, rfl, rfl, rfl, (by show some _ = some _; first | (simp only [List.map_append, List.append_assoc]; done) | (simp only [List.map_append, List.append_assoc]; rfl)), rfl, trivial⟩ rfl (by first | (simp only [List.map_append, List.append_assoc]; done) | (simp only [List.map_append, List.append_assoc]; rfl))⟩
          | exact ⟨i + 1, (s0 :: ss0), out ++ [(runes s)[i]], kB, ⟨by first | omega | (simp; omega), by cases Nat.lt_or_ge i (runes s).length with | inl hlt => (first | (exfalso; omega) | (left; refine ⟨by omega, ?_⟩; rw [← hf2, hdc hlt, resF_cons]; clear hf2 hf hdc hdn; simp_all; done)) | inr hge => (first | (exfalso; omega) | (right; refine ⟨by omega, ?_⟩; rw [← hf2, hdn (by omega), resF_nil]; clear hf2 hf hdc hdn; simp_all; done))⟩, by omega, St.Le.of ⟨rfl, rfl, rfl, rfl, (by show some _ = some _; first | (simp only [List.map_append, List.append_assoc]; done) | (simp only [List.map_append, List.append_assoc]; rfl)), rfl, trivial⟩ rfl (by first | (simp only [List.map_append, List.append_assoc]; done) | (simp only [List.map_append, List.append_assoc]; rfl))⟩
          | exact ⟨i + 1, [], out ++ [(runes s)[i]], kB, ⟨by first | omega | (simp; omega), by cases Nat.lt_or_ge i (runes s).length with | inl hlt => (first | (exfalso; omega) | (left; refine ⟨by omega, ?_⟩; rw [← hf2, hdc hlt, resF_cons]; clear hf2 hf hdc hdn; simp_all; done)) | inr hge => (first | (exfalso; omega) | (right; refine ⟨by omega, ?_⟩; rw [← hf2, hdn (by omega), resF_nil]; clear hf2 hf hdc hdn; simp_all; done))⟩, by omega, St.Le.of ⟨rfl, rfl, rfl, rfl, (by show some _ = some _; first | (simp only [List.map_append, List.append_assoc]; done) | (simp only [List.map_append, List.append_assoc]; rfl)), rfl, trivial⟩ rfl (by first | (simp only [List.map_append, List.append_assoc]; done) | (simp only [List.map_append, List.append_assoc]; rfl))⟩
          | exact ⟨i + 1, ss0, out, k, ⟨by first | omega | (simp; omega), by cases Nat.lt_or_ge i (runes s).length with | inl hlt => (first | (exfalso; omega) | (left; refine ⟨by omega, ?_⟩; rw [← hf2, hdc hlt, resF_cons]; clear hf2 hf hdc hdn; simp_all; done)) | inr hge => (first | (exfalso; omega) | (right; refine ⟨by omega, ?_⟩; rw [← hf2, hdn (by omega), resF_nil]; clear hf2 hf hdc hdn; simp_all; done))⟩, by omega, St.Le.of ⟨rfl, rfl, rfl, rfl, rfl, rfl, trivial⟩ rfl (rfl)⟩
          | exact ⟨i + 1, (s0 :: ss0), out, k, ⟨by first | omega | (simp; omega), by cases Nat.lt_or_ge i (runes s).length with | inl hlt => (first | (exfalso; omega) | (left; refine ⟨by omega, ?_⟩; rw [← hf2, hdc hlt, resF_cons]; clear hf2 hf hdc hdn; simp_all; done)) | inr hge => (first | (exfalso; omega) | (right; refine ⟨by omega, ?_⟩; rw [← hf2, hdn (by omega), resF_nil]; clear hf2 hf hdc hdn; simp_all; done))⟩, by omega, St.Le.of ⟨rfl, rfl, rfl, rfl, rfl, rfl, trivial⟩ rfl (rfl)⟩
          | exact ⟨i + 1, [], out, k, ⟨by first | omega | (simp; omega), by cases Nat.lt_or_ge i (runes s).length with | inl hlt => (first | (exfalso; omega) | (left; refine ⟨by omega, ?_⟩; rw [← hf2, hdc hlt, resF_cons]; clear hf2 hf hdc hdn; simp_all; done)) | inr hge => (first | (exfalso; omega) | (right; refine ⟨by omega, ?_⟩; rw [← hf2, hdn (by omega), resF_nil]; clear hf2 hf hdc hdn; simp_all; done))⟩, by omega, St.Le.of ⟨rfl, rfl, rfl, rfl, rfl, rfl, trivial⟩ rfl (rfl)⟩
      · try simp only [decide_eq_true_eq, decide_eq_false_iff_not, Bool.not_eq_true', Bool.not_eq_false', beq_iff_eq, bne_iff_ne, ne_eq, beq_eq_false_iff_ne, bne_eq_false_iff_eq, Int.not_lt, Int.not_le, Nat.not_lt, Nat.not_le, Int.ofNat_lt, Int.ofNat_le, Bool.not_eq_eq_eq_not, Bool.not_true, Bool.not_false] at hb10
        refine SOps.skip rfl ?_
        refine SOps.skip rfl ?_
        refine SOps.skip rfl ?_
        refine SOps.skip rfl ?_
        refine SOps.skip rfl ?_
        refine SOps.skip rfl ?_
        refine SOps.skip rfl ?_
        refine SOps.pick rfl rfl ?_
        refine SOps.nil ?_
        refine SCode.cond rfl (fun h => by cases h) (fun _ => ?_)
        refine SCode.skip ?_
        show SCode _ _ _ _
        refine SCode.region ?_
        refine SOps.move rfl ?_
        refine SOps.addI rfl rfl (by first | omega | (simp only [lenB]; omega)) (by first | omega | (simp only [lenB]; omega)) ?_
        refine SOps.assign rfl ?_
        refine SOps.nil ?_
        first
          | (exfalso; simp only [List.getElem_cons_zero] at *; omega)
          | exact ⟨i + 1, ss0, out ++ runes r.«to» ++ [(runes s)[i]], ((fun _ : Nat => kB) kA), ⟨by first | omega | (simp; omega), by cases Nat.lt_or_ge i (runes s).length with | inl hlt => (first | (exfalso; omega) | (left; refine ⟨by omega, ?_⟩; rw [← hf2, hdc hlt, resF_cons]; clear hf2 hf hdc hdn; simp_all; done)) | inr hge => (first | (exfalso; omega) | (right; refine ⟨by omega, ?_⟩; rw [← hf2, hdn (by omega), resF_nil]; clear hf2 hf hdc hdn; simp_all; done))⟩, by omega, St.Le.of ⟨rfl, rfl, rfl, rfl, (by show some _ = some _; first | (simp only [List.map_append, List.append_assoc]; done) | (simp only [List.map_append, List.append_assoc]; rfl)), rfl, trivial⟩ rfl (by first | (simp only [List.map_append, List.append_assoc]; done) | (simp only [List.map_append, List.append_assoc]; rfl))⟩
          | exact ⟨i + 1, (s0 :: ss0), out ++ runes r.«to» ++ [(runes s)[i]], ((fun _ : Nat => kB) kA), ⟨by first | omega | (simp; omega), by cases Nat.lt_or_ge i (runes s).length with | inl hlt => (first | (exfalso; omega) | (left; refine ⟨by omega, ?_⟩; rw [← hf2, hdc hlt, resF_cons]; clear hf2 hf hdc hdn; simp_all; done)) | inr hge => (first | (exfalso; omega) | (right; refine ⟨by omega, ?_⟩; rw [← hf2, hdn (by omega), resF_nil]; clear hf2 hf hdc hdn; simp_all; done))⟩, by omega, St.Le.of ⟨rfl, rfl, rfl, rfl, (by show some _ = some _; first | (simp only [List.map_append, List.append_assoc]; done) | (simp only [List.map_append, List.append_assoc]; rfl)), rfl, trivial⟩ rfl (by first | (simp only [List.map_append, List.append_assoc]; done) | (simp only [List.map_append, List.append_assoc]; rfl))⟩
          | exact ⟨i + 1, [], out ++ runes r.«to» ++ [(runes s)[i]], ((fun _ : Nat => kB) kA), ⟨by first | omega | (simp; omega), by cases Nat.lt_or_ge i (runes s).length with | inl hlt => (first | (exfalso; omega) | (left; refine ⟨by omega, ?_⟩; rw [← hf2, hdc hlt, resF_cons]; clear hf2 hf hdc hdn; simp_all; done)) | inr hge => (first | (exfalso; omega) | (right; refine ⟨by omega, ?_⟩; rw [← hf2, hdn (by omega), resF_nil]; clear hf2 hf hdc hdn; simp_all; done))⟩, by omega, St.Le.of ⟨rfl, rfl, rfl, rfl, (by show some _ = some _; first | (simp only [List.map_append, List.append_assoc]; done) | (simp only [List.map_append, List.append_assoc]; rfl)), rfl, trivial⟩ rfl (by first | (simp only [List.map_append, List.append_assoc]; done) | (simp only [List.map_append, List.append_assoc]; rfl))⟩
          | exact ⟨i + 1, ss0, out ++ runes r.«to», kA, ⟨by first | omega | (simp; omega), by cases Nat.lt_or_ge i (runes s).length with | inl hlt => (first | (exfalso; omega) | (left; refine ⟨by omega, ?_⟩; rw [← hf2, hdc hlt, resF_cons]; clear hf2 hf hdc hdn; simp_all; done)) | inr hge => (first | (exfalso; omega) | (right; refine ⟨by omega, ?_⟩; rw [← hf2, hdn (by omega), resF_nil]; clear hf2 hf hdc hdn; simp_all; done))⟩, by omega, St.Le.of ⟨rfl, rfl, rfl, rfl, (by show some _ = some _; first | (simp only [List.map_append, List.append_assoc]; done) | (simp only [List.map_append, List.append_assoc]; rfl)), rfl, trivial⟩ rfl (by first | (simp only [List.map_append, List.append_assoc]; done) | (simp only [List.map_append, List.append_assoc]; rfl))⟩
          | exact ⟨i + 1, (s0 :: ss0), out ++ runes r.«to», kA, ⟨by first | omega | (simp; omega), by cases Nat.lt_or_ge i (runes s).length with | inl hlt => (first | (exfalso; omega) | (left; refine ⟨by omega, ?_⟩; rw [← hf2, hdc hlt, resF_cons]; clear hf2 hf hdc hdn; simp_all; done)) | inr hge => (first | (exfalso; omega) | (right; refine ⟨by omega, ?_⟩; rw [← hf2, hdn (by omega), resF_nil]; clear hf2 hf hdc hdn; simp_all; done))⟩, by omega, St.Le.of ⟨rfl, rfl, rfl, rfl, (by show some _ = some _; first | (simp only [List.map_append, List.append_assoc]; done) | (simp only [List.map_append, List.append_assoc]; rfl)), rfl, trivial⟩ rfl (by first | (simp only [List.map_append, List.append_assoc]; done) | (simp only [List.map_append, List.append_assoc]; rfl))⟩
          | exact ⟨i + 1, [], out ++ runes r.«to», kA, ⟨by first | omega | (simp; omega), by cases Nat.lt_or_ge i (runes s).length with | inl hlt => (first | (exfalso; omega) | (left; refine ⟨by omega, ?_⟩; rw [← hf2, hdc hlt, resF_cons]; clear hf2 hf hdc hdn; simp_all; done)) | inr hge => (first | (exfalso; omega) | (right; refine ⟨by omega, ?_⟩; rw [← hf2, hdn (by omega), resF_nil]; clear hf2 hf hdc hdn; simp_all; done))⟩, by omega, St.Le.of ⟨rfl, rfl, rfl, rfl, (by show some _ = some _; first | (simp only [List.map_append, List.append_assoc]; done) | (simp only [List.map_append, List.append_assoc]; rfl)), rfl, trivial⟩ rfl (by first | (simp only [List.map_append, List.append_assoc]; done) | (simp only [List.map_append, List.append_assoc]; rfl))⟩
          | exact ⟨i + 1, ss0, out ++ [(runes s)[i]], kB, ⟨by first | omega | (simp; omega), by cases Nat.lt_or_ge i (runes s).length with | inl hlt => (first | (exfalso; omega) | (left; refine ⟨by omega, ?_⟩; rw [← hf2, hdc hlt, resF_cons]; clear hf2 hf hdc hdn; simp_all; done)) | inr hge => (first | (exfalso; omega) | (right; refine ⟨by omega, ?_⟩; rw [← hf2, hdn (by omega), resF_nil]; clear hf2 hf hdc hdn; simp_all; done))⟩, by omega, St.Le.of ⟨rfl, rfl, rfl, rfl, (by show some _ = some _; first | (simp only [List.map_append, List.append_assoc]; done) | (simp only [List.map_append, List.append_assoc]; rfl)), rfl, trivial⟩ rfl (by first | (simp only [List.map_append, List.append_assoc]; done) | (simp only [List.map_append, List.append_assoc]; rfl))⟩
          | exact ⟨i + 1, (s0 :: ss0), out ++ [(runes s)[i]], kB, ⟨by first | omega | (simp; omega), by cases Nat.lt_or_ge i (runes s).length with | inl hlt => (first | (exfalso; omega) | (left; refine ⟨by omega, ?_⟩; rw [← hf2, hdc hlt, resF_cons]; clear hf2 hf hdc hdn; simp_all; done)) | inr hge => (first | (exfalso; omega) | (right; refine ⟨by omega, ?_⟩; rw [← hf2, hdn (by omega), resF_nil]; clear hf2 hf hdc hdn; simp_all; done))⟩, by omega, St.Le.of ⟨rfl, rfl, rfl, rfl, (by show some _ = some _; first | (simp only [List.map_append, List.append_assoc]; done) | (simp only [List.map_append, List.append_assoc]; rfl)), rfl, trivial⟩ rfl (by first | (simp only [List.map_append, List.append_assoc]; done) | (simp only [List.map_append, List.append_assoc]; rfl))⟩
          | exact ⟨i + 1, [], out ++ [(runes s)[i]], kB, ⟨by first | omega | (simp; omega), by cases Nat.lt_or_ge i (runes s).length with | inl hlt => (first | (exfalso; omega) | (left; refine ⟨by omega, ?_⟩; rw [← hf2, hdc hlt, resF_cons]; clear hf2 hf hdc hdn; simp_all; done)) | inr hge => (first | (exfalso; omega) | (right; refine ⟨by omega, ?_⟩; rw [← hf2, hdn (by omega), resF_nil]; clear hf2 hf hdc hdn; simp_all; done))⟩, by omega, St.Le.of ⟨rfl, rfl, rfl, rfl, (by show some _ = some _; first | (simp only [List.map_append, List.append_assoc]; done) | (simp only [List.map_append, List.append_assoc]; rfl)), rfl, trivial⟩ rfl (by first | (simp only [List.map_append, List.append_assoc]; done) | (simp only [List.map_append, List.append_assoc]; rfl))⟩
          | exact ⟨i + 1, ss0, out, k, ⟨by first | omega | (simp; omega), by cases Nat.lt_or_ge i (runes s).length with | inl hlt => (first | (exfalso; omega) | (left; refine ⟨by omega, ?_⟩; rw [← hf2, hdc hlt, resF_cons]; clear hf2 hf hdc hdn; simp_all; done)) | inr hge => (first | (exfalso; omega) | (right; refine ⟨by omega, ?_⟩; rw [← hf2, hdn (by omega), resF_nil]; clear hf2 hf hdc hdn; simp_all; done))⟩, by omega, St.Le.of ⟨rfl, rfl, rfl, rfl, rfl, rfl, trivial⟩ rfl (rfl)⟩
          | exact ⟨i + 1, (s0 :: ss0), out, k, ⟨by first | omega | (simp; omega), by cases Nat.lt_or_ge i (runes s).length with | inl hlt => (first | (exfalso; omega) | (left; refine ⟨by omega, ?_⟩; rw [← hf2, hdc hlt, resF_cons]; clear hf2 hf hdc hdn; simp_all; done)) | inr hge => (first | (exfalso; omega) | (right; refine ⟨by omega, ?_⟩; rw [← hf2, hdn (by omega), resF_nil]; clear hf2 hf hdc hdn; simp_all; done))⟩, by omega, St.Le.of ⟨rfl, rfl, rfl, rfl, rfl, rfl, trivial⟩ rfl (rfl)⟩
          | exact ⟨i + 1, [], out, k, ⟨by first | omega | (simp; omega), by cases Nat.lt_or_ge i (runes s).length with | inl hlt => (first | (exfalso; omega) | (left; refine ⟨by omega, ?_⟩; rw [← hf2, hdc hlt, resF_cons]; clear hf2 hf hdc hdn; simp_all; done)) | inr hge => (first | (exfalso; omega) | (right; refine ⟨by omega, ?_⟩; rw [← hf2, hdn (by omega), resF_nil]; clear hf2 hf hdc hdn; simp_all; done))⟩, by omega, St.Le.of ⟨rfl, rfl, rfl, rfl, rfl, rfl, trivial⟩ rfl (rfl)⟩
  · try simp only [decide_eq_true_eq, decide_eq_false_iff_not, Bool.not_eq_true', Bool.not_eq_false', beq_iff_eq, bne_iff_ne, ne_eq, beq_eq_false_iff_ne, bne_eq_false_iff_eq, Int.not_lt, Int.not_le, Nat.not_lt, Nat.not_le, Int.ofNat_lt, Int.ofNat_le, Bool.not_eq_eq_eq_not, Bool.not_true, Bool.not_false] at hc1
    refine SCode.exit ?_
    show SCode _ _ _ _
    refine SCode.seqR ?_
    obtain ⟨_, rfl⟩ := hf.resolve_left (by omega)
    refine SOps.freezeAcc (t := 9) [] [] rfl rfl rfl ?_
    refine SOps.move rfl ?_
    refine SOps.convRunesStr rfl sliceB_35_21_1 intB_21_i32 strB_9 (by simp [lenB] <;> (first | omega | (simp only [lenB]; omega))) ?_
    refine SOps.assign rfl ?_
    refine SOps.nil ?_
    refine SCode.ret ?_
    exact ⟨_, Res.one (.tmp rfl), rfl, rfl⟩
end Go.GH
namespace Go.Proofs
open Go.Shelf
def Tryd.laysValid_ren : Go.Shelf.Ren := ⟨fun | 196 => 46 | 259 => 54 | n => n, fun | 9 => 9 | 4 => 4 | 3 => 3 | 5 => 5 | 12 => 12 | 119 => 74 | 0 => 0 | 46 => 78 | 139 => 77 | 138 => 76 | 53 => 86 | n => n, fun | 3 => 0 | 4 => 1 | n => n⟩
theorem Tryd.laysValid : Go.Proofs.Lays.n196 Tryd.prog Tryd.laysValid_ren := {
  mixed := by kernel_rfl
  f196 := Tryd.func46.trans (congrArg some (by kernel_rfl))
  f259 := Tryd.func54.trans (congrArg some (by kernel_rfl))
  t0 := Tryd.underlying0
  a0 := Tryd.isAgg0
  z0 := Tryd.sizeOf0
  v0 := Tryd.zeroValue0
  t3 := Tryd.underlying3
  a3 := Tryd.isAgg3
  z3 := Tryd.sizeOf3
  v3 := Tryd.zeroValue3
  t4 := Tryd.underlying4
  a4 := Tryd.isAgg4
  z4 := Tryd.sizeOf4
  v4 := Tryd.zeroValue4
  t5 := Tryd.underlying5
  a5 := Tryd.isAgg5
  z5 := Tryd.sizeOf5
  v5 := Tryd.zeroValue5
  t9 := Tryd.underlying9
  a9 := Tryd.isAgg9
  z9 := Tryd.sizeOf9
  v9 := Tryd.zeroValue9
  t12 := Tryd.underlying12
  a12 := Tryd.isAgg12
  z12 := Tryd.sizeOf12
  v12 := Tryd.zeroValue12
  t46 := Tryd.underlying78
  a46 := Tryd.isAgg78
  z46 := Tryd.sizeOf78
  v46 := Tryd.zeroValue78
  t53 := Tryd.underlying86
  a53 := Tryd.isAgg86
  z53 := Tryd.sizeOf86
  v53 := Tryd.zeroValue86
  t119 := Tryd.underlying74
  a119 := Tryd.isAgg74
  z119 := Tryd.sizeOf74
  t138 := Tryd.underlying76
  a138 := Tryd.isAgg76
  z138 := Tryd.sizeOf76
  v138 := Tryd.zeroValue76
  t139 := Tryd.underlying77
  a139 := Tryd.isAgg77
  z139 := Tryd.sizeOf77
  v139 := Tryd.zeroValue77
  g3 := by kernel_rfl
  g4 := by kernel_rfl }
end Go.Proofs
namespace Go.GH
open Go Go.RowKit

inductive DTy where
  | int (k : IntKind)
  | str
  | bool
  | sl (L : List DTy)
/-- The cells of a value of type t. -/
inductive TyIs (P : Program) : TypeId → List DTy → Prop
  | int {t : TypeId} {k : IntKind} (h : P.underlying t = some (.int k)) : TyIs P t [.int k]
  | str {t : TypeId} (h : P.underlying t = some .string) : TyIs P t [.str]
  | bool {t : TypeId} (h : P.underlying t = some .bool) : TyIs P t [.bool]
  | sl {t e : TypeId} {L : List DTy} (h : P.underlying t = some (.slice e)) (he : TyIs P e L) (hc : P.cellsOf e = L.length) (hne : L ≠ []) : TyIs P t [.sl L]
  | struct {t : TypeId} {fs : Array Field} (Ls : List (List DTy)) (h : P.underlying t = some (.struct fs)) (hc : P.cellsOf t = Ls.flatten.length) (hl : Ls.length = fs.size)
      (hf : ∀ (i : Nat) f Li, fs[i]? = some f → Ls[i]? = some Li → TyIs P f.type Li) (ho : ∀ (i : Nat) f Li, fs[i]? = some f → Ls[i]? = some Li → f.offset = (Ls.take i).flatten.length ∧ P.cellsOf f.type = Li.length) : TyIs P t Ls.flatten
inductive HasD : DTy → DV → Prop
  | int {k : IntKind} {n : Int} (h : k.has n) : HasD (.int k) (.v (.int k n))
  | str {s : ByteArray} (h : s.size ≤ lenB) : HasD .str (.v (.string s))
  | bool {b : Bool} : HasD .bool (.v (.bool b))
  | sl {L : List DTy} {es : List (List DV)} (hl : ∀ (i : Nat) e, es[i]? = some e → e.length = L.length) (hd : ∀ (i : Nat) e (j : Nat) d ty, es[i]? = some e → e[j]? = some d → L[j]? = some ty → HasD ty d) : HasD (.sl L) (.isl false L.length es)

def AllF (w : World) : Nat → Prop := fun b => b < w.heap.size
def Cells (w : World) (cs : List Value) (L : List DTy) (ds : List DV) : Prop :=
  cs.length = L.length ∧ ds.length = L.length ∧ ∀ (j : Nat) v d ty, cs[j]? = some v → ds[j]? = some d → L[j]? = some ty → Rep w (AllF w) v d ∧ HasD ty d ∧ v.oneCell' = true
theorem cell?_lt {w : World} {a : Addr} {v : Value} (h : w.cell? a = some v) : a.block < w.heap.size ∧ a.spot = none := by
  unfold World.cell? at h
  split at h
  · rename_i c _ _ hb
    refine ⟨(Array.getElem?_eq_some_iff.1 hb).1, ?_⟩
    split at h
    · cases h
    · rename_i hs; simpa using hs
  · cases h
theorem lit_int_wf {k : IntKind} {n : Int} (h : (Lit.int k n).wf = true) : k.has n := by
  simp [Lit.wf, IntKind.has] at h ⊢
  exact h

def PW (w : World) (cs : List Value) (L : List DTy) : Prop :=
  cs.length = L.length ∧ ∀ (j : Nat) v ty, cs[j]? = some v → L[j]? = some ty → ∃ d, Rep w (AllF w) v d ∧ HasD ty d ∧ v.oneCell' = true
theorem PW.cells {w : World} {cs : List Value} {L : List DTy} (h : PW w cs L) : ∃ ds, Cells w cs L ds := by
  have key : ∀ j, ∃ d, ∀ v ty, cs[j]? = some v → L[j]? = some ty → Rep w (AllF w) v d ∧ HasD ty d ∧ v.oneCell' = true := fun j => by
    by_cases hj : j < L.length
    · obtain ⟨d, hd⟩ := h.2 j _ _ (List.getElem?_eq_getElem (show j < cs.length by rw [h.1]; exact hj)) (List.getElem?_eq_getElem hj)
      refine ⟨d, fun v ty hv ht => ?_⟩
      rw [List.getElem?_eq_getElem (show j < cs.length by rw [h.1]; exact hj)] at hv
      rw [List.getElem?_eq_getElem hj] at ht
      obtain rfl := Option.some.inj hv
      obtain rfl := Option.some.inj ht
      exact hd
    · exact ⟨.any, fun v ty _ ht => absurd (List.getElem?_eq_some_iff.1 ht).1 hj⟩
  refine ⟨(List.range L.length).map (fun j => (key j).choose), h.1, by simp, fun j v d ty hv hd ht => ?_⟩
  rw [List.getElem?_map] at hd
  obtain ⟨q, hq, rfl⟩ := Option.map_eq_some_iff.1 hd
  have hlt : j < L.length := (List.getElem?_eq_some_iff.1 ht).1
  rw [List.getElem?_range hlt] at hq
  obtain rfl := Option.some.inj hq
  exact (key j).choose_spec v ty hv ht
theorem PW.one {w : World} {v : Value} {ty : DTy} {d : DV} (h1 : Rep w (AllF w) v d) (h2 : HasD ty d) (h3 : v.oneCell' = true) : PW w [v] [ty] :=
  ⟨rfl, fun j u t hv ht => by
    match j, hv, ht with
    | 0, hv, ht => simp at hv ht; subst hv; subst ht; exact ⟨d, h1, h2, h3⟩
    | j + 1, hv, ht => simp at hv⟩
theorem flatten_find {α : Type} : ∀ (Ls : List (List α)) (j : Nat) (x : α), Ls.flatten[j]? = some x → ∃ (i : Nat) (Li : List α) (q : Nat), Ls[i]? = some Li ∧ Li[q]? = some x ∧ j = (Ls.take i).flatten.length + q
  | [], j, x, h => by simp at h
  | L :: Ls, j, x, h => by
    rw [List.flatten_cons, List.getElem?_append] at h
    split at h
    · exact ⟨0, L, j, rfl, h, by simp⟩
    · rename_i hlt
      obtain ⟨i, Li, q, h1, h2, h3⟩ := flatten_find Ls _ x h
      exact ⟨i + 1, Li, q, by simpa using h1, h2, by rw [List.take_succ_cons, List.flatten_cons, List.length_append]; omega⟩

theorem pw_trod {H : Type} {enc : TypeId × Value → H} {P : Program} {w : World} {sp : Nat → Bool} {held : Bool} {t : TypeId} {L : List DTy} (h : TyIs P t L) :
    ∀ (fuel : Nat) (cs : List Value) (x : DataW H × List MemPlace), DataW.trod enc P w 0 sp held fuel t cs = some x → PW w cs L := by
  induction h with
  | @int t k h =>
    intro fuel cs x hx
    obtain ⟨n, rfl, _, hwf⟩ := DataW.trod_int h hx
    exact .one (d := .v (.int k n)) (.v (show k.has n from lit_int_wf hwf)) (.int (lit_int_wf hwf)) rfl
  | @str t h =>
    intro fuel cs x hx
    obtain ⟨s, rfl, _, hs⟩ := DataW.trod_string h hx
    have hs : s.size ≤ lenB := by
      have e : maxLen = lenB := by decide
      omega
    exact .one (d := .v (.string s)) (.v hs) (.str hs) rfl
  | @bool t h =>
    intro fuel cs x hx
    obtain ⟨b, rfl, _⟩ := DataW.trod_bool h hx
    exact .one (d := .v (.bool b)) (.v trivial) .bool rfl
  | @sl t e L h he hc hne ih =>
    intro fuel cs x hx
    rcases DataW.trod_slice h hx with ⟨rfl, _⟩ | ⟨a, len, cap, elems, rest, n, rfl, rfl, _, hb, hl, hm, hlen, hel, _, _⟩
    · exact .one (d := .isl false L.length []) (.isl (b := 0) (o := 0) (fun _ _ => undef) rfl (by omega) (by simp [lenB]) (fun h => by cases h) (fun h => absurd rfl h) (fun i e h => by simp at h) (fun i e j d h => by simp at h) (fun i e j d h => by simp at h))
        (.sl (fun i e h => by simp at h) (fun i e j d ty h => by simp at h)) rfl
    · have key : ∀ i, ∃ p : List Value × List DV, i < len → w.cells? 0 (a.add (i * L.length)) L.length = some p.1 ∧ Cells w p.1 L p.2 := fun i => by
        by_cases hi : i < len
        · have h1 := hel i hi
          rw [List.getElem?_eq_getElem (by omega)] at h1
          obtain ⟨cs', h2, h3⟩ := Option.bind_eq_some_iff.1 h1
          obtain ⟨ds, hds⟩ := (ih n cs' _ h3).cells
          exact ⟨(cs', ds), fun _ => ⟨by rw [← hc]; exact h2, hds⟩⟩
        · exact ⟨([], []), fun h => absurd h hi⟩
      have hpos : 0 < L.length := List.length_pos_iff.2 hne
      have hspot : 0 < len → a.spot = none ∧ a.block < w.heap.size := fun h0 => by
        obtain ⟨h1, h2, _⟩ := (key 0).choose_spec h0
        obtain ⟨_, _, h4⟩ := World.cells?_some h1
        have h5 := h4 0 hpos
        rw [List.getElem?_eq_getElem (by omega)] at h5
        simp only [Nat.zero_mul] at h5
        have h6 := cell?_lt h5
        simp [Addr.add] at h6
        exact ⟨h6.2, h6.1⟩
      have hadd : 0 < len → ∀ q, a.add q = ⟨a.block, a.off + q, none⟩ := fun h0 q => by
        have := (hspot h0).1
        obtain ⟨b, o, s⟩ := a
        simp only at this
        subst this
        exact add_plain' b o q
      let es : List (List DV) := (List.range len).map (fun i => (key i).choose.2)
      have hes : ∀ (i : Nat) e, es[i]? = some e → i < len ∧ e = (key i).choose.2 := fun i e hi => by
        simp only [es, List.getElem?_map] at hi
        obtain ⟨q, hq, rfl⟩ := Option.map_eq_some_iff.1 hi
        have hlt : i < len := by have := (List.getElem?_eq_some_iff.1 hq).1; simpa using this
        rw [List.getElem?_range hlt] at hq
        obtain rfl := Option.some.inj hq
        exact ⟨hlt, rfl⟩
      have hcell : ∀ (i : Nat) e (j : Nat) d, es[i]? = some e → e[j]? = some d → ∃ v ty, L[j]? = some ty ∧ w.cell? ⟨a.block, a.off + (i * L.length + j), none⟩ = some v ∧ ((key i).choose.1)[j]? = some v ∧ Rep w (AllF w) v d ∧ HasD ty d ∧ v.oneCell' = true := fun i e j d hi hj => by
        obtain ⟨hlt, rfl⟩ := hes i e hi
        obtain ⟨h1, h2, h3, h4⟩ := (key i).choose_spec hlt
        obtain ⟨_, _, h5⟩ := World.cells?_some h1
        have hjl : j < L.length := by rw [← h3]; exact (List.getElem?_eq_some_iff.1 hj).1
        have hv := List.getElem?_eq_getElem (show j < ((key i).choose.1).length by omega)
        refine ⟨_, _, List.getElem?_eq_getElem hjl, ?_, hv, h4 j _ d _ hv hj (List.getElem?_eq_getElem hjl)⟩
        rw [← hv, ← h5 j hjl, hadd (by omega), add_plain', Nat.add_assoc]
      have hesl : es.length = len := by simp [es]
      have hmx : maxLen = lenB := by decide
      refine .one (d := .isl false L.length es) (.isl (b := a.block) (o := a.off) (fun i j => (((key i).choose.1)[j]?).getD undef) hesl.symm hl (by omega) (fun h => by cases h) (fun hne' => ?_) (fun i e hi => ?_) (fun i e j d hi hj => ?_) (fun i e j d hi hj => ?_)) (.sl (fun i e hi => ?_) (fun i e j d ty hi hj hty => ?_)) rfl
      · have h0 : 0 < len := by
          rcases Nat.eq_zero_or_pos len with h | h
          · exact absurd (by simp [es, h]) hne'
          · exact h
        refine ⟨?_, (hspot h0).2⟩
        have := (hspot h0).1
        obtain ⟨b, o, s⟩ := a
        simp only at this
        subst this
        rfl
      · obtain ⟨hlt, rfl⟩ := hes i e hi; exact ((key i).choose_spec hlt).2.2.1
      · obtain ⟨v, ty, _, h2, h3, _, _, h6⟩ := hcell i e j d hi hj
        simp only [h3, Option.getD_some]
        exact ⟨h2, h6⟩
      · obtain ⟨v, ty, _, _, h3, h4, _⟩ := hcell i e j d hi hj
        simp only [h3, Option.getD_some]
        exact h4
      · obtain ⟨hlt, rfl⟩ := hes i e hi; exact ((key i).choose_spec hlt).2.2.1
      · obtain ⟨v, ty', h1, _, _, _, h5, _⟩ := hcell i e j d hi hj
        rw [h1] at hty
        obtain rfl := Option.some.inj hty
        exact h5
  | @struct t fs Ls h hc hl hf ho ih =>
    intro fuel cs x hx
    obtain ⟨xs, n, rfl, _, hlen, hxl, hx⟩ := DataW.trod_struct h hx
    refine ⟨hlen.trans hc, fun j v ty hv hty => ?_⟩
    obtain ⟨i, Li, q, h1, h2, rfl⟩ := flatten_find Ls j ty hty
    have hi : i < fs.size := by rw [← hl]; exact (List.getElem?_eq_some_iff.1 h1).1
    have hfi := Array.getElem?_eq_getElem hi
    obtain ⟨o1, o2⟩ := ho i _ Li hfi h1
    have h3 := hx i _ hfi
    rw [List.getElem?_eq_getElem (show i < xs.length by omega)] at h3
    obtain ⟨_, h4⟩ := ih i _ Li hfi h1 n _ _ h3
    have hql : q < Li.length := (List.getElem?_eq_some_iff.1 h2).1
    exact h4 q v ty (by rw [List.getElem?_take, if_pos (by omega), List.getElem?_drop, o1]; exact hv) h2

/-- What a law's contract leaves. -/
theorem CPost.told {E : Env} {w : World} {F : Nat → Prop} {x : Value} {e : Ending} {w' : World} (h : CPost E w F [] (fun d H => d = .v x ∧ H = []) e w') : e = .returned x ∧ Below w.heap.size w w' := by
  obtain ⟨u, d, H', F', rfl, ⟨rfl, rfl⟩, _, _, hr, _, _, hst⟩ := h
  exact ⟨by rw [hr.inv_v.1], (hst.mono (T' := fun _ => False) (fun i _ hi => by cases hi)).below⟩
/-- A law's contract, at a world where every block stands. -/
theorem GCall.told {P : Program} {E : Env} {f : FuncId} {ds : List DV} {x : Value} (h : GCall P E f ds [] (fun d H => d = .v x ∧ H = [])) {w : World} {vs : Array Value} (hE : E.holds w (AllF w)) (hl : vs.size = ds.length)
    (hr : ∀ (j : Nat) (v : Value) (d : DV), vs[j]? = some v → ds[j]? = some d → Rep w (AllF w) v d) : Calls P f vs w (fun e w' => e = .returned x ∧ Below w.heap.size w w') :=
  (h.2 w (AllF w) vs hE (fun b hb => hb) hl hr (fun p hp => by cases hp) List.nodup_nil).mono (fun e w' hp => hp.told)
end Go.GH
namespace Go.GH
open Go Go.Lib Go.Proofs Go.RowKit

theorem extract_eq (s : ByteArray) (p : Nat) : (s.extract p (p + 3)).data.toList = (s.data.toList.drop p).take 3 := by
  simp [ByteArray.data_extract, List.take_drop]
theorem dec_fffd {l : List UInt8} (h : l.take 3 = [239, 191, 189]) : decodeL l = (65533, 3) := by
  match l, h with
  | [], h => simp at h
  | [_], h => simp at h
  | [_, _], h => simp at h
  | a :: b :: c :: t, h =>
    simp only [List.take_succ_cons, List.take_zero, List.cons.injEq, and_true] at h
    obtain ⟨rfl, rfl, rfl⟩ := h
    rw [decodeL_N]
    generalize hb : ((239 :: 191 :: 189 :: t : List UInt8).getD 3 0).toNat = b3
    have e0 : ((239 :: 191 :: 189 :: t : List UInt8).getD 0 0).toNat = 239 := rfl
    have e1 : ((239 :: 191 :: 189 :: t : List UInt8).getD 1 0).toNat = 191 := rfl
    have e2 : ((239 :: 191 :: 189 :: t : List UInt8).getD 2 0).toNat = 189 := rfl
    have hn : 2 < (239 :: 191 :: 189 :: t : List UInt8).length := by simp
    rw [e0, e1, e2]
    generalize (239 :: 191 :: 189 :: t : List UInt8).length = n at hn
    unfold decodeN
    rw [if_neg (by omega), if_neg (by omega), if_pos (by omega), if_pos (by omega)]
theorem enc_fffd : encodeRune ((65533 : Nat) : Int) = [239, 191, 189] := by decide
theorem step_valid (s : ByteArray) (p : Nat) (hp : p < s.size) : stepOK s (p, ((Utf8.decode s p).1 : Int)) = !(decide ((Utf8.decode s p).1 = 65533 ∧ (Utf8.decode s p).2 = 1)) := by
  have hd := decodeL_drop s p
  have hlen : (s.data.toList.drop p).length = s.size - p := by simp
  have hne : s.data.toList.drop p ≠ [] := by
    intro h; rw [h] at hlen; simp at hlen; omega
  by_cases hr : (Utf8.decode s p).1 = 65533
  · have hr' : (((Utf8.decode s p).1 : Nat) : Int) = 65533 := by omega
    by_cases h1 : (Utf8.decode s p).2 = 1
    · rw [decide_eq_true ⟨hr, h1⟩]
      simp only [Bool.not_true]
      unfold stepOK
      rw [hr']
      simp only [beq_self_eq_true, Bool.not_true, Bool.false_or, Bool.and_eq_false_iff, decide_eq_false_iff_not]
      refine .inr (fun h => ?_)
      have h2 : (s.data.toList.drop p).take 3 = [239, 191, 189] := by rw [← extract_eq, h]; rfl
      rw [dec_fffd h2] at hd
      rw [← hd] at h1
      cases h1
    · rw [decide_eq_false (fun h => h1 h.2)]
      simp only [Bool.not_false]
      have h3 := encode_decode _ hne (by rw [hd]; exact fun h => h1 h.2)
      rw [hd, hr, enc_fffd] at h3
      have hw : (Utf8.decode s p).2 ≤ 3 ∨ 3 ≤ (Utf8.decode s p).2 := by omega
      have hl3 := congrArg List.length h3
      simp only [List.length_cons, List.length_nil, List.length_take, hlen] at hl3
      have h4 : (s.data.toList.drop p).take 3 = [239, 191, 189] := by
        rw [h3]
        apply List.ext_getElem?
        intro j
        simp only [List.getElem?_take]
        by_cases hj : j < 3
        · rw [if_pos hj, if_pos (by omega)]
        · rw [if_neg hj]
          split
          · rw [List.getElem?_eq_none (by omega)]
          · rfl
      have h5 : s.extract p (p + 3) = efbfbd := by
        apply ByteArray.ext
        apply Array.toList_inj.1
        rw [extract_eq, h4]; rfl
      have : p + 3 ≤ s.size := by
        have := congrArg List.length h4
        simp only [List.length_take, hlen, List.length_cons, List.length_nil] at this
        omega
      unfold stepOK
      rw [hr', h5]
      simp [this]
  · rw [decide_eq_false (fun h => hr h.1), stepOK_no (by omega)]; rfl
theorem valid_at (s : ByteArray) : ∀ (f p : Nat), s.size - p ≤ f → validD (s.data.toList.drop p) = (steps s p).all (stepOK s)
  | 0, p, h => by
    rw [steps_ge (by omega), List.drop_eq_nil_of_le (by simp; omega)]; rfl
  | f + 1, p, h => by
    by_cases hp : p < s.size
    · have hw := decode_w s p
      have hlen : (s.data.toList.drop p).length = s.size - p := by simp
      rw [validD_step _ (by intro h; rw [h] at hlen; simp at hlen; omega), steps_lt hp, List.all_cons, step_valid s p hp, decodeL_drop, List.drop_drop, valid_at s f _ (by omega)]
      by_cases hb : (Utf8.decode s p).1 = 65533 ∧ (Utf8.decode s p).2 = 1
      · rw [if_pos hb, decide_eq_true hb]; rfl
      · rw [if_neg hb, decide_eq_false hb]; rfl
    · rw [steps_ge (by omega), List.drop_eq_nil_of_le (by simp; omega)]; rfl
theorem utf8R_valid (s : ByteArray) : utf8R s = validD s.data.toList := by
  have := valid_at s _ 0 (Nat.le_refl _)
  rw [List.drop_zero] at this
  exact this.symm

/-- The library's two tables, in blocks that never turn. -/
def tabE (g3 g4 : Nat) : Env where
  holds := fun w F => Lib.Utf8Tabs g3 g4 w ∧ F g3 ∧ F g4
  mono := fun {w w' F F'} hw hF h => by
    obtain ⟨⟨h1, h2⟩, h3, h4⟩ := h
    refine ⟨⟨fun c hc => ?_, fun i hi => ⟨?_, ?_⟩⟩, hF _ h3, hF _ h4⟩
    · rw [cell?_same (hw _ h3)]; exact h1 c hc
    · rw [cell?_same (hw _ h4)]; exact (h2 i hi).1
    · rw [cell?_same (hw _ h4)]; exact (h2 i hi).2
abbrev E0 : Env := tabE (Tryd.laysValid_ren.g 3) (Tryd.laysValid_ren.g 4)
theorem tabE_all {g3 g4 : Nat} {w : World} (h : Lib.Utf8Tabs g3 g4 w) : (tabE g3 g4).holds w (AllF w) :=
  ⟨h, (cell?_lt (h.1 0 (by decide))).1, (cell?_lt (h.2 0 (by decide)).1).1⟩

/-- A library's contract that only reads, as a contract over abstract states. -/
theorem GCall.ofCalls {P : Program} {E : Env} {f : FuncId} {ds : List DV} {x : Value} (hb : hasBody P f = true) (hx : scal x)
    (h : ∀ w F (vs : Array Value), E.holds w F → vs.size = ds.length → (∀ (j : Nat) (v : Value) (d : DV), vs[j]? = some v → ds[j]? = some d → Rep w F v d) → Calls P f vs w (fun e w' => e = .returned x ∧ Below w.heap.size w w')) :
    GCall P E f ds [] (fun d H => d = .v x ∧ H = []) :=
  ⟨hb, fun w F vs hE hF hl hr _ _ => (h w F vs hE hl hr).mono (fun e w' ⟨he, bel⟩ =>
    ⟨x, .v x, [], F, he, ⟨rfl, rfl⟩, fun _ h => h, fun b h => ⟨Nat.lt_of_lt_of_le (hF b h) (Step.of_below bel).size, .inl h⟩, .v hx, (fun p hp => by cases hp), List.nodup_nil, (Step.of_below bel).mono (fun _ _ h => h.elim)⟩)⟩
theorem arg1 {w : World} {F : Nat → Prop} {vs : Array Value} {x : Value} (hl : vs.size = 1) (hr : ∀ (j : Nat) (v : Value) (d : DV), vs[j]? = some v → [DV.v x][j]? = some d → Rep w F v d) : vs = #[x] ∧ scal x := by
  have h0 := hr 0 vs[0] (.v x) (Array.getElem?_eq_getElem (by omega)) rfl
  refine ⟨?_, h0.inv_v.2⟩
  apply Array.ext
  · simpa using hl
  · intro i h1 h2
    have : i = 0 := by omega
    subst this
    exact h0.inv_v.1
theorem vs_ok (s : ByteArray) : GCall Tryd.prog E0 46 [.v (.string s)] [] (fun d H => d = .v (.bool (utf8R s)) ∧ H = []) :=
  GCall.ofCalls (by kernel_rfl) trivial (fun w F vs hE hl hr => by
    obtain ⟨rfl, hs⟩ := arg1 hl hr
    rw [utf8R_valid]
    exact Any.utf8_ValidString Tryd.laysValid s w hs hE.1)
end Go.GH
namespace Go.GH
open Go

def encBy (r : Int) : List UInt8 := (Utf8.encode r).data.toList
def cY (n : Nat) : List DV := [.v (.int .u8 (n : Int))]
theorem encY_ofNat {n : Nat} (h : n < 256) : encY (UInt8.ofNat n) = cY n := by
  simp [encY, cY]; omega
theorem u8wrap {n : Int} (h : 0 ≤ n) : IntKind.u8.wrap n = n % 256 := by
  simp [IntKind.wrap, IntKind.signed, IntKind.bits]
  
theorem u32wrap {n : Int} (h : 0 ≤ n) (h2 : n ≤ 4294967295) : IntKind.u32.wrap n = n := wrap_id (by
  simp [IntKind.has, IntKind.min, IntKind.max, IntKind.signed, IntKind.bits]; omega)
def orB (a x : Int) : Int := IntKind.u8.wrap (BitVec.ofInt 8 a ||| BitVec.ofInt 8 x).toNat
def andB (a x : Int) : Int := IntKind.u8.wrap (BitVec.ofInt 8 a &&& BitVec.ofInt 8 x).toNat
theorem or192 : ∀ q : Fin 32, orB 192 ((q.val : Nat) : Int) = 192 + q.val := by decide +kernel
theorem or224 : ∀ q : Fin 16, orB 224 ((q.val : Nat) : Int) = 224 + q.val := by decide +kernel
theorem or240 : ∀ q : Fin 8, orB 240 ((q.val : Nat) : Int) = 240 + q.val := by decide +kernel
theorem or128 : ∀ q : Fin 64, orB 128 ((q.val : Nat) : Int) = 128 + q.val := by decide +kernel
theorem and63 : ∀ q : Fin 256, andB ((q.val : Nat) : Int) 63 = ((q.val % 64 : Nat) : Int) := by decide +kernel
theorem or192' {q : Nat} (h : q < 32) : orB 192 (q : Int) = ((192 + q : Nat) : Int) := by have := or192 ⟨q, h⟩; simpa using this
theorem or224' {q : Nat} (h : q < 16) : orB 224 (q : Int) = ((224 + q : Nat) : Int) := by have := or224 ⟨q, h⟩; simpa using this
theorem or240' {q : Nat} (h : q < 8) : orB 240 (q : Int) = ((240 + q : Nat) : Int) := by have := or240 ⟨q, h⟩; simpa using this
theorem or128' {q : Nat} (h : q < 64) : orB 128 (q : Int) = ((128 + q : Nat) : Int) := by have := or128 ⟨q, h⟩; simpa using this
theorem and63' {q : Nat} (h : q < 256) : andB (q : Int) 63 = ((q % 64 : Nat) : Int) := by have := and63 ⟨q, h⟩; simpa using this
theorem u8nat (n : Nat) : IntKind.u8.wrap (n : Int) = ((n % 256 : Nat) : Int) := by
  rw [u8wrap (by omega)]; omega
/-- the low six bits of place k -/
theorem low6 (c d : Nat) (hd : d ≠ 0) : orB 128 (andB (IntKind.u8.wrap ((c / d : Nat) : Int)) 63) = ((128 + c / d % 64 : Nat) : Int) := by
  rw [u8nat, and63' (by omega), or128' (by omega)]
  congr 2
  omega
theorem low60 (c : Nat) : orB 128 (andB (IntKind.u8.wrap ((c : Nat) : Int)) 63) = ((128 + c % 64 : Nat) : Int) := by
  have := low6 c 1 (by decide)
  simpa using this
theorem fdiv_nat (c d : Nat) : Int.fdiv (c : Int) (d : Int) = ((c / d : Nat) : Int) := by
  rw [Int.fdiv_eq_ediv_of_nonneg _ (by omega)]; rfl
theorem valid_cases {r : Int} (h : Utf8.valid r = true) : ∃ c : Nat, r = (c : Int) ∧ (c < 55296 ∨ (57344 ≤ c ∧ c ≤ 1114111)) := by
  simp only [Utf8.valid, Bool.or_eq_true, Bool.and_eq_true, decide_eq_true_eq] at h
  exact ⟨r.toNat, by omega, by omega⟩
theorem enc_1 {c : Nat} (hv : Utf8.valid (c : Int) = true) (h : c < 128) : Utf8.encode (c : Int) = ⟨#[UInt8.ofNat c]⟩ := by
  unfold Utf8.encode
  rw [if_pos hv]
  exact if_pos h
theorem enc_2 {c : Nat} (hv : Utf8.valid (c : Int) = true) (h0 : 128 ≤ c) (h : c < 2048) : Utf8.encode (c : Int) = ⟨#[UInt8.ofNat (192 + c / 64), UInt8.ofNat (128 + c % 64)]⟩ := by
  unfold Utf8.encode
  rw [if_pos hv]
  exact (if_neg (show ¬ c < 128 by omega)).trans (if_pos h)
theorem enc_3 {c : Nat} (hv : Utf8.valid (c : Int) = true) (h0 : 2048 ≤ c) (h : c < 65536) : Utf8.encode (c : Int) = ⟨#[UInt8.ofNat (224 + c / 4096), UInt8.ofNat (128 + c / 64 % 64), UInt8.ofNat (128 + c % 64)]⟩ := by
  unfold Utf8.encode
  rw [if_pos hv]
  exact (if_neg (show ¬ c < 128 by omega)).trans ((if_neg (show ¬ c < 2048 by omega)).trans (if_pos h))
theorem enc_4 {c : Nat} (hv : Utf8.valid (c : Int) = true) (h0 : 65536 ≤ c) : Utf8.encode (c : Int) = ⟨#[UInt8.ofNat (240 + c / 262144), UInt8.ofNat (128 + c / 4096 % 64), UInt8.ofNat (128 + c / 64 % 64), UInt8.ofNat (128 + c % 64)]⟩ := by
  unfold Utf8.encode
  rw [if_pos hv]
  exact (if_neg (show ¬ c < 128 by omega)).trans ((if_neg (show ¬ c < 2048 by omega)).trans (if_neg (show ¬ c < 65536 by omega)))
theorem encBy_1 {c : Nat} (hv : Utf8.valid (c : Int) = true) (h : c < 128) : (encBy (c : Int)).map encY = [cY c] := by
  rw [encBy, enc_1 hv h]
  show [encY (UInt8.ofNat c)] = _
  rw [encY_ofNat (show c < 256 by omega)]
theorem encBy_2 {c : Nat} (hv : Utf8.valid (c : Int) = true) (h0 : 128 ≤ c) (h : c < 2048) : (encBy (c : Int)).map encY = [cY (192 + c / 64), cY (128 + c % 64)] := by
  rw [encBy, enc_2 hv h0 h]
  show [encY (UInt8.ofNat (192 + c / 64)), encY (UInt8.ofNat (128 + c % 64))] = _
  rw [encY_ofNat (show 192 + c / 64 < 256 by omega), encY_ofNat (show 128 + c % 64 < 256 by omega)]
theorem encBy_3 {c : Nat} (hv : Utf8.valid (c : Int) = true) (h0 : 2048 ≤ c) (h : c < 65536) : (encBy (c : Int)).map encY = [cY (224 + c / 4096), cY (128 + c / 64 % 64), cY (128 + c % 64)] := by
  rw [encBy, enc_3 hv h0 h]
  show [encY (UInt8.ofNat (224 + c / 4096)), encY (UInt8.ofNat (128 + c / 64 % 64)), encY (UInt8.ofNat (128 + c % 64))] = _
  rw [encY_ofNat (show 224 + c / 4096 < 256 by omega), encY_ofNat (show 128 + c / 64 % 64 < 256 by omega), encY_ofNat (show 128 + c % 64 < 256 by omega)]
theorem encBy_4 {c : Nat} (hv : Utf8.valid (c : Int) = true) (h0 : 65536 ≤ c) (h : c ≤ 1114111) : (encBy (c : Int)).map encY = [cY (240 + c / 262144), cY (128 + c / 4096 % 64), cY (128 + c / 64 % 64), cY (128 + c % 64)] := by
  rw [encBy, enc_4 hv h0]
  show [encY (UInt8.ofNat (240 + c / 262144)), encY (UInt8.ofNat (128 + c / 4096 % 64)), encY (UInt8.ofNat (128 + c / 64 % 64)), encY (UInt8.ofNat (128 + c % 64))] = _
  rw [encY_ofNat (show 240 + c / 262144 < 256 by omega), encY_ofNat (show 128 + c / 4096 % 64 < 256 by omega), encY_ofNat (show 128 + c / 64 % 64 < 256 by omega), encY_ofNat (show 128 + c % 64 < 256 by omega)]
theorem encBy_len (r : Int) : (encBy r).length ≤ 4 := encode_size r
theorem encBy_pos (r : Int) : 1 ≤ (encBy r).length := encode_pos r
theorem encs_data : ∀ rs : List Int, (encs rs).data.toList = (rs.map encBy).flatten
  | [] => rfl
  | r :: rs => by
    rw [encs, List.map_cons, List.flatten_cons, ← encs_data rs]
    simp [encBy]
end Go.GH
namespace Go.GH
open Go Go.Lib

/-! #### a word is the bytes of its runes -/
theorem encBy_lib (c : Nat) (hv : Utf8.valid (c : Int) = true) : encBy (c : Int) = encodeRune (c : Int) := by
  obtain ⟨c', h1, hc⟩ := valid_cases hv
  have hcc : c' = c := by omega
  subst hcc
  have u : ∀ n : Nat, n < 256 → UInt8.ofNat n = (n : Int).toNat.toUInt8 := fun n _ => rfl
  unfold encodeRune
  by_cases h1 : c' < 128
  · rw [encBy, enc_1 hv h1, encodeRuneZ_one (by omega) (by omega)]; rfl
  · by_cases h2 : c' < 2048
    · rw [encBy, enc_2 hv (by omega) h2, encodeRuneZ_two (by omega) (by omega)]
      show [UInt8.ofNat (192 + c' / 64), UInt8.ofNat (128 + c' % 64)] = [(192 + (c' : Int) / 64).toNat.toUInt8, (128 + (c' : Int) % 64).toNat.toUInt8]
      rw [show (192 + (c' : Int) / 64).toNat = 192 + c' / 64 from by omega, show (128 + (c' : Int) % 64).toNat = 128 + c' % 64 from by omega]
    · by_cases h3 : c' < 65536
      · rw [encBy, enc_3 hv (by omega) h3, encodeRuneZ_three (by omega)]
        show [UInt8.ofNat (224 + c' / 4096), UInt8.ofNat (128 + c' / 64 % 64), UInt8.ofNat (128 + c' % 64)] = [(224 + (c' : Int) / 4096).toNat.toUInt8, (128 + (c' : Int) / 64 % 64).toNat.toUInt8, (128 + (c' : Int) % 64).toNat.toUInt8]
        rw [show (224 + (c' : Int) / 4096).toNat = 224 + c' / 4096 from by omega, show (128 + (c' : Int) / 64 % 64).toNat = 128 + c' / 64 % 64 from by omega, show (128 + (c' : Int) % 64).toNat = 128 + c' % 64 from by omega]
      · rw [encBy, enc_4 hv (by omega), encodeRuneZ_four (by omega) (by omega)]
        show [UInt8.ofNat (240 + c' / 262144), UInt8.ofNat (128 + c' / 4096 % 64), UInt8.ofNat (128 + c' / 64 % 64), UInt8.ofNat (128 + c' % 64)] = [(240 + (c' : Int) / 262144).toNat.toUInt8, (128 + (c' : Int) / 4096 % 64).toNat.toUInt8, (128 + (c' : Int) / 64 % 64).toNat.toUInt8, (128 + (c' : Int) % 64).toNat.toUInt8]
        rw [show (240 + (c' : Int) / 262144).toNat = 240 + c' / 262144 from by omega, show (128 + (c' : Int) / 4096 % 64).toNat = 128 + c' / 4096 % 64 from by omega, show (128 + (c' : Int) / 64 % 64).toNat = 128 + c' / 64 % 64 from by omega, show (128 + (c' : Int) % 64).toNat = 128 + c' % 64 from by omega]
theorem data_app2 (x y : ByteArray) : (x ++ y).data.toList = x.data.toList ++ y.data.toList := by simp
theorem encs_cons_data (r : Int) (rs : List Int) : (encs (r :: rs)).data.toList = encBy r ++ (encs rs).data.toList := by
  rw [encs, data_app2, encBy]
theorem step_bytes (s : ByteArray) (p : Nat) (hp : p < s.size) (h : stepOK s (p, ((Utf8.decode s p).1 : Int)) = true) : encBy ((Utf8.decode s p).1 : Int) = (s.data.toList.drop p).take (Utf8.decode s p).2 := by
  have hd := decodeL_drop s p
  have hlen : (s.data.toList.drop p).length = s.size - p := by simp
  have hne : s.data.toList.drop p ≠ [] := by
    intro h; rw [h] at hlen; simp at hlen; omega
  rw [step_valid s p hp] at h
  have h' : ¬ ((Utf8.decode s p).1 = 65533 ∧ (Utf8.decode s p).2 = 1) := fun hb => by rw [decide_eq_true hb] at h; cases h
  have := encode_decode _ hne (by rw [hd]; exact h')
  rw [hd] at this
  rw [← this, encBy_lib _ (decode_valid s p)]
theorem encs_at (s : ByteArray) : ∀ (f p : Nat), s.size - p ≤ f → (steps s p).all (stepOK s) = true → (encs (runesAt s p)).data.toList = s.data.toList.drop p
  | 0, p, h, _ => by rw [runesAt_ge (by omega), List.drop_eq_nil_of_le (by simp; omega)]; rfl
  | f + 1, p, h, hv => by
    by_cases hp : p < s.size
    · have hw := decode_w s p
      rw [steps_lt hp, List.all_cons, Bool.and_eq_true] at hv
      have ih := encs_at s f (p + (Utf8.decode s p).2) (by omega) hv.2
      rw [runesAt_lt hp, encs_cons_data, ih, step_bytes s p hp hv.1, ← List.drop_drop, List.take_append_drop]
    · rw [runesAt_ge (by omega), List.drop_eq_nil_of_le (by simp; omega)]; rfl
theorem encs_runes {s : ByteArray} (h : utf8R s = true) : encs (runes s) = s := by
  have := encs_at s _ 0 (Nat.le_refl _) h
  rw [runesAt_zero, List.drop_zero] at this
  apply ByteArray.ext
  exact Array.toList_inj.1 this
theorem encs_append : ∀ x y : List Int, encs (x ++ y) = encs x ++ encs y
  | [], y => by
    apply ByteArray.ext
    simp [encs]
  | r :: x, y => by rw [List.cons_append, encs, encs, encs_append x y, ByteArray.append_assoc]
end Go.GH
namespace Go.GH
open Go

theorem okR_to {a : List Letter} {r : Rule} {s : ByteArray} (h : okR a r s = true) : (runes r.«to»).length ≤ 4 ∧ (runes s).length ≤ 40 ∧ utf8R r.«to» = true := by
  simp only [okR, validR, consS_eq, Bool.and_eq_true, decide_eq_true_eq] at h
  exact ⟨h.1.1.1.2.1.2, h.2.1.2, h.1.1.1.2.1.1⟩
def resX (a : List Letter) (r : Rule) (s : ByteArray) (l : List Nat) : ByteArray × Int :=
  if okR a r s then (if 40 < (runes (encs (resF r.fr (runes r.«to») (runes s) 0 l))).length then (⟨#[]⟩, 2) else (encs (resF r.fr (runes r.«to») (runes s) 0 l), 0)) else (⟨#[]⟩, 1)
def applyR (a : List Letter) (r : Rule) (s : ByteArray) : ByteArray × Int := resX a r s (sitesR a r s)
def applyQ (a : List Letter) (r : Rule) (s : ByteArray) : ByteArray × Int := resX a r s (sitesQ a r s)
def tupA (x : ByteArray × Int) : DV := .tup [.v (.string x.1), .v (.int .i64 x.2)]
theorem resX_size (a : List Letter) (r : Rule) (s : ByteArray) (l : List Nat) : (resX a r s l).1.size ≤ 1048576 := by
  unfold resX
  split
  · rename_i h
    obtain ⟨h1, h2, _⟩ := okR_to h
    split
    · decide
    · have k1 := resF_len r.fr (runes r.«to») (runes s) 0 l
      have k2 := runesBytes_size_le (resF r.fr (runes r.«to») (runes s) 0 l)
      rw [encs_eq] at k2
      have k3 : ((runes s).length + 1) * ((runes r.«to»).length + 1) ≤ 41 * 5 := Nat.mul_le_mul (by omega) (by omega)
      show (encs _).size ≤ _
      omega
  · decide
theorem encs_one (c : Int) : encs [c] = Utf8.encode c := by
  show Utf8.encode c ++ ByteArray.empty = _
  rw [ByteArray.append_empty]
theorem encs_cons (c : Int) (w : List Int) : encs (c :: w) = Utf8.encode c ++ encs w := rfl
theorem encs_nil : encs [] = .empty := rfl
theorem bytes_nil : ByteArray.mk #[] = .empty := rfl
/-- The runes of letters are valid. -/
theorem letter_valid {a : List Letter} (h : properB a = true) {r : Int} (hr : (idx a r).isSome = true) : Utf8.valid r = true := by
  obtain ⟨k, hk⟩ := Option.isSome_iff_exists.1 hr
  obtain ⟨h1, h2, _⟩ := idx_spec hk
  have := (properB_iff.1 h).1 _ (List.getElem_mem h1)
  rw [h2] at this
  have := goodR_iff.1 this
  simp only [Utf8.valid, Bool.or_eq_true, Bool.and_eq_true, decide_eq_true_eq]
  omega
end Go.GH
