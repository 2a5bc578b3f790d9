/-
  Part 5 of the texts behind the walks of this claim: an own layer over the kit's wp, plain laws, and walks. No conditions.
-/
import Derived.Test.YtmmdhmlbbajjiaaDoorMa4
import Derived.Shelf.Unicode.ValidAny
import Derived.Shelf.Strings.IndexAnyAll
import Derived.Test.YtmmdhmlbbajjiaaDoorProg
import Derived.ChangeArms
import Derived.DataReads
import Derived.Lib.MapLaws
import Derived.Lib.TrimUEq
import Derived.Lib.LaidU8T
import Derived.KernelRfl
import Derived.Lib.SpaceUEq
set_option linter.unusedVariables false
set_option linter.unusedSimpArgs false
set_option linter.deprecated false
namespace Go.GH
open Go Go.Proofs
variable {E : Env}
theorem qSites (hV : VS E) (a : List Letter) (r : Rule) (s : ByteArray) (hs : s.size ≤ 1048576) : GCall Tryd.prog E 23 [DLs a, .agg (encR r), .v (.string s)] [] (fun d H => d = DNats (sitesQ a r s) ∧ H = []) := by
  refine GCall.body (C := ⟨Tryd.prog, E, true⟩) Tryd.func23 rfl (fun _ => rfl) (by kernel_rfl) rfl ?_
  refine SCode.seqR ?_
  refine SOps.boxAM rfl rfl ?_
  refine SOps.assign rfl ?_
  refine SOps.nil ?_
  refine SCode.seqR ?_
  refine SOps.litO sliceB_43_3_1 zeroIs_3 rfl (fun b0 hb_0 => ?_)
  refine SOps.assign rfl ?_
  refine SOps.nil ?_
  refine SCode.seq ?_
  refine SCode.seqR ?_
  refine SOps.move rfl ?_
  refine SOps.loadPinA rfl aggB_47_6 (Nat.le_of_ble_eq_true rfl) ?_
  refine SOps.callP (qValid hV _ _) rfl ?_
  rintro _ rfl
  refine SOps.un rfl rfl ?_
  refine SOps.move rfl ?_
  refine SOps.caseB 16 rfl (fun hb1 => ?_) (fun hb1 => ?_)
  · try simp only [nmL] at hb1
    refine SOps.skip rfl ?_
    refine SOps.skip rfl ?_
    refine SOps.skip rfl ?_
    refine SOps.skip rfl ?_
    refine SOps.pick rfl rfl ?_
    refine SOps.nil ?_
    refine SCode.cond rfl (fun _ => ?_) (fun h => by cases h)
    refine SCode.seqR ?_
    refine SOps.freezeS (t := 7) 0 rfl rfl rfl rfl ?_
    refine SOps.move rfl ?_
    refine SOps.assign rfl ?_
    refine SOps.nil ?_
    refine SCode.drop ?_
    refine SCode.ret ?_
    exact ⟨_, Res.one (.tmp rfl), by first | (rw [sitesQ, if_neg (by simp_all [okR])]; rfl) | (rw [sitesQ, if_pos hok, ← ho]; rfl), rfl⟩
  · try simp only [nmL] at hb1
    refine SOps.move rfl ?_
    refine SOps.move rfl ?_
    refine SOps.callP (qWord hV _ _) rfl ?_
    rintro _ rfl
    refine SOps.un rfl rfl ?_
    refine SOps.pick rfl rfl ?_
    refine SOps.nil ?_
    refine SCode.cond rfl (fun hc2 => ?_) (fun hc2 => ?_)
    · try simp only [nmL] at hc2
      refine SCode.seqR ?_
      refine SOps.freezeS (t := 7) 0 rfl rfl rfl rfl ?_
      refine SOps.move rfl ?_
      refine SOps.assign rfl ?_
      refine SOps.nil ?_
      refine SCode.drop ?_
      refine SCode.ret ?_
      exact ⟨_, Res.one (.tmp rfl), by first | (rw [sitesQ, if_neg (by simp_all [okR])]; rfl) | (rw [sitesQ, if_pos hok, ← ho]; rfl), rfl⟩
    · try simp only [nmL] at hc2
      refine SCode.skip ?_
      show SCode _ _ _ _
      refine SCode.seqR ?_
      refine SOps.move rfl ?_
      refine SOps.runesF rfl rfl strB_9 sliceB_84_21_1 intB_21_i32 ?_
      refine SOps.assign rfl ?_
      refine SOps.nil ?_
      refine SCode.seq ?_
      refine SCode.seqR ?_
      refine SOps.assign rfl ?_
      refine SOps.nil ?_
      refine SCode.block ?_
      have hok : okR a r s = true := by simp_all [okR]
      have hw40 : (runes s).length ≤ 40 := by have h40 : consS a 40 s = true := (by simp_all); rw [consS_eq] at h40; simp only [Bool.and_eq_true, decide_eq_true_eq] at h40; exact h40.1.2
      refine SCode.loop3 (fun (i : Nat) (out : List Nat) (k : Nat) => (⟨69, [(0, DLs a), (4, .ipin (encR r)), (7, .sl k 1 0 out.length), (8, DRunes (runes s)), (9, .v (.int .i64 (i : Int)))], [(k, .row 3 1 (out.map encN))]⟩ : St)) (fun (i : Nat) (out : List Nat) (k : Nat) => i ≤ (runes s).length + 1 ∧ (List.range i).filter (siteQ a r (runes s)) = out) (fun (i : Nat) (out : List Nat) (k : Nat) => (runes s).length + 1 - i) (0) ([]) (b0) (by exact ⟨Nat.zero_le _, rfl⟩) (St.Le.of ⟨(by first | rfl | (show some _ = some _; simp)), (by first | rfl | (show some _ = some _; simp)), (by first | rfl | (show some _ = some _; simp)), (by first | rfl | (show some _ = some _; simp)), (by first | rfl | (show some _ = some _; simp)), trivial⟩ rfl (by first | rfl | (simp))) ?_
      rintro i out k ⟨hi, ho⟩
      have hol := filter_len (siteQ a r (runes s)) i
      rw [ho] at hol
      refine SCode.seq ?_
      refine SCode.seqR ?_
      refine SOps.move rfl ?_
      refine SOps.move rfl ?_
      refine SOps.lenM rfl sliceB_84_21_1 ?_
      refine SOps.bin rfl rfl rfl ?_
      refine SOps.nil ?_
      refine SCode.cond rfl (fun hc3 => ?_) (fun hc3 => ?_)
      · try simp only [nmL] at hc3
        refine SCode.skip ?_
        show SCode _ _ _ _
        refine SCode.seq ?_
        refine SCode.block ?_
        refine SCode.seqR ?_
        refine SOps.move rfl ?_
        refine SOps.assign rfl ?_
        refine SOps.nil ?_
        refine SCode.seq ?_
        refine SCode.seqR ?_
        refine SOps.fieldPin rfl fieldB_47_0_0 ?_
        refine SOps.loadPin rfl flatB_21 ?_
        refine SOps.bin rfl rfl rfl ?_
        refine SOps.nil ?_
        refine SCode.cond rfl (fun hc4 => ?_) (fun hc4 => ?_)
        · try simp only [nmL] at hc4
          refine SCode.seq ?_
          refine SCode.seq ?_
          rcases (show i = (runes s).length ∨ i < (runes s).length from by omega) with hq | hq
          · refine SCode.drawPure mixed_ [(35, .v (.int .i64 (i : Int))), (36, DRunes (runes s)), (37, .v (.int .i64 (((runes s).length : Nat) : Int))), (38, .v (.bool true)), (39, .v (.bool true)), (40, .v (.tuple #[])), (41, .v (.tuple #[])), (42, .v (.tuple #[])), (43, .v (.tuple #[])), (44, .v (.tuple #[])), (45, .v (.tuple #[])), (46, .v (.tuple #[])), (47, .v (.bool true))] [35, 36, 37, 38, 39, 40, 41, 42, 43, 44, 45, 46, 47] [[.inr 9], [.inr 8], [.inl 1], [.inl 0, .inl 2], [.inl 3], [.inl 4], [.inl 4], [.inl 4], [.inl 4], [.inl 4], [.inl 4], [.inl 4], [.inl 4, .inl 11]] [[(9, .v (.int .i64 (i : Int)))], [(8, DRunes (runes s))], [(36, DRunes (runes s))], [(35, .v (.int .i64 (i : Int))), (37, .v (.int .i64 (((runes s).length : Nat) : Int)))], [(38, .v (.bool true))], [(39, .v (.bool true))], [(39, .v (.bool true))], [(39, .v (.bool true))], [(39, .v (.bool true))], [(39, .v (.bool true))], [(39, .v (.bool true))], [(39, .v (.bool true))], [(39, .v (.bool true)), (46, .v (.tuple #[]))]] rfl (by kernel_rfl) (by kernel_rfl) rfl ?_ ?_
            · refine OpsOk.cons (fun rest => ?_) ?_
              · refine SOps.move rfl ?_
                exact SOps.nil (by first | rfl | simp_all)
              refine OpsOk.cons (fun rest => ?_) ?_
              · refine SOps.move rfl ?_
                exact SOps.nil (by first | rfl | simp_all)
              refine OpsOk.cons (fun rest => ?_) ?_
              · refine SOps.lenM rfl sliceB_84_21_1 ?_
                exact SOps.nil (by first | rfl | simp_all)
              refine OpsOk.cons (fun rest => ?_) ?_
              · refine SOps.bin rfl rfl rfl ?_
                exact SOps.nil (by exact congrArg (fun b => St.put _ _ (.v (.bool b))) (beq_iff_eq.2 (by omega)))
              refine OpsOk.cons (fun rest => ?_) ?_
              · refine SOps.move rfl ?_
                exact SOps.nil (by first | rfl | simp_all)
              refine OpsOk.cons (fun rest => ?_) ?_
              · refine SOps.skip rfl ?_
                exact SOps.nil (by first | rfl | simp_all)
              refine OpsOk.cons (fun rest => ?_) ?_
              · refine SOps.skip rfl ?_
                exact SOps.nil (by first | rfl | simp_all)
              refine OpsOk.cons (fun rest => ?_) ?_
              · refine SOps.skip rfl ?_
                exact SOps.nil (by first | rfl | simp_all)
              refine OpsOk.cons (fun rest => ?_) ?_
              · refine SOps.skip rfl ?_
                exact SOps.nil (by first | rfl | simp_all)
              refine OpsOk.cons (fun rest => ?_) ?_
              · refine SOps.skip rfl ?_
                exact SOps.nil (by first | rfl | simp_all)
              refine OpsOk.cons (fun rest => ?_) ?_
              · refine SOps.skip rfl ?_
                exact SOps.nil (by first | rfl | simp_all)
              refine OpsOk.cons (fun rest => ?_) ?_
              · refine SOps.skip rfl ?_
                exact SOps.nil (by first | rfl | simp_all)
              refine OpsOk.cons (fun rest => ?_) ?_
              · refine SOps.pick rfl rfl ?_
                exact SOps.nil (by first | rfl | simp_all)
              exact OpsOk.nil
            · show SCode _ _ _ _
              refine SCode.cond rfl (fun _ => ?_) (fun h => by cases h)
              refine SCode.exit ?_
              show SCode _ _ _ _
              refine SCode.region ?_
              refine SOps.move rfl ?_
              refine SOps.addI rfl rfl (by first | omega | (simp only [lenB]; omega)) (by first | omega | (simp only [lenB]; omega)) ?_
              refine SOps.assign rfl ?_
              refine SOps.nil ?_
              first
                | exact ⟨i + 1, out ++ [i], b1, ⟨by omega, by rw [filter_succ, if_pos (by simp_all [siteQ]), ho]⟩, by omega, St.Le.of ⟨rfl, rfl, (by show some _ = some _; simp), rfl, rfl, trivial⟩ rfl (by rw [List.map_append]; rfl)⟩
                | exact ⟨i + 1, out ++ [i], b2, ⟨by omega, by rw [filter_succ, if_pos (by simp_all [siteQ]), ho]⟩, by omega, St.Le.of ⟨rfl, rfl, (by show some _ = some _; simp), rfl, rfl, trivial⟩ rfl (by rw [List.map_append]; rfl)⟩
                | exact ⟨i + 1, out, k, ⟨by omega, by rw [filter_succ, if_neg (by simp_all [siteQ]), ho, List.append_nil]⟩, by omega, St.Le.of ⟨rfl, rfl, rfl, rfl, rfl, trivial⟩⟩
          · refine SCode.drawPure mixed_ [(35, .v (.int .i64 (i : Int))), (36, DRunes (runes s)), (37, .v (.int .i64 (((runes s).length : Nat) : Int))), (38, .v (.bool false)), (39, .v (.bool false)), (40, DRunes (runes s)), (41, .v (.int .i64 (i : Int))), (42, .ipin (rcell ((runes s)[i]))), (43, .v (.int .i32 ((runes s)[i]))), (44, .ipin ((encR r).drop 0)), (45, .v (.int .i32 r.fr)), (46, .v (.bool (!decide ((runes s)[i] = r.fr)))), (47, .v (.bool (!decide ((runes s)[i] = r.fr))))] [35, 36, 37, 38, 39, 40, 41, 42, 43, 44, 45, 46, 47] [[.inr 9], [.inr 8], [.inl 1], [.inl 0, .inl 2], [.inl 3], [.inl 4, .inr 8], [.inl 4, .inr 9], [.inl 4, .inl 5, .inl 6], [.inl 4, .inl 7], [.inl 4, .inr 4], [.inl 4, .inl 9], [.inl 4, .inl 8, .inl 10], [.inl 4, .inl 11]] [[(9, .v (.int .i64 (i : Int)))], [(8, DRunes (runes s))], [(36, DRunes (runes s))], [(35, .v (.int .i64 (i : Int))), (37, .v (.int .i64 (((runes s).length : Nat) : Int)))], [(38, .v (.bool false))], [(39, .v (.bool false)), (8, DRunes (runes s))], [(39, .v (.bool false)), (9, .v (.int .i64 (i : Int)))], [(39, .v (.bool false)), (40, DRunes (runes s)), (41, .v (.int .i64 (i : Int)))], [(39, .v (.bool false)), (42, .ipin (rcell ((runes s)[i])))], [(39, .v (.bool false)), (4, .ipin (encR r))], [(39, .v (.bool false)), (44, .ipin ((encR r).drop 0))], [(39, .v (.bool false)), (43, .v (.int .i32 ((runes s)[i]))), (45, .v (.int .i32 r.fr))], [(39, .v (.bool false)), (46, .v (.bool (!decide ((runes s)[i] = r.fr))))]] rfl (by kernel_rfl) (by kernel_rfl) rfl ?_ ?_
            · refine OpsOk.cons (fun rest => ?_) ?_
              · refine SOps.move rfl ?_
                exact SOps.nil (by first | rfl | simp_all)
              refine OpsOk.cons (fun rest => ?_) ?_
              · refine SOps.move rfl ?_
                exact SOps.nil (by first | rfl | simp_all)
              refine OpsOk.cons (fun rest => ?_) ?_
              · refine SOps.lenM rfl sliceB_84_21_1 ?_
                exact SOps.nil (by first | rfl | simp_all)
              refine OpsOk.cons (fun rest => ?_) ?_
              · refine SOps.bin rfl rfl rfl ?_
                exact SOps.nil (by exact congrArg (fun b => St.put _ _ (.v (.bool b))) (beq_eq_false_iff_ne.2 (by omega)))
              refine OpsOk.cons (fun rest => ?_) ?_
              · refine SOps.move rfl ?_
                exact SOps.nil (by first | rfl | simp_all)
              refine OpsOk.cons (fun rest => ?_) ?_
              · refine SOps.move rfl ?_
                exact SOps.nil (by first | rfl | simp_all)
              refine OpsOk.cons (fun rest => ?_) ?_
              · refine SOps.move rfl ?_
                exact SOps.nil (by first | rfl | simp_all)
              refine OpsOk.cons (fun rest => ?_) ?_
              · refine SOps.indexM (i) rfl rfl sliceB_84_21_1 (by first | omega | (simp only [lenB]; omega)) (by first | omega | (simp only [lenB]; omega)) ?_
                exact SOps.nil (by first | rfl | simp_all)
              refine OpsOk.cons (fun rest => ?_) ?_
              · refine SOps.loadPin rfl flatB_21 ?_
                exact SOps.nil (by first | rfl | simp_all)
              refine OpsOk.cons (fun rest => ?_) ?_
              · refine SOps.fieldPin rfl fieldB_47_0_0 ?_
                exact SOps.nil (by first | rfl | simp_all)
              refine OpsOk.cons (fun rest => ?_) ?_
              · refine SOps.loadPin rfl flatB_21 ?_
                exact SOps.nil (by first | rfl | simp_all)
              refine OpsOk.cons (fun rest => ?_) ?_
              · refine SOps.bin rfl rfl rfl ?_
                exact SOps.nil (by first | rfl | simp_all)
              refine OpsOk.cons (fun rest => ?_) ?_
              · refine SOps.pick rfl rfl ?_
                exact SOps.nil (by first | rfl | simp_all)
              exact OpsOk.nil
            · show SCode _ _ _ _
              refine SCode.cond rfl (fun hc5 => ?_) (fun hc5 => ?_)
              · try simp only [nmL] at hc5
                refine SCode.exit ?_
                show SCode _ _ _ _
                refine SCode.region ?_
                refine SOps.move rfl ?_
                refine SOps.addI rfl rfl (by first | omega | (simp only [lenB]; omega)) (by first | omega | (simp only [lenB]; omega)) ?_
                refine SOps.assign rfl ?_
                refine SOps.nil ?_
                first
                  | exact ⟨i + 1, out ++ [i], b1, ⟨by omega, by rw [filter_succ, if_pos (by simp_all [siteQ]), ho]⟩, by omega, St.Le.of ⟨rfl, rfl, (by show some _ = some _; simp), rfl, rfl, trivial⟩ rfl (by rw [List.map_append]; rfl)⟩
                  | exact ⟨i + 1, out ++ [i], b2, ⟨by omega, by rw [filter_succ, if_pos (by simp_all [siteQ]), ho]⟩, by omega, St.Le.of ⟨rfl, rfl, (by show some _ = some _; simp), rfl, rfl, trivial⟩ rfl (by rw [List.map_append]; rfl)⟩
                  | exact ⟨i + 1, out, k, ⟨by omega, by rw [filter_succ, if_neg (by simp_all [siteQ]), ho, List.append_nil]⟩, by omega, St.Le.of ⟨rfl, rfl, rfl, rfl, rfl, trivial⟩⟩
              · try simp only [nmL] at hc5
                refine SCode.skip ?_
                show SCode _ _ _ _
                refine SCode.region ?_
                refine SOps.move rfl ?_
                refine SOps.addI rfl rfl (by first | omega | (simp only [lenB]; omega)) (by first | omega | (simp only [lenB]; omega)) ?_
                refine SOps.assign rfl ?_
                refine SOps.nil ?_
                show SCode _ _ _ _
                refine SCode.seq ?_
                rcases hq3 : leftR a r ((runes s).take i) with _ | _
                · refine SCode.drawPure mixed_ [(50, DLs a), (51, .agg (encR r)), (52, DRunes (runes s)), (53, .v (.int .i64 (i : Int))), (54, DRunes ((runes s).take i)), (55, .v (.bool false)), (56, .v (.bool false)), (57, .v (.tuple #[])), (58, .v (.tuple #[])), (59, .v (.tuple #[])), (60, .v (.tuple #[])), (61, .v (.tuple #[])), (62, .v (.tuple #[])), (63, .v (.bool false))] [50, 51, 52, 53, 54, 55, 56, 57, 58, 59, 60, 61, 62, 63] [[.inr 0], [.inr 4], [.inr 8], [.inr 9], [.inl 2, .inl 3], [.inl 0, .inl 1, .inl 4], [.inl 5], [.inl 6], [.inl 6], [.inl 6], [.inl 6], [.inl 6], [.inl 6], [.inl 6, .inl 12]] [[(0, DLs a)], [(4, .ipin (encR r))], [(8, DRunes (runes s))], [(9, .v (.int .i64 (i : Int)))], [(52, DRunes (runes s)), (53, .v (.int .i64 (i : Int)))], [(50, DLs a), (51, .agg (encR r)), (54, DRunes ((runes s).take i))], [(55, .v (.bool false))], [(56, .v (.bool false))], [(56, .v (.bool false))], [(56, .v (.bool false))], [(56, .v (.bool false))], [(56, .v (.bool false))], [(56, .v (.bool false))], [(56, .v (.bool false)), (62, .v (.tuple #[]))]] rfl (by kernel_rfl) (by kernel_rfl) rfl ?_ ?_
                  · refine OpsOk.cons (fun rest => ?_) ?_
                    · refine SOps.move rfl ?_
                      exact SOps.nil (by first | rfl | simp_all)
                    refine OpsOk.cons (fun rest => ?_) ?_
                    · refine SOps.loadPinA rfl aggB_47_6 (Nat.le_of_ble_eq_true rfl) ?_
                      exact SOps.nil (by first | rfl | simp_all)
                    refine OpsOk.cons (fun rest => ?_) ?_
                    · refine SOps.move rfl ?_
                      exact SOps.nil (by first | rfl | simp_all)
                    refine OpsOk.cons (fun rest => ?_) ?_
                    · refine SOps.move rfl ?_
                      exact SOps.nil (by first | rfl | simp_all)
                    refine OpsOk.cons (fun rest => ?_) ?_
                    · refine SOps.sliceT (n1 := 0) (i) sliceB_84_21_1 rfl rfl (by first | omega | (simp only [lenB]; omega)) (by first | omega | (simp only [lenB]; omega)) ?_
                      exact SOps.nil (by first | rfl | simp_all)
                    refine OpsOk.cons (fun rest => ?_) ?_
                    · refine SOps.callP (qLeft a r _ (by simp; omega)) rfl ?_
                      rintro _ rfl
                      exact SOps.nil (by exact congrArg (fun b => St.put _ _ (.v (.bool b))) hq3)
                    refine OpsOk.cons (fun rest => ?_) ?_
                    · refine SOps.move rfl ?_
                      exact SOps.nil (by first | rfl | simp_all)
                    refine OpsOk.cons (fun rest => ?_) ?_
                    · refine SOps.skip rfl ?_
                      exact SOps.nil (by first | rfl | simp_all)
                    refine OpsOk.cons (fun rest => ?_) ?_
                    · refine SOps.skip rfl ?_
                      exact SOps.nil (by first | rfl | simp_all)
                    refine OpsOk.cons (fun rest => ?_) ?_
                    · refine SOps.skip rfl ?_
                      exact SOps.nil (by first | rfl | simp_all)
                    refine OpsOk.cons (fun rest => ?_) ?_
                    · refine SOps.skip rfl ?_
                      exact SOps.nil (by first | rfl | simp_all)
                    refine OpsOk.cons (fun rest => ?_) ?_
                    · refine SOps.skip rfl ?_
                      exact SOps.nil (by first | rfl | simp_all)
                    refine OpsOk.cons (fun rest => ?_) ?_
                    · refine SOps.skip rfl ?_
                      exact SOps.nil (by first | rfl | simp_all)
                    refine OpsOk.cons (fun rest => ?_) ?_
                    · refine SOps.pick rfl rfl ?_
                      exact SOps.nil (by first | rfl | simp_all)
                    exact OpsOk.nil
                  · show SCode _ _ _ _
                    refine SCode.cond rfl (fun h => by cases h) (fun _ => ?_)
                    refine SCode.skip ?_
                    show SCode _ _ _ _
                    refine SCode.region ?_
                    refine SOps.move rfl ?_
                    refine SOps.addI rfl rfl (by first | omega | (simp only [lenB]; omega)) (by first | omega | (simp only [lenB]; omega)) ?_
                    refine SOps.assign rfl ?_
                    refine SOps.nil ?_
                    first
                      | exact ⟨i + 1, out ++ [i], b1, ⟨by omega, by rw [filter_succ, if_pos (by simp_all [siteQ]), ho]⟩, by omega, St.Le.of ⟨rfl, rfl, (by show some _ = some _; simp), rfl, rfl, trivial⟩ rfl (by rw [List.map_append]; rfl)⟩
                      | exact ⟨i + 1, out ++ [i], b2, ⟨by omega, by rw [filter_succ, if_pos (by simp_all [siteQ]), ho]⟩, by omega, St.Le.of ⟨rfl, rfl, (by show some _ = some _; simp), rfl, rfl, trivial⟩ rfl (by rw [List.map_append]; rfl)⟩
                      | exact ⟨i + 1, out, k, ⟨by omega, by rw [filter_succ, if_neg (by simp_all [siteQ]), ho, List.append_nil]⟩, by omega, St.Le.of ⟨rfl, rfl, rfl, rfl, rfl, trivial⟩⟩
                · refine SCode.drawPure mixed_ [(50, DLs a), (51, .agg (encR r)), (52, DRunes (runes s)), (53, .v (.int .i64 (i : Int))), (54, DRunes ((runes s).take i)), (55, .v (.bool true)), (56, .v (.bool true)), (57, DLs a), (58, .agg (encR r)), (59, DRunes (runes s)), (60, .v (.int .i64 ((i : Int) + 1))), (61, DRunes ((runes s).drop (i + 1))), (62, .v (.bool (rightR a r ((runes s).drop (i + 1))))), (63, .v (.bool (rightR a r ((runes s).drop (i + 1)))))] [50, 51, 52, 53, 54, 55, 56, 57, 58, 59, 60, 61, 62, 63] [[.inr 0], [.inr 4], [.inr 8], [.inr 9], [.inl 2, .inl 3], [.inl 0, .inl 1, .inl 4], [.inl 5], [.inl 6, .inr 0], [.inl 6, .inr 4], [.inl 6, .inr 8], [.inl 6, .inr 10], [.inl 6, .inl 9, .inl 10], [.inl 6, .inl 7, .inl 8, .inl 11], [.inl 6, .inl 12]] [[(0, DLs a)], [(4, .ipin (encR r))], [(8, DRunes (runes s))], [(9, .v (.int .i64 (i : Int)))], [(52, DRunes (runes s)), (53, .v (.int .i64 (i : Int)))], [(50, DLs a), (51, .agg (encR r)), (54, DRunes ((runes s).take i))], [(55, .v (.bool true))], [(56, .v (.bool true)), (0, DLs a)], [(56, .v (.bool true)), (4, .ipin (encR r))], [(56, .v (.bool true)), (8, DRunes (runes s))], [(56, .v (.bool true)), (10, .v (.int .i64 ((i : Int) + 1)))], [(56, .v (.bool true)), (59, DRunes (runes s)), (60, .v (.int .i64 ((i : Int) + 1)))], [(56, .v (.bool true)), (57, DLs a), (58, .agg (encR r)), (61, DRunes ((runes s).drop (i + 1)))], [(56, .v (.bool true)), (62, .v (.bool (rightR a r ((runes s).drop (i + 1)))))]] rfl (by kernel_rfl) (by kernel_rfl) rfl ?_ ?_
                  · refine OpsOk.cons (fun rest => ?_) ?_
                    · refine SOps.move rfl ?_
                      exact SOps.nil (by first | rfl | simp_all)
                    refine OpsOk.cons (fun rest => ?_) ?_
                    · refine SOps.loadPinA rfl aggB_47_6 (Nat.le_of_ble_eq_true rfl) ?_
                      exact SOps.nil (by first | rfl | simp_all)
                    refine OpsOk.cons (fun rest => ?_) ?_
                    · refine SOps.move rfl ?_
                      exact SOps.nil (by first | rfl | simp_all)
                    refine OpsOk.cons (fun rest => ?_) ?_
                    · refine SOps.move rfl ?_
                      exact SOps.nil (by first | rfl | simp_all)
                    refine OpsOk.cons (fun rest => ?_) ?_
                    · refine SOps.sliceT (n1 := 0) (i) sliceB_84_21_1 rfl rfl (by first | omega | (simp only [lenB]; omega)) (by first | omega | (simp only [lenB]; omega)) ?_
                      exact SOps.nil (by first | rfl | simp_all)
                    refine OpsOk.cons (fun rest => ?_) ?_
                    · refine SOps.callP (qLeft a r _ (by simp; omega)) rfl ?_
                      rintro _ rfl
                      exact SOps.nil (by exact congrArg (fun b => St.put _ _ (.v (.bool b))) hq3)
                    refine OpsOk.cons (fun rest => ?_) ?_
                    · refine SOps.move rfl ?_
                      exact SOps.nil (by first | rfl | simp_all)
                    refine OpsOk.cons (fun rest => ?_) ?_
                    · refine SOps.move rfl ?_
                      exact SOps.nil (by first | rfl | simp_all)
                    refine OpsOk.cons (fun rest => ?_) ?_
                    · refine SOps.loadPinA rfl aggB_47_6 (Nat.le_of_ble_eq_true rfl) ?_
                      exact SOps.nil (by first | rfl | simp_all)
                    refine OpsOk.cons (fun rest => ?_) ?_
                    · refine SOps.move rfl ?_
                      exact SOps.nil (by first | rfl | simp_all)
                    refine OpsOk.cons (fun rest => ?_) ?_
                    · refine SOps.move rfl ?_
                      exact SOps.nil (by first | rfl | simp_all)
                    refine OpsOk.cons (fun rest => ?_) ?_
                    · refine SOps.sliceD (n1 := 0) (i + 1) sliceB_84_21_1 rfl rfl (by first | omega | (simp only [lenB]; omega)) (by first | omega | (simp only [lenB]; omega)) ?_
                      exact SOps.nil (by first | rfl | simp_all)
                    refine OpsOk.cons (fun rest => ?_) ?_
                    · refine SOps.callP (qRight a r _ (by simp; omega)) rfl ?_
                      rintro _ rfl
                      exact SOps.nil (by first | rfl | simp_all)
                    refine OpsOk.cons (fun rest => ?_) ?_
                    · refine SOps.pick rfl rfl ?_
                      exact SOps.nil (by first | rfl | simp_all)
                    exact OpsOk.nil
                  · show SCode _ _ _ _
                    refine SCode.cond rfl (fun hc6 => ?_) (fun hc6 => ?_)
                    · try simp only [nmL] at hc6
                      refine SCode.region ?_
                      refine SOps.move rfl ?_
                      refine SOps.move rfl ?_
                      refine SOps.litF rfl sliceB_43_3_1 zeroIs_3 rfl ?_
                      refine SOps.appendOwn 0 sliceB_43_3_1 elemB_3_1_8 rfl rfl rfl (by simp) SrcD.isl (by simp) (by first | (simp [lenB] <;> (first | omega | (simp only [lenB]; omega))) | (simp only [lenB]; (first | omega | (simp only [lenB]; omega)))) (by first | (simp <;> (first | omega | (simp only [lenB]; omega))) | (first | omega | (simp only [lenB]; omega))) (fun b1 hb_1 => ?_)
                      refine SOps.assign rfl ?_
                      refine SOps.nil ?_
                      show SCode _ _ _ _
                      refine SCode.region ?_
                      refine SOps.move rfl ?_
                      refine SOps.addI rfl rfl (by first | omega | (simp only [lenB]; omega)) (by first | omega | (simp only [lenB]; omega)) ?_
                      refine SOps.assign rfl ?_
                      refine SOps.nil ?_
                      first
                        | exact ⟨i + 1, out ++ [i], b1, ⟨by omega, by rw [filter_succ, if_pos (by simp_all [siteQ]), ho]⟩, by omega, St.Le.of ⟨rfl, rfl, (by show some _ = some _; simp), rfl, rfl, trivial⟩ rfl (by rw [List.map_append]; rfl)⟩
                        | exact ⟨i + 1, out ++ [i], b2, ⟨by omega, by rw [filter_succ, if_pos (by simp_all [siteQ]), ho]⟩, by omega, St.Le.of ⟨rfl, rfl, (by show some _ = some _; simp), rfl, rfl, trivial⟩ rfl (by rw [List.map_append]; rfl)⟩
                        | exact ⟨i + 1, out, k, ⟨by omega, by rw [filter_succ, if_neg (by simp_all [siteQ]), ho, List.append_nil]⟩, by omega, St.Le.of ⟨rfl, rfl, rfl, rfl, rfl, trivial⟩⟩
                    · try simp only [nmL] at hc6
                      refine SCode.skip ?_
                      show SCode _ _ _ _
                      refine SCode.region ?_
                      refine SOps.move rfl ?_
                      refine SOps.addI rfl rfl (by first | omega | (simp only [lenB]; omega)) (by first | omega | (simp only [lenB]; omega)) ?_
                      refine SOps.assign rfl ?_
                      refine SOps.nil ?_
                      first
                        | exact ⟨i + 1, out ++ [i], b1, ⟨by omega, by rw [filter_succ, if_pos (by simp_all [siteQ]), ho]⟩, by omega, St.Le.of ⟨rfl, rfl, (by show some _ = some _; simp), rfl, rfl, trivial⟩ rfl (by rw [List.map_append]; rfl)⟩
                        | exact ⟨i + 1, out ++ [i], b2, ⟨by omega, by rw [filter_succ, if_pos (by simp_all [siteQ]), ho]⟩, by omega, St.Le.of ⟨rfl, rfl, (by show some _ = some _; simp), rfl, rfl, trivial⟩ rfl (by rw [List.map_append]; rfl)⟩
                        | exact ⟨i + 1, out, k, ⟨by omega, by rw [filter_succ, if_neg (by simp_all [siteQ]), ho, List.append_nil]⟩, by omega, St.Le.of ⟨rfl, rfl, rfl, rfl, rfl, trivial⟩⟩
        · try simp only [nmL] at hc4
          refine SCode.skip ?_
          show SCode _ _ _ _
          refine SCode.seq ?_
          rcases hq3 : leftR a r ((runes s).take i) with _ | _
          · refine SCode.drawPure mixed_ [(50, DLs a), (51, .agg (encR r)), (52, DRunes (runes s)), (53, .v (.int .i64 (i : Int))), (54, DRunes ((runes s).take i)), (55, .v (.bool false)), (56, .v (.bool false)), (57, .v (.tuple #[])), (58, .v (.tuple #[])), (59, .v (.tuple #[])), (60, .v (.tuple #[])), (61, .v (.tuple #[])), (62, .v (.tuple #[])), (63, .v (.bool false))] [50, 51, 52, 53, 54, 55, 56, 57, 58, 59, 60, 61, 62, 63] [[.inr 0], [.inr 4], [.inr 8], [.inr 9], [.inl 2, .inl 3], [.inl 0, .inl 1, .inl 4], [.inl 5], [.inl 6], [.inl 6], [.inl 6], [.inl 6], [.inl 6], [.inl 6], [.inl 6, .inl 12]] [[(0, DLs a)], [(4, .ipin (encR r))], [(8, DRunes (runes s))], [(9, .v (.int .i64 (i : Int)))], [(52, DRunes (runes s)), (53, .v (.int .i64 (i : Int)))], [(50, DLs a), (51, .agg (encR r)), (54, DRunes ((runes s).take i))], [(55, .v (.bool false))], [(56, .v (.bool false))], [(56, .v (.bool false))], [(56, .v (.bool false))], [(56, .v (.bool false))], [(56, .v (.bool false))], [(56, .v (.bool false))], [(56, .v (.bool false)), (62, .v (.tuple #[]))]] rfl (by kernel_rfl) (by kernel_rfl) rfl ?_ ?_
            · refine OpsOk.cons (fun rest => ?_) ?_
              · refine SOps.move rfl ?_
                exact SOps.nil (by first | rfl | simp_all)
              refine OpsOk.cons (fun rest => ?_) ?_
              · refine SOps.loadPinA rfl aggB_47_6 (Nat.le_of_ble_eq_true rfl) ?_
                exact SOps.nil (by first | rfl | simp_all)
              refine OpsOk.cons (fun rest => ?_) ?_
              · refine SOps.move rfl ?_
                exact SOps.nil (by first | rfl | simp_all)
              refine OpsOk.cons (fun rest => ?_) ?_
              · refine SOps.move rfl ?_
                exact SOps.nil (by first | rfl | simp_all)
              refine OpsOk.cons (fun rest => ?_) ?_
              · refine SOps.sliceT (n1 := 0) (i) sliceB_84_21_1 rfl rfl (by first | omega | (simp only [lenB]; omega)) (by first | omega | (simp only [lenB]; omega)) ?_
                exact SOps.nil (by first | rfl | simp_all)
              refine OpsOk.cons (fun rest => ?_) ?_
              · refine SOps.callP (qLeft a r _ (by simp; omega)) rfl ?_
                rintro _ rfl
                exact SOps.nil (by exact congrArg (fun b => St.put _ _ (.v (.bool b))) hq3)
              refine OpsOk.cons (fun rest => ?_) ?_
              · refine SOps.move rfl ?_
                exact SOps.nil (by first | rfl | simp_all)
              refine OpsOk.cons (fun rest => ?_) ?_
              · refine SOps.skip rfl ?_
                exact SOps.nil (by first | rfl | simp_all)
              refine OpsOk.cons (fun rest => ?_) ?_
              · refine SOps.skip rfl ?_
                exact SOps.nil (by first | rfl | simp_all)
              refine OpsOk.cons (fun rest => ?_) ?_
              · refine SOps.skip rfl ?_
                exact SOps.nil (by first | rfl | simp_all)
              refine OpsOk.cons (fun rest => ?_) ?_
              · refine SOps.skip rfl ?_
                exact SOps.nil (by first | rfl | simp_all)
              refine OpsOk.cons (fun rest => ?_) ?_
              · refine SOps.skip rfl ?_
                exact SOps.nil (by first | rfl | simp_all)
              refine OpsOk.cons (fun rest => ?_) ?_
              · refine SOps.skip rfl ?_
                exact SOps.nil (by first | rfl | simp_all)
              refine OpsOk.cons (fun rest => ?_) ?_
              · refine SOps.pick rfl rfl ?_
                exact SOps.nil (by first | rfl | simp_all)
              exact OpsOk.nil
            · show SCode _ _ _ _
              refine SCode.cond rfl (fun h => by cases h) (fun _ => ?_)
              refine SCode.skip ?_
              show SCode _ _ _ _
              refine SCode.region ?_
              refine SOps.move rfl ?_
              refine SOps.addI rfl rfl (by first | omega | (simp only [lenB]; omega)) (by first | omega | (simp only [lenB]; omega)) ?_
              refine SOps.assign rfl ?_
              refine SOps.nil ?_
              first
                | exact ⟨i + 1, out ++ [i], b1, ⟨by omega, by rw [filter_succ, if_pos (by simp_all [siteQ]), ho]⟩, by omega, St.Le.of ⟨rfl, rfl, (by show some _ = some _; simp), rfl, rfl, trivial⟩ rfl (by rw [List.map_append]; rfl)⟩
                | exact ⟨i + 1, out ++ [i], b2, ⟨by omega, by rw [filter_succ, if_pos (by simp_all [siteQ]), ho]⟩, by omega, St.Le.of ⟨rfl, rfl, (by show some _ = some _; simp), rfl, rfl, trivial⟩ rfl (by rw [List.map_append]; rfl)⟩
                | exact ⟨i + 1, out, k, ⟨by omega, by rw [filter_succ, if_neg (by simp_all [siteQ]), ho, List.append_nil]⟩, by omega, St.Le.of ⟨rfl, rfl, rfl, rfl, rfl, trivial⟩⟩
          · refine SCode.drawPure mixed_ [(50, DLs a), (51, .agg (encR r)), (52, DRunes (runes s)), (53, .v (.int .i64 (i : Int))), (54, DRunes ((runes s).take i)), (55, .v (.bool true)), (56, .v (.bool true)), (57, DLs a), (58, .agg (encR r)), (59, DRunes (runes s)), (60, .v (.int .i64 (i : Int))), (61, DRunes ((runes s).drop (i))), (62, .v (.bool (rightR a r ((runes s).drop (i))))), (63, .v (.bool (rightR a r ((runes s).drop (i)))))] [50, 51, 52, 53, 54, 55, 56, 57, 58, 59, 60, 61, 62, 63] [[.inr 0], [.inr 4], [.inr 8], [.inr 9], [.inl 2, .inl 3], [.inl 0, .inl 1, .inl 4], [.inl 5], [.inl 6, .inr 0], [.inl 6, .inr 4], [.inl 6, .inr 8], [.inl 6, .inr 10], [.inl 6, .inl 9, .inl 10], [.inl 6, .inl 7, .inl 8, .inl 11], [.inl 6, .inl 12]] [[(0, DLs a)], [(4, .ipin (encR r))], [(8, DRunes (runes s))], [(9, .v (.int .i64 (i : Int)))], [(52, DRunes (runes s)), (53, .v (.int .i64 (i : Int)))], [(50, DLs a), (51, .agg (encR r)), (54, DRunes ((runes s).take i))], [(55, .v (.bool true))], [(56, .v (.bool true)), (0, DLs a)], [(56, .v (.bool true)), (4, .ipin (encR r))], [(56, .v (.bool true)), (8, DRunes (runes s))], [(56, .v (.bool true)), (10, .v (.int .i64 (i : Int)))], [(56, .v (.bool true)), (59, DRunes (runes s)), (60, .v (.int .i64 (i : Int)))], [(56, .v (.bool true)), (57, DLs a), (58, .agg (encR r)), (61, DRunes ((runes s).drop (i)))], [(56, .v (.bool true)), (62, .v (.bool (rightR a r ((runes s).drop (i)))))]] rfl (by kernel_rfl) (by kernel_rfl) rfl ?_ ?_
            · refine OpsOk.cons (fun rest => ?_) ?_
              · refine SOps.move rfl ?_
                exact SOps.nil (by first | rfl | simp_all)
              refine OpsOk.cons (fun rest => ?_) ?_
              · refine SOps.loadPinA rfl aggB_47_6 (Nat.le_of_ble_eq_true rfl) ?_
                exact SOps.nil (by first | rfl | simp_all)
              refine OpsOk.cons (fun rest => ?_) ?_
              · refine SOps.move rfl ?_
                exact SOps.nil (by first | rfl | simp_all)
              refine OpsOk.cons (fun rest => ?_) ?_
              · refine SOps.move rfl ?_
                exact SOps.nil (by first | rfl | simp_all)
              refine OpsOk.cons (fun rest => ?_) ?_
              · refine SOps.sliceT (n1 := 0) (i) sliceB_84_21_1 rfl rfl (by first | omega | (simp only [lenB]; omega)) (by first | omega | (simp only [lenB]; omega)) ?_
                exact SOps.nil (by first | rfl | simp_all)
              refine OpsOk.cons (fun rest => ?_) ?_
              · refine SOps.callP (qLeft a r _ (by simp; omega)) rfl ?_
                rintro _ rfl
                exact SOps.nil (by exact congrArg (fun b => St.put _ _ (.v (.bool b))) hq3)
              refine OpsOk.cons (fun rest => ?_) ?_
              · refine SOps.move rfl ?_
                exact SOps.nil (by first | rfl | simp_all)
              refine OpsOk.cons (fun rest => ?_) ?_
              · refine SOps.move rfl ?_
                exact SOps.nil (by first | rfl | simp_all)
              refine OpsOk.cons (fun rest => ?_) ?_
              · refine SOps.loadPinA rfl aggB_47_6 (Nat.le_of_ble_eq_true rfl) ?_
                exact SOps.nil (by first | rfl | simp_all)
              refine OpsOk.cons (fun rest => ?_) ?_
              · refine SOps.move rfl ?_
                exact SOps.nil (by first | rfl | simp_all)
              refine OpsOk.cons (fun rest => ?_) ?_
              · refine SOps.move rfl ?_
                exact SOps.nil (by first | rfl | simp_all)
              refine OpsOk.cons (fun rest => ?_) ?_
              · refine SOps.sliceD (n1 := 0) (i) sliceB_84_21_1 rfl rfl (by first | omega | (simp only [lenB]; omega)) (by first | omega | (simp only [lenB]; omega)) ?_
                exact SOps.nil (by first | rfl | simp_all)
              refine OpsOk.cons (fun rest => ?_) ?_
              · refine SOps.callP (qRight a r _ (by simp; omega)) rfl ?_
                rintro _ rfl
                exact SOps.nil (by first | rfl | simp_all)
              refine OpsOk.cons (fun rest => ?_) ?_
              · refine SOps.pick rfl rfl ?_
                exact SOps.nil (by first | rfl | simp_all)
              exact OpsOk.nil
            · show SCode _ _ _ _
              refine SCode.cond rfl (fun hc7 => ?_) (fun hc7 => ?_)
              · try simp only [nmL] at hc7
                refine SCode.region ?_
                refine SOps.move rfl ?_
                refine SOps.move rfl ?_
                refine SOps.litF rfl sliceB_43_3_1 zeroIs_3 rfl ?_
                refine SOps.appendOwn 0 sliceB_43_3_1 elemB_3_1_8 rfl rfl rfl (by simp) SrcD.isl (by simp) (by first | (simp [lenB] <;> (first | omega | (simp only [lenB]; omega))) | (simp only [lenB]; (first | omega | (simp only [lenB]; omega)))) (by first | (simp <;> (first | omega | (simp only [lenB]; omega))) | (first | omega | (simp only [lenB]; omega))) (fun b2 hb_2 => ?_)
                refine SOps.assign rfl ?_
                refine SOps.nil ?_
                show SCode _ _ _ _
                refine SCode.region ?_
                refine SOps.move rfl ?_
                refine SOps.addI rfl rfl (by first | omega | (simp only [lenB]; omega)) (by first | omega | (simp only [lenB]; omega)) ?_
                refine SOps.assign rfl ?_
                refine SOps.nil ?_
                first
                  | exact ⟨i + 1, out ++ [i], b1, ⟨by omega, by rw [filter_succ, if_pos (by simp_all [siteQ]), ho]⟩, by omega, St.Le.of ⟨rfl, rfl, (by show some _ = some _; simp), rfl, rfl, trivial⟩ rfl (by rw [List.map_append]; rfl)⟩
                  | exact ⟨i + 1, out ++ [i], b2, ⟨by omega, by rw [filter_succ, if_pos (by simp_all [siteQ]), ho]⟩, by omega, St.Le.of ⟨rfl, rfl, (by show some _ = some _; simp), rfl, rfl, trivial⟩ rfl (by rw [List.map_append]; rfl)⟩
                  | exact ⟨i + 1, out, k, ⟨by omega, by rw [filter_succ, if_neg (by simp_all [siteQ]), ho, List.append_nil]⟩, by omega, St.Le.of ⟨rfl, rfl, rfl, rfl, rfl, trivial⟩⟩
              · try simp only [nmL] at hc7
                refine SCode.skip ?_
                show SCode _ _ _ _
                refine SCode.region ?_
                refine SOps.move rfl ?_
                refine SOps.addI rfl rfl (by first | omega | (simp only [lenB]; omega)) (by first | omega | (simp only [lenB]; omega)) ?_
                refine SOps.assign rfl ?_
                refine SOps.nil ?_
                first
                  | exact ⟨i + 1, out ++ [i], b1, ⟨by omega, by rw [filter_succ, if_pos (by simp_all [siteQ]), ho]⟩, by omega, St.Le.of ⟨rfl, rfl, (by show some _ = some _; simp), rfl, rfl, trivial⟩ rfl (by rw [List.map_append]; rfl)⟩
                  | exact ⟨i + 1, out ++ [i], b2, ⟨by omega, by rw [filter_succ, if_pos (by simp_all [siteQ]), ho]⟩, by omega, St.Le.of ⟨rfl, rfl, (by show some _ = some _; simp), rfl, rfl, trivial⟩ rfl (by rw [List.map_append]; rfl)⟩
                  | exact ⟨i + 1, out, k, ⟨by omega, by rw [filter_succ, if_neg (by simp_all [siteQ]), ho, List.append_nil]⟩, by omega, St.Le.of ⟨rfl, rfl, rfl, rfl, rfl, trivial⟩⟩
      · try simp only [nmL] at hc3
        refine SCode.exit ?_
        show SCode _ _ _ _
        refine SCode.seqR ?_
        refine SOps.freezeS (t := 7) 0 rfl rfl rfl (by simp) ?_
        obtain rfl : i = (runes s).length + 1 := by omega
        refine SOps.move rfl ?_
        refine SOps.assign rfl ?_
        refine SOps.nil ?_
        refine SCode.drop ?_
        refine SCode.ret ?_
        exact ⟨_, Res.one (.tmp rfl), by first | (rw [sitesQ, if_neg (by simp_all [okR])]; rfl) | (rw [sitesQ, if_pos hok, ← ho]; rfl), rfl⟩
def resF (fr : Int) (tl : List Int) : List Int → Nat → List Nat → List Int
  | [], i, ss => if ss.head? = some i then tl else []
  | c :: w, i, ss => (if ss.head? = some i then tl else []) ++ ((if ss.head? = some i ∧ fr ≠ 0 then [] else [c]) ++ resF fr tl w (i + 1) (if ss.head? = some i then ss.tail else ss))
theorem resF_nil (fr : Int) (tl : List Int) (i : Nat) (ss : List Nat) : resF fr tl [] i ss = if ss.head? = some i then tl else [] := rfl
theorem resF_cons (fr : Int) (tl : List Int) (c : Int) (w : List Int) (i : Nat) (ss : List Nat) : resF fr tl (c :: w) i ss = (if ss.head? = some i then tl else []) ++ ((if ss.head? = some i ∧ fr ≠ 0 then [] else [c]) ++ resF fr tl w (i + 1) (if ss.head? = some i then ss.tail else ss)) := rfl
theorem resF_len (fr : Int) (tl : List Int) : ∀ (w : List Int) (i : Nat) (ss : List Nat), (resF fr tl w i ss).length ≤ (w.length + 1) * (tl.length + 1)
  | [], i, ss => by rw [resF_nil]; split <;> simp
  | c :: w, i, ss => by
    have := resF_len fr tl w (i + 1) (if ss.head? = some i then ss.tail else ss)
    rw [resF_cons, List.length_append, List.length_append, List.length_cons, Nat.add_mul (w.length + 1) 1]
    have h1 : (if ss.head? = some i then tl else []).length ≤ tl.length := by split <;> simp
    have h2 : (if ss.head? = some i ∧ fr ≠ 0 then [] else [c]).length ≤ 1 := by split <;> simp
    omega
theorem rResult (r : Rule) (l : List Nat) (s : ByteArray) (h4 : (runes r.«to»).length ≤ 4) (h40 : (runes s).length ≤ 40) : GCall Tryd.prog E 96 [.agg (encR r), DNats l, .v (.string s)] [] (fun d H => d = .v (.string (encs (resF r.fr (runes r.«to») (runes s) 0 l))) ∧ H = []) := by
  refine GCall.body (C := ⟨Tryd.prog, E, true⟩) Tryd.func96 rfl (fun _ => rfl) (by kernel_rfl) rfl ?_
  refine SCode.seqR ?_
  refine SOps.boxAM rfl rfl ?_
  refine SOps.assign rfl ?_
  refine SOps.nil ?_
  refine SCode.seqR ?_
  refine SOps.move rfl ?_
  refine SOps.runesF rfl rfl strB_9 sliceB_84_21_1 intB_21_i32 ?_
  refine SOps.assign rfl ?_
  refine SOps.nil ?_
  refine SCode.seqR ?_
  refine SOps.fieldPin rfl fieldB_47_1_1 ?_
  refine SOps.loadPin rfl flatB_9 ?_
  refine SOps.runesF rfl rfl strB_9 sliceB_84_21_1 intB_21_i32 ?_
  refine SOps.assign rfl ?_
  refine SOps.nil ?_
  refine SCode.seqR ?_
  refine SOps.assign rfl ?_
  refine SOps.nil ?_
  refine SCode.seq ?_
  refine SCode.seqR ?_
  refine SOps.assign rfl ?_
  refine SOps.nil ?_
  refine SCode.block ?_
  refine SCode.loop4 (fun (i : Nat) (ss : List Nat) (out : List Int) (k : Nat) => (⟨61, [(1, DNats ss), (3, .ipin (encR r)), (7, DRunes (runes s)), (8, DRunes (runes r.«to»)), (9, accD 1 k (out.map rcell)), (10, .v (.int .i64 (i : Int)))], accH 21 1 k (out.map rcell) ++ []⟩ : St)) (fun (i : Nat) (ss : List Nat) (out : List Int) (k : Nat) => out.length ≤ 5 * i ∧ ((i ≤ (runes s).length ∧ out ++ resF r.fr (runes r.«to») ((runes s).drop i) i ss = resF r.fr (runes r.«to») (runes s) 0 l) ∨ (i = (runes s).length + 1 ∧ out = resF r.fr (runes r.«to») (runes s) 0 l))) (fun (i : Nat) (ss : List Nat) (out : List Int) (k : Nat) => (runes s).length + 1 - i) (0) (l) ([]) (0) (by exact ⟨Nat.le_refl _, .inl ⟨Nat.zero_le _, rfl⟩⟩) (St.Le.of ⟨(by first | rfl | (show some _ = some _; simp)), (by first | rfl | (show some _ = some _; simp)), (by first | rfl | (show some _ = some _; simp)), (by first | rfl | (show some _ = some _; simp)), (by first | rfl | (show some _ = some _; simp)), (by first | rfl | (show some _ = some _; simp)), trivial⟩ rfl (by first | rfl | (simp))) ?_
  rintro i ss out k ⟨hol, hf⟩
  refine SCode.seq ?_
  refine SCode.seqR ?_
  refine SOps.move rfl ?_
  refine SOps.move rfl ?_
  refine SOps.lenM rfl sliceB_84_21_1 ?_
  refine SOps.bin rfl rfl rfl ?_
  refine SOps.nil ?_
  refine SCode.cond rfl (fun hc1 => ?_) (fun hc1 => ?_)
  · try simp only [nmL] at hc1
    refine SCode.skip ?_
    show SCode _ _ _ _
    refine SCode.seq ?_
    refine SCode.block ?_
    refine SCode.seqR ?_
    have hf2 := (hf.resolve_right (by omega)).2
    have hdn : i = (runes s).length → (runes s).drop i = [] := fun h => List.drop_eq_nil_of_le (by omega)
    have hdc : ∀ h : i < (runes s).length, (runes s).drop i = (runes s)[i] :: (runes s).drop (i + 1) := fun h => List.drop_eq_getElem_cons h
    refine SOps.move rfl ?_
    refine SOps.lenM rfl sliceB_43_3_1 ?_
    refine SOps.bin rfl rfl rfl ?_
    refine SOps.move rfl ?_
    refine SOps.caseB 26 rfl (fun hb2 => ?_) (fun hb2 => ?_)
    · try simp only [nmL] at hb2
      obtain ⟨s0, ss0, rfl⟩ : ∃ s0 ss0, ss = s0 :: ss0 := by cases ss with | nil => exact absurd hb2 (by simp) | cons x y => exact ⟨x, y, rfl⟩
      refine SOps.move rfl ?_
      refine SOps.indexM (0) rfl rfl sliceB_43_3_1 (by first | omega | (simp only [lenB]; omega)) (by first | omega | (simp only [lenB]; omega)) ?_
      refine SOps.loadPin rfl flatB_3 ?_
      refine SOps.move rfl ?_
      refine SOps.bin rfl rfl rfl ?_
      refine SOps.pick rfl rfl ?_
      refine SOps.assign rfl ?_
      refine SOps.nil ?_
      refine SCode.seq ?_
      refine SCode.seqR ?_
      refine SOps.move rfl ?_
      refine SOps.nil ?_
      refine SCode.cond rfl (fun hc3 => ?_) (fun hc3 => ?_)
      · try simp only [nmL] at hc3
        have hs0 : s0 = i := Int.ofNat.inj hc3
        refine SCode.seqR ?_
        refine SOps.move rfl ?_
        refine SOps.sliceD (n1 := 0) (1) sliceB_43_3_1 rfl rfl (by first | omega | (simp only [lenB]; omega)) (by first | omega | (simp only [lenB]; omega)) ?_
        refine SOps.assign rfl ?_
        refine SOps.nil ?_
        refine SCode.region ?_
        refine SOps.move rfl ?_
        refine SOps.move rfl ?_
        refine SOps.appendAccE [] [] sliceB_84_21_1 elemB_21_1_4 rfl rfl rfl SrcD.isl (by simp [lenB]; omega) (by simp; omega) (fun kA => ?_)
        refine SOps.assign rfl ?_
        refine SOps.nil ?_
        show SCode _ _ _ _
        refine SCode.seqR ?_
        refine SOps.move rfl ?_
        refine SOps.move rfl ?_
        refine SOps.lenM rfl sliceB_84_21_1 ?_
        refine SOps.bin rfl rfl rfl ?_
        refine SOps.move rfl ?_
        refine SOps.caseB 43 rfl (fun hb4 => ?_) (fun hb4 => ?_)
        · try simp only [nmL] at hb4
          refine SOps.move rfl ?_
          refine SOps.un rfl rfl ?_
          refine SOps.move rfl ?_
          refine SOps.caseB 46 rfl (fun hb5 => ?_) (fun hb5 => ?_)
          · try simp only [nmL] at hb5
            refine SOps.skip rfl ?_
            refine SOps.skip rfl ?_
            refine SOps.skip rfl ?_
            refine SOps.pick rfl rfl ?_
            refine SOps.pick rfl rfl ?_
            refine SOps.nil ?_
            refine SCode.cond rfl (fun _ => ?_) (fun h => by cases h)
            refine SCode.region ?_
            refine SOps.move rfl ?_
            refine SOps.move rfl ?_
            refine SOps.move rfl ?_
            refine SOps.indexM (i) rfl rfl sliceB_84_21_1 (by first | omega | (simp only [lenB]; omega)) (by first | omega | (simp only [lenB]; omega)) ?_
            refine SOps.loadPin rfl flatB_21 ?_
            refine SOps.litF rfl sliceB_84_21_1 zeroIs_21 rfl ?_
            refine SOps.appendAcc [] [] sliceB_84_21_1 elemB_21_1_4 rfl rfl rfl SrcD.isl (by simp) (by simp [lenB]; omega) (by simp; omega) (fun kB => ?_)
            refine SOps.assign rfl ?_
            refine SOps.nil ?_
            show SCode _ _ _ _
            refine SCode.region ?_
            refine SOps.move rfl ?_
            refine SOps.addI rfl rfl (by first | omega | (simp only [lenB]; omega)) (by first | omega | (simp only [lenB]; omega)) ?_
            refine SOps.assign rfl ?_
            refine SOps.nil ?_
            first
              | (exfalso; simp only [List.getElem_cons_zero] at *; omega)
              | exact ⟨i + 1, ss0, out ++ runes r.«to» ++ [(runes s)[i]], ((fun _ : Nat => kB) kA), ⟨by first | omega | (simp; omega), by cases Nat.lt_or_ge i (runes s).length with | inl hlt => (first | (exfalso; omega) | (left; refine ⟨by omega, ?_⟩; rw [← hf2, hdc hlt, resF_cons]; clear hf2 hf hdc hdn; simp_all; done)) | inr hge => (first | (exfalso; omega) | (right; refine ⟨by omega, ?_⟩; rw [← hf2, hdn (by omega), resF_nil]; clear hf2 hf hdc hdn; simp_all; done))⟩, by omega, St.Le.of ⟨rfl, rfl, rfl, rfl, (by show some _ = some _; first | (simp only [List.map_append, List.append_assoc]; done) | (simp only [List.map_append, List.append_assoc]; rfl)), rfl, trivial⟩ rfl (by first | (simp only [List.map_append, List.append_assoc]; done) | (simp only [List.map_append, List.append_assoc]; rfl))⟩
              | exact ⟨i + 1, (s0 :: ss0), out ++ runes r.«to» ++ [(runes s)[i]], ((fun _ : Nat => kB) kA), ⟨by first | omega | (simp; omega), by cases Nat.lt_or_ge i (runes s).length with | inl hlt => (first | (exfalso; omega) | (left; refine ⟨by omega, ?_⟩; rw [← hf2, hdc hlt, resF_cons]; clear hf2 hf hdc hdn; simp_all; done)) | inr hge => (first | (exfalso; omega) | (right; refine ⟨by omega, ?_⟩; rw [← hf2, hdn (by omega), resF_nil]; clear hf2 hf hdc hdn; simp_all; done))⟩, by omega, St.Le.of ⟨rfl, rfl, rfl, rfl, (by show some _ = some _; first | (simp only [List.map_append, List.append_assoc]; done) | (simp only [List.map_append, List.append_assoc]; rfl)), rfl, trivial⟩ rfl (by first | (simp only [List.map_append, List.append_assoc]; done) | (simp only [List.map_append, List.append_assoc]; rfl))⟩
              | exact ⟨i + 1, [], out ++ runes r.«to» ++ [(runes s)[i]], ((fun _ : Nat => kB) kA), ⟨by first | omega | (simp; omega), by cases Nat.lt_or_ge i (runes s).length with | inl hlt => (first | (exfalso; omega) | (left; refine ⟨by omega, ?_⟩; rw [← hf2, hdc hlt, resF_cons]; clear hf2 hf hdc hdn; simp_all; done)) | inr hge => (first | (exfalso; omega) | (right; refine ⟨by omega, ?_⟩; rw [← hf2, hdn (by omega), resF_nil]; clear hf2 hf hdc hdn; simp_all; done))⟩, by omega, St.Le.of ⟨rfl, rfl, rfl, rfl, (by show some _ = some _; first | (simp only [List.map_append, List.append_assoc]; done) | (simp only [List.map_append, List.append_assoc]; rfl)), rfl, trivial⟩ rfl (by first | (simp only [List.map_append, List.append_assoc]; done) | (simp only [List.map_append, List.append_assoc]; rfl))⟩
              | exact ⟨i + 1, ss0, out ++ runes r.«to», kA, ⟨by first | omega | (simp; omega), by cases Nat.lt_or_ge i (runes s).length with | inl hlt => (first | (exfalso; omega) | (left; refine ⟨by omega, ?_⟩; rw [← hf2, hdc hlt, resF_cons]; clear hf2 hf hdc hdn; simp_all; done)) | inr hge => (first | (exfalso; omega) | (right; refine ⟨by omega, ?_⟩; rw [← hf2, hdn (by omega), resF_nil]; clear hf2 hf hdc hdn; simp_all; done))⟩, by omega, St.Le.of ⟨rfl, rfl, rfl, rfl, (by show some _ = some _; first | (simp only [List.map_append, List.append_assoc]; done) | (simp only [List.map_append, List.append_assoc]; rfl)), rfl, trivial⟩ rfl (by first | (simp only [List.map_append, List.append_assoc]; done) | (simp only [List.map_append, List.append_assoc]; rfl))⟩
              | exact ⟨i + 1, (s0 :: ss0), out ++ runes r.«to», kA, ⟨by first | omega | (simp; omega), by cases Nat.lt_or_ge i (runes s).length with | inl hlt => (first | (exfalso; omega) | (left; refine ⟨by omega, ?_⟩; rw [← hf2, hdc hlt, resF_cons]; clear hf2 hf hdc hdn; simp_all; done)) | inr hge => (first | (exfalso; omega) | (right; refine ⟨by omega, ?_⟩; rw [← hf2, hdn (by omega), resF_nil]; clear hf2 hf hdc hdn; simp_all; done))⟩, by omega, St.Le.of ⟨rfl, rfl, rfl, rfl, (by show some _ = some _; first | (simp only [List.map_append, List.append_assoc]; done) | (simp only [List.map_append, List.append_assoc]; rfl)), rfl, trivial⟩ rfl (by first | (simp only [List.map_append, List.append_assoc]; done) | (simp only [List.map_append, List.append_assoc]; rfl))⟩
              | exact ⟨i + 1, [], out ++ runes r.«to», kA, ⟨by first | omega | (simp; omega), by cases Nat.lt_or_ge i (runes s).length with | inl hlt => (first | (exfalso; omega) | (left; refine ⟨by omega, ?_⟩; rw [← hf2, hdc hlt, resF_cons]; clear hf2 hf hdc hdn; simp_all; done)) | inr hge => (first | (exfalso; omega) | (right; refine ⟨by omega, ?_⟩; rw [← hf2, hdn (by omega), resF_nil]; clear hf2 hf hdc hdn; simp_all; done))⟩, by omega, St.Le.of ⟨rfl, rfl, rfl, rfl, (by show some _ = some _; first | (simp only [List.map_append, List.append_assoc]; done) | (simp only [List.map_append, List.append_assoc]; rfl)), rfl, trivial⟩ rfl (by first | (simp only [List.map_append, List.append_assoc]; done) | (simp only [List.map_append, List.append_assoc]; rfl))⟩
              | exact ⟨i + 1, ss0, out ++ [(runes s)[i]], kB, ⟨by first | omega | (simp; omega), by cases Nat.lt_or_ge i (runes s).length with | inl hlt => (first | (exfalso; omega) | (left; refine ⟨by omega, ?_⟩; rw [← hf2, hdc hlt, resF_cons]; clear hf2 hf hdc hdn; simp_all; done)) | inr hge => (first | (exfalso; omega) | (right; refine ⟨by omega, ?_⟩; rw [← hf2, hdn (by omega), resF_nil]; clear hf2 hf hdc hdn; simp_all; done))⟩, by omega, St.Le.of ⟨rfl, rfl, rfl, rfl, (by show some _ = some _; first | (simp only [List.map_append, List.append_assoc]; done) | (simp only [List.map_append, List.append_assoc]; rfl)), rfl, trivial⟩ rfl (by first | (simp only [List.map_append, List.append_assoc]; done) | (simp only [List.map_append, List.append_assoc]; rfl))⟩
              | exact ⟨i + 1, (s0 :: ss0), out ++ [(runes s)[i]], kB, ⟨by first | omega | (simp; omega), by cases Nat.lt_or_ge i (runes s).length with | inl hlt => (first | (exfalso; omega) | (left; refine ⟨by omega, ?_⟩; rw [← hf2, hdc hlt, resF_cons]; clear hf2 hf hdc hdn; simp_all; done)) | inr hge => (first | (exfalso; omega) | (right; refine ⟨by omega, ?_⟩; rw [← hf2, hdn (by omega), resF_nil]; clear hf2 hf hdc hdn; simp_all; done))⟩, by omega, St.Le.of ⟨rfl, rfl, rfl, rfl, (by show some _ = some _; first | (simp only [List.map_append, List.append_assoc]; done) | (simp only [List.map_append, List.append_assoc]; rfl)), rfl, trivial⟩ rfl (by first | (simp only [List.map_append, List.append_assoc]; done) | (simp only [List.map_append, List.append_assoc]; rfl))⟩
              | exact ⟨i + 1, [], out ++ [(runes s)[i]], kB, ⟨by first | omega | (simp; omega), by cases Nat.lt_or_ge i (runes s).length with | inl hlt => (first | (exfalso; omega) | (left; refine ⟨by omega, ?_⟩; rw [← hf2, hdc hlt, resF_cons]; clear hf2 hf hdc hdn; simp_all; done)) | inr hge => (first | (exfalso; omega) | (right; refine ⟨by omega, ?_⟩; rw [← hf2, hdn (by omega), resF_nil]; clear hf2 hf hdc hdn; simp_all; done))⟩, by omega, St.Le.of ⟨rfl, rfl, rfl, rfl, (by show some _ = some _; first | (simp only [List.map_append, List.append_assoc]; done) | (simp only [List.map_append, List.append_assoc]; rfl)), rfl, trivial⟩ rfl (by first | (simp only [List.map_append, List.append_assoc]; done) | (simp only [List.map_append, List.append_assoc]; rfl))⟩
              | exact ⟨i + 1, ss0, out, k, ⟨by first | omega | (simp; omega), by cases Nat.lt_or_ge i (runes s).length with | inl hlt => (first | (exfalso; omega) | (left; refine ⟨by omega, ?_⟩; rw [← hf2, hdc hlt, resF_cons]; clear hf2 hf hdc hdn; simp_all; done)) | inr hge => (first | (exfalso; omega) | (right; refine ⟨by omega, ?_⟩; rw [← hf2, hdn (by omega), resF_nil]; clear hf2 hf hdc hdn; simp_all; done))⟩, by omega, St.Le.of ⟨rfl, rfl, rfl, rfl, rfl, rfl, trivial⟩ rfl (rfl)⟩
              | exact ⟨i + 1, (s0 :: ss0), out, k, ⟨by first | omega | (simp; omega), by cases Nat.lt_or_ge i (runes s).length with | inl hlt => (first | (exfalso; omega) | (left; refine ⟨by omega, ?_⟩; rw [← hf2, hdc hlt, resF_cons]; clear hf2 hf hdc hdn; simp_all; done)) | inr hge => (first | (exfalso; omega) | (right; refine ⟨by omega, ?_⟩; rw [← hf2, hdn (by omega), resF_nil]; clear hf2 hf hdc hdn; simp_all; done))⟩, by omega, St.Le.of ⟨rfl, rfl, rfl, rfl, rfl, rfl, trivial⟩ rfl (rfl)⟩
              | exact ⟨i + 1, [], out, k, ⟨by first | omega | (simp; omega), by cases Nat.lt_or_ge i (runes s).length with | inl hlt => (first | (exfalso; omega) | (left; refine ⟨by omega, ?_⟩; rw [← hf2, hdc hlt, resF_cons]; clear hf2 hf hdc hdn; simp_all; done)) | inr hge => (first | (exfalso; omega) | (right; refine ⟨by omega, ?_⟩; rw [← hf2, hdn (by omega), resF_nil]; clear hf2 hf hdc hdn; simp_all; done))⟩, by omega, St.Le.of ⟨rfl, rfl, rfl, rfl, rfl, rfl, trivial⟩ rfl (rfl)⟩
          · try simp only [nmL] at hb5
            refine SOps.fieldPin rfl fieldB_47_0_0 ?_
            refine SOps.loadPin rfl flatB_21 ?_
            refine SOps.bin rfl rfl rfl ?_
            refine SOps.pick rfl rfl ?_
            refine SOps.pick rfl rfl ?_
            refine SOps.nil ?_
            refine SCode.cond rfl (fun hc6 => ?_) (fun hc6 => ?_)
            · try simp only [nmL] at hc6
              refine SCode.region ?_
              refine SOps.move rfl ?_
              refine SOps.move rfl ?_
              refine SOps.move rfl ?_
              refine SOps.indexM (i) rfl rfl sliceB_84_21_1 (by first | omega | (simp only [lenB]; omega)) (by first | omega | (simp only [lenB]; omega)) ?_
              refine SOps.loadPin rfl flatB_21 ?_
              refine SOps.litF rfl sliceB_84_21_1 zeroIs_21 rfl ?_
              refine SOps.appendAcc [] [] sliceB_84_21_1 elemB_21_1_4 rfl rfl rfl SrcD.isl (by simp) (by simp [lenB]; omega) (by simp; omega) (fun kB => ?_)
              refine SOps.assign rfl ?_
              refine SOps.nil ?_
              show SCode _ _ _ _
              refine SCode.region ?_
              refine SOps.move rfl ?_
              refine SOps.addI rfl rfl (by first | omega | (simp only [lenB]; omega)) (by first | omega | (simp only [lenB]; omega)) ?_
              refine SOps.assign rfl ?_
              refine SOps.nil ?_
              first
                | (exfalso; simp only [List.getElem_cons_zero] at *; omega)
                | exact ⟨i + 1, ss0, out ++ runes r.«to» ++ [(runes s)[i]], ((fun _ : Nat => kB) kA), ⟨by first | omega | (simp; omega), by cases Nat.lt_or_ge i (runes s).length with | inl hlt => (first | (exfalso; omega) | (left; refine ⟨by omega, ?_⟩; rw [← hf2, hdc hlt, resF_cons]; clear hf2 hf hdc hdn; simp_all; done)) | inr hge => (first | (exfalso; omega) | (right; refine ⟨by omega, ?_⟩; rw [← hf2, hdn (by omega), resF_nil]; clear hf2 hf hdc hdn; simp_all; done))⟩, by omega, St.Le.of ⟨rfl, rfl, rfl, rfl, (by show some _ = some _; first | (simp only [List.map_append, List.append_assoc]; done) | (simp only [List.map_append, List.append_assoc]; rfl)), rfl, trivial⟩ rfl (by first | (simp only [List.map_append, List.append_assoc]; done) | (simp only [List.map_append, List.append_assoc]; rfl))⟩
                | exact ⟨i + 1, (s0 :: ss0), out ++ runes r.«to» ++ [(runes s)[i]], ((fun _ : Nat => kB) kA), ⟨by first | omega | (simp; omega), by cases Nat.lt_or_ge i (runes s).length with | inl hlt => (first | (exfalso; omega) | (left; refine ⟨by omega, ?_⟩; rw [← hf2, hdc hlt, resF_cons]; clear hf2 hf hdc hdn; simp_all; done)) | inr hge => (first | (exfalso; omega) | (right; refine ⟨by omega, ?_⟩; rw [← hf2, hdn (by omega), resF_nil]; clear hf2 hf hdc hdn; simp_all; done))⟩, by omega, St.Le.of ⟨rfl, rfl, rfl, rfl, (by show some _ = some _; first | (simp only [List.map_append, List.append_assoc]; done) | (simp only [List.map_append, List.append_assoc]; rfl)), rfl, trivial⟩ rfl (by first | (simp only [List.map_append, List.append_assoc]; done) | (simp only [List.map_append, List.append_assoc]; rfl))⟩
                | exact ⟨i + 1, [], out ++ runes r.«to» ++ [(runes s)[i]], ((fun _ : Nat => kB) kA), ⟨by first | omega | (simp; omega), by cases Nat.lt_or_ge i (runes s).length with | inl hlt => (first | (exfalso; omega) | (left; refine ⟨by omega, ?_⟩; rw [← hf2, hdc hlt, resF_cons]; clear hf2 hf hdc hdn; simp_all; done)) | inr hge => (first | (exfalso; omega) | (right; refine ⟨by omega, ?_⟩; rw [← hf2, hdn (by omega), resF_nil]; clear hf2 hf hdc hdn; simp_all; done))⟩, by omega, St.Le.of ⟨rfl, rfl, rfl, rfl, (by show some _ = some _; first | (simp only [List.map_append, List.append_assoc]; done) | (simp only [List.map_append, List.append_assoc]; rfl)), rfl, trivial⟩ rfl (by first | (simp only [List.map_append, List.append_assoc]; done) | (simp only [List.map_append, List.append_assoc]; rfl))⟩
                | exact ⟨i + 1, ss0, out ++ runes r.«to», kA, ⟨by first | omega | (simp; omega), by cases Nat.lt_or_ge i (runes s).length with | inl hlt => (first | (exfalso; omega) | (left; refine ⟨by omega, ?_⟩; rw [← hf2, hdc hlt, resF_cons]; clear hf2 hf hdc hdn; simp_all; done)) | inr hge => (first | (exfalso; omega) | (right; refine ⟨by omega, ?_⟩; rw [← hf2, hdn (by omega), resF_nil]; clear hf2 hf hdc hdn; simp_all; done))⟩, by omega, St.Le.of ⟨rfl, rfl, rfl, rfl, (by show some _ = some _; first | (simp only [List.map_append, List.append_assoc]; done) | (simp only [List.map_append, List.append_assoc]; rfl)), rfl, trivial⟩ rfl (by first | (simp only [List.map_append, List.append_assoc]; done) | (simp only [List.map_append, List.append_assoc]; rfl))⟩
                | exact ⟨i + 1, (s0 :: ss0), out ++ runes r.«to», kA, ⟨by first | omega | (simp; omega), by cases Nat.lt_or_ge i (runes s).length with | inl hlt => (first | (exfalso; omega) | (left; refine ⟨by omega, ?_⟩; rw [← hf2, hdc hlt, resF_cons]; clear hf2 hf hdc hdn; simp_all; done)) | inr hge => (first | (exfalso; omega) | (right; refine ⟨by omega, ?_⟩; rw [← hf2, hdn (by omega), resF_nil]; clear hf2 hf hdc hdn; simp_all; done))⟩, by omega, St.Le.of ⟨rfl, rfl, rfl, rfl, (by show some _ = some _; first | (simp only [List.map_append, List.append_assoc]; done) | (simp only [List.map_append, List.append_assoc]; rfl)), rfl, trivial⟩ rfl (by first | (simp only [List.map_append, List.append_assoc]; done) | (simp only [List.map_append, List.append_assoc]; rfl))⟩
                | exact ⟨i + 1, [], out ++ runes r.«to», kA, ⟨by first | omega | (simp; omega), by cases Nat.lt_or_ge i (runes s).length with | inl hlt => (first | (exfalso; omega) | (left; refine ⟨by omega, ?_⟩; rw [← hf2, hdc hlt, resF_cons]; clear hf2 hf hdc hdn; simp_all; done)) | inr hge => (first | (exfalso; omega) | (right; refine ⟨by omega, ?_⟩; rw [← hf2, hdn (by omega), resF_nil]; clear hf2 hf hdc hdn; simp_all; done))⟩, by omega, St.Le.of ⟨rfl, rfl, rfl, rfl, (by show some _ = some _; first | (simp only [List.map_append, List.append_assoc]; done) | (simp only [List.map_append, List.append_assoc]; rfl)), rfl, trivial⟩ rfl (by first | (simp only [List.map_append, List.append_assoc]; done) | (simp only [List.map_append, List.append_assoc]; rfl))⟩
                | exact ⟨i + 1, ss0, out ++ [(runes s)[i]], kB, ⟨by first | omega | (simp; omega), by cases Nat.lt_or_ge i (runes s).length with | inl hlt => (first | (exfalso; omega) | (left; refine ⟨by omega, ?_⟩; rw [← hf2, hdc hlt, resF_cons]; clear hf2 hf hdc hdn; simp_all; done)) | inr hge => (first | (exfalso; omega) | (right; refine ⟨by omega, ?_⟩; rw [← hf2, hdn (by omega), resF_nil]; clear hf2 hf hdc hdn; simp_all; done))⟩, by omega, St.Le.of ⟨rfl, rfl, rfl, rfl, (by show some _ = some _; first | (simp only [List.map_append, List.append_assoc]; done) | (simp only [List.map_append, List.append_assoc]; rfl)), rfl, trivial⟩ rfl (by first | (simp only [List.map_append, List.append_assoc]; done) | (simp only [List.map_append, List.append_assoc]; rfl))⟩
                | exact ⟨i + 1, (s0 :: ss0), out ++ [(runes s)[i]], kB, ⟨by first | omega | (simp; omega), by cases Nat.lt_or_ge i (runes s).length with | inl hlt => (first | (exfalso; omega) | (left; refine ⟨by omega, ?_⟩; rw [← hf2, hdc hlt, resF_cons]; clear hf2 hf hdc hdn; simp_all; done)) | inr hge => (first | (exfalso; omega) | (right; refine ⟨by omega, ?_⟩; rw [← hf2, hdn (by omega), resF_nil]; clear hf2 hf hdc hdn; simp_all; done))⟩, by omega, St.Le.of ⟨rfl, rfl, rfl, rfl, (by show some _ = some _; first | (simp only [List.map_append, List.append_assoc]; done) | (simp only [List.map_append, List.append_assoc]; rfl)), rfl, trivial⟩ rfl (by first | (simp only [List.map_append, List.append_assoc]; done) | (simp only [List.map_append, List.append_assoc]; rfl))⟩
                | exact ⟨i + 1, [], out ++ [(runes s)[i]], kB, ⟨by first | omega | (simp; omega), by cases Nat.lt_or_ge i (runes s).length with | inl hlt => (first | (exfalso; omega) | (left; refine ⟨by omega, ?_⟩; rw [← hf2, hdc hlt, resF_cons]; clear hf2 hf hdc hdn; simp_all; done)) | inr hge => (first | (exfalso; omega) | (right; refine ⟨by omega, ?_⟩; rw [← hf2, hdn (by omega), resF_nil]; clear hf2 hf hdc hdn; simp_all; done))⟩, by omega, St.Le.of ⟨rfl, rfl, rfl, rfl, (by show some _ = some _; first | (simp only [List.map_append, List.append_assoc]; done) | (simp only [List.map_append, List.append_assoc]; rfl)), rfl, trivial⟩ rfl (by first | (simp only [List.map_append, List.append_assoc]; done) | (simp only [List.map_append, List.append_assoc]; rfl))⟩
                | exact ⟨i + 1, ss0, out, k, ⟨by first | omega | (simp; omega), by cases Nat.lt_or_ge i (runes s).length with | inl hlt => (first | (exfalso; omega) | (left; refine ⟨by omega, ?_⟩; rw [← hf2, hdc hlt, resF_cons]; clear hf2 hf hdc hdn; simp_all; done)) | inr hge => (first | (exfalso; omega) | (right; refine ⟨by omega, ?_⟩; rw [← hf2, hdn (by omega), resF_nil]; clear hf2 hf hdc hdn; simp_all; done))⟩, by omega, St.Le.of ⟨rfl, rfl, rfl, rfl, rfl, rfl, trivial⟩ rfl (rfl)⟩
                | exact ⟨i + 1, (s0 :: ss0), out, k, ⟨by first | omega | (simp; omega), by cases Nat.lt_or_ge i (runes s).length with | inl hlt => (first | (exfalso; omega) | (left; refine ⟨by omega, ?_⟩; rw [← hf2, hdc hlt, resF_cons]; clear hf2 hf hdc hdn; simp_all; done)) | inr hge => (first | (exfalso; omega) | (right; refine ⟨by omega, ?_⟩; rw [← hf2, hdn (by omega), resF_nil]; clear hf2 hf hdc hdn; simp_all; done))⟩, by omega, St.Le.of ⟨rfl, rfl, rfl, rfl, rfl, rfl, trivial⟩ rfl (rfl)⟩
                | exact ⟨i + 1, [], out, k, ⟨by first | omega | (simp; omega), by cases Nat.lt_or_ge i (runes s).length with | inl hlt => (first | (exfalso; omega) | (left; refine ⟨by omega, ?_⟩; rw [← hf2, hdc hlt, resF_cons]; clear hf2 hf hdc hdn; simp_all; done)) | inr hge => (first | (exfalso; omega) | (right; refine ⟨by omega, ?_⟩; rw [← hf2, hdn (by omega), resF_nil]; clear hf2 hf hdc hdn; simp_all; done))⟩, by omega, St.Le.of ⟨rfl, rfl, rfl, rfl, rfl, rfl, trivial⟩ rfl (rfl)⟩
            · try simp only [nmL] at hc6
              refine SCode.skip ?_
              show SCode _ _ _ _
              refine SCode.region ?_
              refine SOps.move rfl ?_
              refine SOps.addI rfl rfl (by first | omega | (simp only [lenB]; omega)) (by first | omega | (simp only [lenB]; omega)) ?_
              refine SOps.assign rfl ?_
              refine SOps.nil ?_
              first
                | (exfalso; simp only [List.getElem_cons_zero] at *; omega)
                | exact ⟨i + 1, ss0, out ++ runes r.«to» ++ [(runes s)[i]], ((fun _ : Nat => kB) kA), ⟨by first | omega | (simp; omega), by cases Nat.lt_or_ge i (runes s).length with | inl hlt => (first | (exfalso; omega) | (left; refine ⟨by omega, ?_⟩; rw [← hf2, hdc hlt, resF_cons]; clear hf2 hf hdc hdn; simp_all; done)) | inr hge => (first | (exfalso; omega) | (right; refine ⟨by omega, ?_⟩; rw [← hf2, hdn (by omega), resF_nil]; clear hf2 hf hdc hdn; simp_all; done))⟩, by omega, St.Le.of ⟨rfl, rfl, rfl, rfl, (by show some _ = some _; first | (simp only [List.map_append, List.append_assoc]; done) | (simp only [List.map_append, List.append_assoc]; rfl)), rfl, trivial⟩ rfl (by first | (simp only [List.map_append, List.append_assoc]; done) | (simp only [List.map_append, List.append_assoc]; rfl))⟩
                | exact ⟨i + 1, (s0 :: ss0), out ++ runes r.«to» ++ [(runes s)[i]], ((fun _ : Nat => kB) kA), ⟨by first | omega | (simp; omega), by cases Nat.lt_or_ge i (runes s).length with | inl hlt => (first | (exfalso; omega) | (left; refine ⟨by omega, ?_⟩; rw [← hf2, hdc hlt, resF_cons]; clear hf2 hf hdc hdn; simp_all; done)) | inr hge => (first | (exfalso; omega) | (right; refine ⟨by omega, ?_⟩; rw [← hf2, hdn (by omega), resF_nil]; clear hf2 hf hdc hdn; simp_all; done))⟩, by omega, St.Le.of ⟨rfl, rfl, rfl, rfl, (by show some _ = some _; first | (simp only [List.map_append, List.append_assoc]; done) | (simp only [List.map_append, List.append_assoc]; rfl)), rfl, trivial⟩ rfl (by first | (simp only [List.map_append, List.append_assoc]; done) | (simp only [List.map_append, List.append_assoc]; rfl))⟩
                | exact ⟨i + 1, [], out ++ runes r.«to» ++ [(runes s)[i]], ((fun _ : Nat => kB) kA), ⟨by first | omega | (simp; omega), by cases Nat.lt_or_ge i (runes s).length with | inl hlt => (first | (exfalso; omega) | (left; refine ⟨by omega, ?_⟩; rw [← hf2, hdc hlt, resF_cons]; clear hf2 hf hdc hdn; simp_all; done)) | inr hge => (first | (exfalso; omega) | (right; refine ⟨by omega, ?_⟩; rw [← hf2, hdn (by omega), resF_nil]; clear hf2 hf hdc hdn; simp_all; done))⟩, by omega, St.Le.of ⟨rfl, rfl, rfl, rfl, (by show some _ = some _; first | (simp only [List.map_append, List.append_assoc]; done) | (simp only [List.map_append, List.append_assoc]; rfl)), rfl, trivial⟩ rfl (by first | (simp only [List.map_append, List.append_assoc]; done) | (simp only [List.map_append, List.append_assoc]; rfl))⟩
                | exact ⟨i + 1, ss0, out ++ runes r.«to», kA, ⟨by first | omega | (simp; omega), by cases Nat.lt_or_ge i (runes s).length with | inl hlt => (first | (exfalso; omega) | (left; refine ⟨by omega, ?_⟩; rw [← hf2, hdc hlt, resF_cons]; clear hf2 hf hdc hdn; simp_all; done)) | inr hge => (first | (exfalso; omega) | (right; refine ⟨by omega, ?_⟩; rw [← hf2, hdn (by omega), resF_nil]; clear hf2 hf hdc hdn; simp_all; done))⟩, by omega, St.Le.of ⟨rfl, rfl, rfl, rfl, (by show some _ = some _; first | (simp only [List.map_append, List.append_assoc]; done) | (simp only [List.map_append, List.append_assoc]; rfl)), rfl, trivial⟩ rfl (by first | (simp only [List.map_append, List.append_assoc]; done) | (simp only [List.map_append, List.append_assoc]; rfl))⟩
                | exact ⟨i + 1, (s0 :: ss0), out ++ runes r.«to», kA, ⟨by first | omega | (simp; omega), by cases Nat.lt_or_ge i (runes s).length with | inl hlt => (first | (exfalso; omega) | (left; refine ⟨by omega, ?_⟩; rw [← hf2, hdc hlt, resF_cons]; clear hf2 hf hdc hdn; simp_all; done)) | inr hge => (first | (exfalso; omega) | (right; refine ⟨by omega, ?_⟩; rw [← hf2, hdn (by omega), resF_nil]; clear hf2 hf hdc hdn; simp_all; done))⟩, by omega, St.Le.of ⟨rfl, rfl, rfl, rfl, (by show some _ = some _; first | (simp only [List.map_append, List.append_assoc]; done) | (simp only [List.map_append, List.append_assoc]; rfl)), rfl, trivial⟩ rfl (by first | (simp only [List.map_append, List.append_assoc]; done) | (simp only [List.map_append, List.append_assoc]; rfl))⟩
                | exact ⟨i + 1, [], out ++ runes r.«to», kA, ⟨by first | omega | (simp; omega), by cases Nat.lt_or_ge i (runes s).length with | inl hlt => (first | (exfalso; omega) | (left; refine ⟨by omega, ?_⟩; rw [← hf2, hdc hlt, resF_cons]; clear hf2 hf hdc hdn; simp_all; done)) | inr hge => (first | (exfalso; omega) | (right; refine ⟨by omega, ?_⟩; rw [← hf2, hdn (by omega), resF_nil]; clear hf2 hf hdc hdn; simp_all; done))⟩, by omega, St.Le.of ⟨rfl, rfl, rfl, rfl, (by show some _ = some _; first | (simp only [List.map_append, List.append_assoc]; done) | (simp only [List.map_append, List.append_assoc]; rfl)), rfl, trivial⟩ rfl (by first | (simp only [List.map_append, List.append_assoc]; done) | (simp only [List.map_append, List.append_assoc]; rfl))⟩
                | exact ⟨i + 1, ss0, out ++ [(runes s)[i]], kB, ⟨by first | omega | (simp; omega), by cases Nat.lt_or_ge i (runes s).length with | inl hlt => (first | (exfalso; omega) | (left; refine ⟨by omega, ?_⟩; rw [← hf2, hdc hlt, resF_cons]; clear hf2 hf hdc hdn; simp_all; done)) | inr hge => (first | (exfalso; omega) | (right; refine ⟨by omega, ?_⟩; rw [← hf2, hdn (by omega), resF_nil]; clear hf2 hf hdc hdn; simp_all; done))⟩, by omega, St.Le.of ⟨rfl, rfl, rfl, rfl, (by show some _ = some _; first | (simp only [List.map_append, List.append_assoc]; done) | (simp only [List.map_append, List.append_assoc]; rfl)), rfl, trivial⟩ rfl (by first | (simp only [List.map_append, List.append_assoc]; done) | (simp only [List.map_append, List.append_assoc]; rfl))⟩
                | exact ⟨i + 1, (s0 :: ss0), out ++ [(runes s)[i]], kB, ⟨by first | omega | (simp; omega), by cases Nat.lt_or_ge i (runes s).length with | inl hlt => (first | (exfalso; omega) | (left; refine ⟨by omega, ?_⟩; rw [← hf2, hdc hlt, resF_cons]; clear hf2 hf hdc hdn; simp_all; done)) | inr hge => (first | (exfalso; omega) | (right; refine ⟨by omega, ?_⟩; rw [← hf2, hdn (by omega), resF_nil]; clear hf2 hf hdc hdn; simp_all; done))⟩, by omega, St.Le.of ⟨rfl, rfl, rfl, rfl, (by show some _ = some _; first | (simp only [List.map_append, List.append_assoc]; done) | (simp only [List.map_append, List.append_assoc]; rfl)), rfl, trivial⟩ rfl (by first | (simp only [List.map_append, List.append_assoc]; done) | (simp only [List.map_append, List.append_assoc]; rfl))⟩
                | exact ⟨i + 1, [], out ++ [(runes s)[i]], kB, ⟨by first | omega | (simp; omega), by cases Nat.lt_or_ge i (runes s).length with | inl hlt => (first | (exfalso; omega) | (left; refine ⟨by omega, ?_⟩; rw [← hf2, hdc hlt, resF_cons]; clear hf2 hf hdc hdn; simp_all; done)) | inr hge => (first | (exfalso; omega) | (right; refine ⟨by omega, ?_⟩; rw [← hf2, hdn (by omega), resF_nil]; clear hf2 hf hdc hdn; simp_all; done))⟩, by omega, St.Le.of ⟨rfl, rfl, rfl, rfl, (by show some _ = some _; first | (simp only [List.map_append, List.append_assoc]; done) | (simp only [List.map_append, List.append_assoc]; rfl)), rfl, trivial⟩ rfl (by first | (simp only [List.map_append, List.append_assoc]; done) | (simp only [List.map_append, List.append_assoc]; rfl))⟩
                | exact ⟨i + 1, ss0, out, k, ⟨by first | omega | (simp; omega), by cases Nat.lt_or_ge i (runes s).length with | inl hlt => (first | (exfalso; omega) | (left; refine ⟨by omega, ?_⟩; rw [← hf2, hdc hlt, resF_cons]; clear hf2 hf hdc hdn; simp_all; done)) | inr hge => (first | (exfalso; omega) | (right; refine ⟨by omega, ?_⟩; rw [← hf2, hdn (by omega), resF_nil]; clear hf2 hf hdc hdn; simp_all; done))⟩, by omega, St.Le.of ⟨rfl, rfl, rfl, rfl, rfl, rfl, trivial⟩ rfl (rfl)⟩
                | exact ⟨i + 1, (s0 :: ss0), out, k, ⟨by first | omega | (simp; omega), by cases Nat.lt_or_ge i (runes s).length with | inl hlt => (first | (exfalso; omega) | (left; refine ⟨by omega, ?_⟩; rw [← hf2, hdc hlt, resF_cons]; clear hf2 hf hdc hdn; simp_all; done)) | inr hge => (first | (exfalso; omega) | (right; refine ⟨by omega, ?_⟩; rw [← hf2, hdn (by omega), resF_nil]; clear hf2 hf hdc hdn; simp_all; done))⟩, by omega, St.Le.of ⟨rfl, rfl, rfl, rfl, rfl, rfl, trivial⟩ rfl (rfl)⟩
                | exact ⟨i + 1, [], out, k, ⟨by first | omega | (simp; omega), by cases Nat.lt_or_ge i (runes s).length with | inl hlt => (first | (exfalso; omega) | (left; refine ⟨by omega, ?_⟩; rw [← hf2, hdc hlt, resF_cons]; clear hf2 hf hdc hdn; simp_all; done)) | inr hge => (first | (exfalso; omega) | (right; refine ⟨by omega, ?_⟩; rw [← hf2, hdn (by omega), resF_nil]; clear hf2 hf hdc hdn; simp_all; done))⟩, by omega, St.Le.of ⟨rfl, rfl, rfl, rfl, rfl, rfl, trivial⟩ rfl (rfl)⟩
        · try simp only [nmL] at hb4
          refine SOps.skip rfl ?_
          refine SOps.skip rfl ?_
          refine SOps.skip rfl ?_
          refine SOps.skip rfl ?_
          refine SOps.skip rfl ?_
          refine SOps.skip rfl ?_
          refine SOps.skip rfl ?_
          refine SOps.pick rfl rfl ?_
          refine SOps.nil ?_
          refine SCode.cond rfl (fun h => by cases h) (fun _ => ?_)
          refine SCode.skip ?_
          show SCode _ _ _ _
          refine SCode.region ?_
          refine SOps.move rfl ?_
          refine SOps.addI rfl rfl (by first | omega | (simp only [lenB]; omega)) (by first | omega | (simp only [lenB]; omega)) ?_
          refine SOps.assign rfl ?_
          refine SOps.nil ?_
          first
            | (exfalso; simp only [List.getElem_cons_zero] at *; omega)
            | exact ⟨i + 1, ss0, out ++ runes r.«to» ++ [(runes s)[i]], ((fun _ : Nat => kB) kA), ⟨by first | omega | (simp; omega), by cases Nat.lt_or_ge i (runes s).length with | inl hlt => (first | (exfalso; omega) | (left; refine ⟨by omega, ?_⟩; rw [← hf2, hdc hlt, resF_cons]; clear hf2 hf hdc hdn; simp_all; done)) | inr hge => (first | (exfalso; omega) | (right; refine ⟨by omega, ?_⟩; rw [← hf2, hdn (by omega), resF_nil]; clear hf2 hf hdc hdn; simp_all; done))⟩, by omega, St.Le.of ⟨rfl, rfl, rfl, rfl, (by show some _ = some _; first | (simp only [List.map_append, List.append_assoc]; done) | (simp only [List.map_append, List.append_assoc]; rfl)), rfl, trivial⟩ rfl (by first | (simp only [List.map_append, List.append_assoc]; done) | (simp only [List.map_append, List.append_assoc]; rfl))⟩
            | exact ⟨i + 1, (s0 :: ss0), out ++ runes r.«to» ++ [(runes s)[i]], ((fun _ : Nat => kB) kA), ⟨by first | omega | (simp; omega), by cases Nat.lt_or_ge i (runes s).length with | inl hlt => (first | (exfalso; omega) | (left; refine ⟨by omega, ?_⟩; rw [← hf2, hdc hlt, resF_cons]; clear hf2 hf hdc hdn; simp_all; done)) | inr hge => (first | (exfalso; omega) | (right; refine ⟨by omega, ?_⟩; rw [← hf2, hdn (by omega), resF_nil]; clear hf2 hf hdc hdn; simp_all; done))⟩, by omega, St.Le.of ⟨rfl, rfl, rfl, rfl, (by show some _ = some _; first | (simp only [List.map_append, List.append_assoc]; done) | (simp only [List.map_append, List.append_assoc]; rfl)), rfl, trivial⟩ rfl (by first | (simp only [List.map_append, List.append_assoc]; done) | (simp only [List.map_append, List.append_assoc]; rfl))⟩
            | exact ⟨i + 1, [], out ++ runes r.«to» ++ [(runes s)[i]], ((fun _ : Nat => kB) kA), ⟨by first | omega | (simp; omega), by cases Nat.lt_or_ge i (runes s).length with | inl hlt => (first | (exfalso; omega) | (left; refine ⟨by omega, ?_⟩; rw [← hf2, hdc hlt, resF_cons]; clear hf2 hf hdc hdn; simp_all; done)) | inr hge => (first | (exfalso; omega) | (right; refine ⟨by omega, ?_⟩; rw [← hf2, hdn (by omega), resF_nil]; clear hf2 hf hdc hdn; simp_all; done))⟩, by omega, St.Le.of ⟨rfl, rfl, rfl, rfl, (by show some _ = some _; first | (simp only [List.map_append, List.append_assoc]; done) | (simp only [List.map_append, List.append_assoc]; rfl)), rfl, trivial⟩ rfl (by first | (simp only [List.map_append, List.append_assoc]; done) | (simp only [List.map_append, List.append_assoc]; rfl))⟩
            | exact ⟨i + 1, ss0, out ++ runes r.«to», kA, ⟨by first | omega | (simp; omega), by cases Nat.lt_or_ge i (runes s).length with | inl hlt => (first | (exfalso; omega) | (left; refine ⟨by omega, ?_⟩; rw [← hf2, hdc hlt, resF_cons]; clear hf2 hf hdc hdn; simp_all; done)) | inr hge => (first | (exfalso; omega) | (right; refine ⟨by omega, ?_⟩; rw [← hf2, hdn (by omega), resF_nil]; clear hf2 hf hdc hdn; simp_all; done))⟩, by omega, St.Le.of ⟨rfl, rfl, rfl, rfl, (by show some _ = some _; first | (simp only [List.map_append, List.append_assoc]; done) | (simp only [List.map_append, List.append_assoc]; rfl)), rfl, trivial⟩ rfl (by first | (simp only [List.map_append, List.append_assoc]; done) | (simp only [List.map_append, List.append_assoc]; rfl))⟩
            | exact ⟨i + 1, (s0 :: ss0), out ++ runes r.«to», kA, ⟨by first | omega | (simp; omega), by cases Nat.lt_or_ge i (runes s).length with | inl hlt => (first | (exfalso; omega) | (left; refine ⟨by omega, ?_⟩; rw [← hf2, hdc hlt, resF_cons]; clear hf2 hf hdc hdn; simp_all; done)) | inr hge => (first | (exfalso; omega) | (right; refine ⟨by omega, ?_⟩; rw [← hf2, hdn (by omega), resF_nil]; clear hf2 hf hdc hdn; simp_all; done))⟩, by omega, St.Le.of ⟨rfl, rfl, rfl, rfl, (by show some _ = some _; first | (simp only [List.map_append, List.append_assoc]; done) | (simp only [List.map_append, List.append_assoc]; rfl)), rfl, trivial⟩ rfl (by first | (simp only [List.map_append, List.append_assoc]; done) | (simp only [List.map_append, List.append_assoc]; rfl))⟩
            | exact ⟨i + 1, [], out ++ runes r.«to», kA, ⟨by first | omega | (simp; omega), by cases Nat.lt_or_ge i (runes s).length with | inl hlt => (first | (exfalso; omega) | (left; refine ⟨by omega, ?_⟩; rw [← hf2, hdc hlt, resF_cons]; clear hf2 hf hdc hdn; simp_all; done)) | inr hge => (first | (exfalso; omega) | (right; refine ⟨by omega, ?_⟩; rw [← hf2, hdn (by omega), resF_nil]; clear hf2 hf hdc hdn; simp_all; done))⟩, by omega, St.Le.of ⟨rfl, rfl, rfl, rfl, (by show some _ = some _; first | (simp only [List.map_append, List.append_assoc]; done) | (simp only [List.map_append, List.append_assoc]; rfl)), rfl, trivial⟩ rfl (by first | (simp only [List.map_append, List.append_assoc]; done) | (simp only [List.map_append, List.append_assoc]; rfl))⟩
            | exact ⟨i + 1, ss0, out ++ [(runes s)[i]], kB, ⟨by first | omega | (simp; omega), by cases Nat.lt_or_ge i (runes s).length with | inl hlt => (first | (exfalso; omega) | (left; refine ⟨by omega, ?_⟩; rw [← hf2, hdc hlt, resF_cons]; clear hf2 hf hdc hdn; simp_all; done)) | inr hge => (first | (exfalso; omega) | (right; refine ⟨by omega, ?_⟩; rw [← hf2, hdn (by omega), resF_nil]; clear hf2 hf hdc hdn; simp_all; done))⟩, by omega, St.Le.of ⟨rfl, rfl, rfl, rfl, (by show some _ = some _; first | (simp only [List.map_append, List.append_assoc]; done) | (simp only [List.map_append, List.append_assoc]; rfl)), rfl, trivial⟩ rfl (by first | (simp only [List.map_append, List.append_assoc]; done) | (simp only [List.map_append, List.append_assoc]; rfl))⟩
            | exact ⟨i + 1, (s0 :: ss0), out ++ [(runes s)[i]], kB, ⟨by first | omega | (simp; omega), by cases Nat.lt_or_ge i (runes s).length with | inl hlt => (first | (exfalso; omega) | (left; refine ⟨by omega, ?_⟩; rw [← hf2, hdc hlt, resF_cons]; clear hf2 hf hdc hdn; simp_all; done)) | inr hge => (first | (exfalso; omega) | (right; refine ⟨by omega, ?_⟩; rw [← hf2, hdn (by omega), resF_nil]; clear hf2 hf hdc hdn; simp_all; done))⟩, by omega, St.Le.of ⟨rfl, rfl, rfl, rfl, (by show some _ = some _; first | (simp only [List.map_append, List.append_assoc]; done) | (simp only [List.map_append, List.append_assoc]; rfl)), rfl, trivial⟩ rfl (by first | (simp only [List.map_append, List.append_assoc]; done) | (simp only [List.map_append, List.append_assoc]; rfl))⟩
            | exact ⟨i + 1, [], out ++ [(runes s)[i]], kB, ⟨by first | omega | (simp; omega), by cases Nat.lt_or_ge i (runes s).length with | inl hlt => (first | (exfalso; omega) | (left; refine ⟨by omega, ?_⟩; rw [← hf2, hdc hlt, resF_cons]; clear hf2 hf hdc hdn; simp_all; done)) | inr hge => (first | (exfalso; omega) | (right; refine ⟨by omega, ?_⟩; rw [← hf2, hdn (by omega), resF_nil]; clear hf2 hf hdc hdn; simp_all; done))⟩, by omega, St.Le.of ⟨rfl, rfl, rfl, rfl, (by show some _ = some _; first | (simp only [List.map_append, List.append_assoc]; done) | (simp only [List.map_append, List.append_assoc]; rfl)), rfl, trivial⟩ rfl (by first | (simp only [List.map_append, List.append_assoc]; done) | (simp only [List.map_append, List.append_assoc]; rfl))⟩
            | exact ⟨i + 1, ss0, out, k, ⟨by first | omega | (simp; omega), by cases Nat.lt_or_ge i (runes s).length with | inl hlt => (first | (exfalso; omega) | (left; refine ⟨by omega, ?_⟩; rw [← hf2, hdc hlt, resF_cons]; clear hf2 hf hdc hdn; simp_all; done)) | inr hge => (first | (exfalso; omega) | (right; refine ⟨by omega, ?_⟩; rw [← hf2, hdn (by omega), resF_nil]; clear hf2 hf hdc hdn; simp_all; done))⟩, by omega, St.Le.of ⟨rfl, rfl, rfl, rfl, rfl, rfl, trivial⟩ rfl (rfl)⟩
            | exact ⟨i + 1, (s0 :: ss0), out, k, ⟨by first | omega | (simp; omega), by cases Nat.lt_or_ge i (runes s).length with | inl hlt => (first | (exfalso; omega) | (left; refine ⟨by omega, ?_⟩; rw [← hf2, hdc hlt, resF_cons]; clear hf2 hf hdc hdn; simp_all; done)) | inr hge => (first | (exfalso; omega) | (right; refine ⟨by omega, ?_⟩; rw [← hf2, hdn (by omega), resF_nil]; clear hf2 hf hdc hdn; simp_all; done))⟩, by omega, St.Le.of ⟨rfl, rfl, rfl, rfl, rfl, rfl, trivial⟩ rfl (rfl)⟩
            | exact ⟨i + 1, [], out, k, ⟨by first | omega | (simp; omega), by cases Nat.lt_or_ge i (runes s).length with | inl hlt => (first | (exfalso; omega) | (left; refine ⟨by omega, ?_⟩; rw [← hf2, hdc hlt, resF_cons]; clear hf2 hf hdc hdn; simp_all; done)) | inr hge => (first | (exfalso; omega) | (right; refine ⟨by omega, ?_⟩; rw [← hf2, hdn (by omega), resF_nil]; clear hf2 hf hdc hdn; simp_all; done))⟩, by omega, St.Le.of ⟨rfl, rfl, rfl, rfl, rfl, rfl, trivial⟩ rfl (rfl)⟩
      · try simp only [nmL] at hc3
        have hs0 : ¬ s0 = i := fun h => hc3 (by rw [← h]; rfl)
        refine SCode.skip ?_
        show SCode _ _ _ _
        refine SCode.seqR ?_
        refine SOps.move rfl ?_
        refine SOps.move rfl ?_
        refine SOps.lenM rfl sliceB_84_21_1 ?_
        refine SOps.bin rfl rfl rfl ?_
        refine SOps.move rfl ?_
        refine SOps.caseB 43 rfl (fun hb7 => ?_) (fun hb7 => ?_)
        · try simp only [nmL] at hb7
          refine SOps.move rfl ?_
          refine SOps.un rfl rfl ?_
          refine SOps.move rfl ?_
          refine SOps.caseB 46 rfl (fun hb8 => ?_) (fun hb8 => ?_)
          · try simp only [nmL] at hb8
            refine SOps.skip rfl ?_
            refine SOps.skip rfl ?_
            refine SOps.skip rfl ?_
            refine SOps.pick rfl rfl ?_
            refine SOps.pick rfl rfl ?_
            refine SOps.nil ?_
            refine SCode.cond rfl (fun _ => ?_) (fun h => by cases h)
            refine SCode.region ?_
            refine SOps.move rfl ?_
            refine SOps.move rfl ?_
            refine SOps.move rfl ?_
            refine SOps.indexM (i) rfl rfl sliceB_84_21_1 (by first | omega | (simp only [lenB]; omega)) (by first | omega | (simp only [lenB]; omega)) ?_
            refine SOps.loadPin rfl flatB_21 ?_
            refine SOps.litF rfl sliceB_84_21_1 zeroIs_21 rfl ?_
            refine SOps.appendAcc [] [] sliceB_84_21_1 elemB_21_1_4 rfl rfl rfl SrcD.isl (by simp) (by simp [lenB]; omega) (by simp; omega) (fun kB => ?_)
            refine SOps.assign rfl ?_
            refine SOps.nil ?_
            show SCode _ _ _ _
            refine SCode.region ?_
            refine SOps.move rfl ?_
            refine SOps.addI rfl rfl (by first | omega | (simp only [lenB]; omega)) (by first | omega | (simp only [lenB]; omega)) ?_
            refine SOps.assign rfl ?_
            refine SOps.nil ?_
            first
              | (exfalso; simp only [List.getElem_cons_zero] at *; omega)
              | exact ⟨i + 1, ss0, out ++ runes r.«to» ++ [(runes s)[i]], ((fun _ : Nat => kB) kA), ⟨by first | omega | (simp; omega), by cases Nat.lt_or_ge i (runes s).length with | inl hlt => (first | (exfalso; omega) | (left; refine ⟨by omega, ?_⟩; rw [← hf2, hdc hlt, resF_cons]; clear hf2 hf hdc hdn; simp_all; done)) | inr hge => (first | (exfalso; omega) | (right; refine ⟨by omega, ?_⟩; rw [← hf2, hdn (by omega), resF_nil]; clear hf2 hf hdc hdn; simp_all; done))⟩, by omega, St.Le.of ⟨rfl, rfl, rfl, rfl, (by show some _ = some _; first | (simp only [List.map_append, List.append_assoc]; done) | (simp only [List.map_append, List.append_assoc]; rfl)), rfl, trivial⟩ rfl (by first | (simp only [List.map_append, List.append_assoc]; done) | (simp only [List.map_append, List.append_assoc]; rfl))⟩
              | exact ⟨i + 1, (s0 :: ss0), out ++ runes r.«to» ++ [(runes s)[i]], ((fun _ : Nat => kB) kA), ⟨by first | omega | (simp; omega), by cases Nat.lt_or_ge i (runes s).length with | inl hlt => (first | (exfalso; omega) | (left; refine ⟨by omega, ?_⟩; rw [← hf2, hdc hlt, resF_cons]; clear hf2 hf hdc hdn; simp_all; done)) | inr hge => (first | (exfalso; omega) | (right; refine ⟨by omega, ?_⟩; rw [← hf2, hdn (by omega), resF_nil]; clear hf2 hf hdc hdn; simp_all; done))⟩, by omega, St.Le.of ⟨rfl, rfl, rfl, rfl, (by show some _ = some _; first | (simp only [List.map_append, List.append_assoc]; done) | (simp only [List.map_append, List.append_assoc]; rfl)), rfl, trivial⟩ rfl (by first | (simp only [List.map_append, List.append_assoc]; done) | (simp only [List.map_append, List.append_assoc]; rfl))⟩
              | exact ⟨i + 1, [], out ++ runes r.«to» ++ [(runes s)[i]], ((fun _ : Nat => kB) kA), ⟨by first | omega | (simp; omega), by cases Nat.lt_or_ge i (runes s).length with | inl hlt => (first | (exfalso; omega) | (left; refine ⟨by omega, ?_⟩; rw [← hf2, hdc hlt, resF_cons]; clear hf2 hf hdc hdn; simp_all; done)) | inr hge => (first | (exfalso; omega) | (right; refine ⟨by omega, ?_⟩; rw [← hf2, hdn (by omega), resF_nil]; clear hf2 hf hdc hdn; simp_all; done))⟩, by omega, St.Le.of ⟨rfl, rfl, rfl, rfl, (by show some _ = some _; first | (simp only [List.map_append, List.append_assoc]; done) | (simp only [List.map_append, List.append_assoc]; rfl)), rfl, trivial⟩ rfl (by first | (simp only [List.map_append, List.append_assoc]; done) | (simp only [List.map_append, List.append_assoc]; rfl))⟩
              | exact ⟨i + 1, ss0, out ++ runes r.«to», kA, ⟨by first | omega | (simp; omega), by cases Nat.lt_or_ge i (runes s).length with | inl hlt => (first | (exfalso; omega) | (left; refine ⟨by omega, ?_⟩; rw [← hf2, hdc hlt, resF_cons]; clear hf2 hf hdc hdn; simp_all; done)) | inr hge => (first | (exfalso; omega) | (right; refine ⟨by omega, ?_⟩; rw [← hf2, hdn (by omega), resF_nil]; clear hf2 hf hdc hdn; simp_all; done))⟩, by omega, St.Le.of ⟨rfl, rfl, rfl, rfl, (by show some _ = some _; first | (simp only [List.map_append, List.append_assoc]; done) | (simp only [List.map_append, List.append_assoc]; rfl)), rfl, trivial⟩ rfl (by first | (simp only [List.map_append, List.append_assoc]; done) | (simp only [List.map_append, List.append_assoc]; rfl))⟩
              | exact ⟨i + 1, (s0 :: ss0), out ++ runes r.«to», kA, ⟨by first | omega | (simp; omega), by cases Nat.lt_or_ge i (runes s).length with | inl hlt => (first | (exfalso; omega) | (left; refine ⟨by omega, ?_⟩; rw [← hf2, hdc hlt, resF_cons]; clear hf2 hf hdc hdn; simp_all; done)) | inr hge => (first | (exfalso; omega) | (right; refine ⟨by omega, ?_⟩; rw [← hf2, hdn (by omega), resF_nil]; clear hf2 hf hdc hdn; simp_all; done))⟩, by omega, St.Le.of ⟨rfl, rfl, rfl, rfl, (by show some _ = some _; first | (simp only [List.map_append, List.append_assoc]; done) | (simp only [List.map_append, List.append_assoc]; rfl)), rfl, trivial⟩ rfl (by first | (simp only [List.map_append, List.append_assoc]; done) | (simp only [List.map_append, List.append_assoc]; rfl))⟩
              | exact ⟨i + 1, [], out ++ runes r.«to», kA, ⟨by first | omega | (simp; omega), by cases Nat.lt_or_ge i (runes s).length with | inl hlt => (first | (exfalso; omega) | (left; refine ⟨by omega, ?_⟩; rw [← hf2, hdc hlt, resF_cons]; clear hf2 hf hdc hdn; simp_all; done)) | inr hge => (first | (exfalso; omega) | (right; refine ⟨by omega, ?_⟩; rw [← hf2, hdn (by omega), resF_nil]; clear hf2 hf hdc hdn; simp_all; done))⟩, by omega, St.Le.of ⟨rfl, rfl, rfl, rfl, (by show some _ = some _; first | (simp only [List.map_append, List.append_assoc]; done) | (simp only [List.map_append, List.append_assoc]; rfl)), rfl, trivial⟩ rfl (by first | (simp only [List.map_append, List.append_assoc]; done) | (simp only [List.map_append, List.append_assoc]; rfl))⟩
              | exact ⟨i + 1, ss0, out ++ [(runes s)[i]], kB, ⟨by first | omega | (simp; omega), by cases Nat.lt_or_ge i (runes s).length with | inl hlt => (first | (exfalso; omega) | (left; refine ⟨by omega, ?_⟩; rw [← hf2, hdc hlt, resF_cons]; clear hf2 hf hdc hdn; simp_all; done)) | inr hge => (first | (exfalso; omega) | (right; refine ⟨by omega, ?_⟩; rw [← hf2, hdn (by omega), resF_nil]; clear hf2 hf hdc hdn; simp_all; done))⟩, by omega, St.Le.of ⟨rfl, rfl, rfl, rfl, (by show some _ = some _; first | (simp only [List.map_append, List.append_assoc]; done) | (simp only [List.map_append, List.append_assoc]; rfl)), rfl, trivial⟩ rfl (by first | (simp only [List.map_append, List.append_assoc]; done) | (simp only [List.map_append, List.append_assoc]; rfl))⟩
              | exact ⟨i + 1, (s0 :: ss0), out ++ [(runes s)[i]], kB, ⟨by first | omega | (simp; omega), by cases Nat.lt_or_ge i (runes s).length with | inl hlt => (first | (exfalso; omega) | (left; refine ⟨by omega, ?_⟩; rw [← hf2, hdc hlt, resF_cons]; clear hf2 hf hdc hdn; simp_all; done)) | inr hge => (first | (exfalso; omega) | (right; refine ⟨by omega, ?_⟩; rw [← hf2, hdn (by omega), resF_nil]; clear hf2 hf hdc hdn; simp_all; done))⟩, by omega, St.Le.of ⟨rfl, rfl, rfl, rfl, (by show some _ = some _; first | (simp only [List.map_append, List.append_assoc]; done) | (simp only [List.map_append, List.append_assoc]; rfl)), rfl, trivial⟩ rfl (by first | (simp only [List.map_append, List.append_assoc]; done) | (simp only [List.map_append, List.append_assoc]; rfl))⟩
              | exact ⟨i + 1, [], out ++ [(runes s)[i]], kB, ⟨by first | omega | (simp; omega), by cases Nat.lt_or_ge i (runes s).length with | inl hlt => (first | (exfalso; omega) | (left; refine ⟨by omega, ?_⟩; rw [← hf2, hdc hlt, resF_cons]; clear hf2 hf hdc hdn; simp_all; done)) | inr hge => (first | (exfalso; omega) | (right; refine ⟨by omega, ?_⟩; rw [← hf2, hdn (by omega), resF_nil]; clear hf2 hf hdc hdn; simp_all; done))⟩, by omega, St.Le.of ⟨rfl, rfl, rfl, rfl, (by show some _ = some _; first | (simp only [List.map_append, List.append_assoc]; done) | (simp only [List.map_append, List.append_assoc]; rfl)), rfl, trivial⟩ rfl (by first | (simp only [List.map_append, List.append_assoc]; done) | (simp only [List.map_append, List.append_assoc]; rfl))⟩
              | exact ⟨i + 1, ss0, out, k, ⟨by first | omega | (simp; omega), by cases Nat.lt_or_ge i (runes s).length with | inl hlt => (first | (exfalso; omega) | (left; refine ⟨by omega, ?_⟩; rw [← hf2, hdc hlt, resF_cons]; clear hf2 hf hdc hdn; simp_all; done)) | inr hge => (first | (exfalso; omega) | (right; refine ⟨by omega, ?_⟩; rw [← hf2, hdn (by omega), resF_nil]; clear hf2 hf hdc hdn; simp_all; done))⟩, by omega, St.Le.of ⟨rfl, rfl, rfl, rfl, rfl, rfl, trivial⟩ rfl (rfl)⟩
              | exact ⟨i + 1, (s0 :: ss0), out, k, ⟨by first | omega | (simp; omega), by cases Nat.lt_or_ge i (runes s).length with | inl hlt => (first | (exfalso; omega) | (left; refine ⟨by omega, ?_⟩; rw [← hf2, hdc hlt, resF_cons]; clear hf2 hf hdc hdn; simp_all; done)) | inr hge => (first | (exfalso; omega) | (right; refine ⟨by omega, ?_⟩; rw [← hf2, hdn (by omega), resF_nil]; clear hf2 hf hdc hdn; simp_all; done))⟩, by omega, St.Le.of ⟨rfl, rfl, rfl, rfl, rfl, rfl, trivial⟩ rfl (rfl)⟩
              | exact ⟨i + 1, [], out, k, ⟨by first | omega | (simp; omega), by cases Nat.lt_or_ge i (runes s).length with | inl hlt => (first | (exfalso; omega) | (left; refine ⟨by omega, ?_⟩; rw [← hf2, hdc hlt, resF_cons]; clear hf2 hf hdc hdn; simp_all; done)) | inr hge => (first | (exfalso; omega) | (right; refine ⟨by omega, ?_⟩; rw [← hf2, hdn (by omega), resF_nil]; clear hf2 hf hdc hdn; simp_all; done))⟩, by omega, St.Le.of ⟨rfl, rfl, rfl, rfl, rfl, rfl, trivial⟩ rfl (rfl)⟩
          · try simp only [nmL] at hb8
            refine SOps.fieldPin rfl fieldB_47_0_0 ?_
            refine SOps.loadPin rfl flatB_21 ?_
            refine SOps.bin rfl rfl rfl ?_
            refine SOps.pick rfl rfl ?_
            refine SOps.pick rfl rfl ?_
            refine SOps.nil ?_
            refine SCode.cond rfl (fun hc9 => ?_) (fun hc9 => ?_)
            · try simp only [nmL] at hc9
              refine SCode.region ?_
              refine SOps.move rfl ?_
              refine SOps.move rfl ?_
              refine SOps.move rfl ?_
              refine SOps.indexM (i) rfl rfl sliceB_84_21_1 (by first | omega | (simp only [lenB]; omega)) (by first | omega | (simp only [lenB]; omega)) ?_
              refine SOps.loadPin rfl flatB_21 ?_
              refine SOps.litF rfl sliceB_84_21_1 zeroIs_21 rfl ?_
              refine SOps.appendAcc [] [] sliceB_84_21_1 elemB_21_1_4 rfl rfl rfl SrcD.isl (by simp) (by simp [lenB]; omega) (by simp; omega) (fun kB => ?_)
              refine SOps.assign rfl ?_
              refine SOps.nil ?_
              show SCode _ _ _ _
              refine SCode.region ?_
              refine SOps.move rfl ?_
              refine SOps.addI rfl rfl (by first | omega | (simp only [lenB]; omega)) (by first | omega | (simp only [lenB]; omega)) ?_
              refine SOps.assign rfl ?_
              refine SOps.nil ?_
              first
                | (exfalso; simp only [List.getElem_cons_zero] at *; omega)
                | exact ⟨i + 1, ss0, out ++ runes r.«to» ++ [(runes s)[i]], ((fun _ : Nat => kB) kA), ⟨by first | omega | (simp; omega), by cases Nat.lt_or_ge i (runes s).length with | inl hlt => (first | (exfalso; omega) | (left; refine ⟨by omega, ?_⟩; rw [← hf2, hdc hlt, resF_cons]; clear hf2 hf hdc hdn; simp_all; done)) | inr hge => (first | (exfalso; omega) | (right; refine ⟨by omega, ?_⟩; rw [← hf2, hdn (by omega), resF_nil]; clear hf2 hf hdc hdn; simp_all; done))⟩, by omega, St.Le.of ⟨rfl, rfl, rfl, rfl, (by show some _ = some _; first | (simp only [List.map_append, List.append_assoc]; done) | (simp only [List.map_append, List.append_assoc]; rfl)), rfl, trivial⟩ rfl (by first | (simp only [List.map_append, List.append_assoc]; done) | (simp only [List.map_append, List.append_assoc]; rfl))⟩
                | exact ⟨i + 1, (s0 :: ss0), out ++ runes r.«to» ++ [(runes s)[i]], ((fun _ : Nat => kB) kA), ⟨by first | omega | (simp; omega), by cases Nat.lt_or_ge i (runes s).length with | inl hlt => (first | (exfalso; omega) | (left; refine ⟨by omega, ?_⟩; rw [← hf2, hdc hlt, resF_cons]; clear hf2 hf hdc hdn; simp_all; done)) | inr hge => (first | (exfalso; omega) | (right; refine ⟨by omega, ?_⟩; rw [← hf2, hdn (by omega), resF_nil]; clear hf2 hf hdc hdn; simp_all; done))⟩, by omega, St.Le.of ⟨rfl, rfl, rfl, rfl, (by show some _ = some _; first | (simp only [List.map_append, List.append_assoc]; done) | (simp only [List.map_append, List.append_assoc]; rfl)), rfl, trivial⟩ rfl (by first | (simp only [List.map_append, List.append_assoc]; done) | (simp only [List.map_append, List.append_assoc]; rfl))⟩
                | exact ⟨i + 1, [], out ++ runes r.«to» ++ [(runes s)[i]], ((fun _ : Nat => kB) kA), ⟨by first | omega | (simp; omega), by cases Nat.lt_or_ge i (runes s).length with | inl hlt => (first | (exfalso; omega) | (left; refine ⟨by omega, ?_⟩; rw [← hf2, hdc hlt, resF_cons]; clear hf2 hf hdc hdn; simp_all; done)) | inr hge => (first | (exfalso; omega) | (right; refine ⟨by omega, ?_⟩; rw [← hf2, hdn (by omega), resF_nil]; clear hf2 hf hdc hdn; simp_all; done))⟩, by omega, St.Le.of ⟨rfl, rfl, rfl, rfl, (by show some _ = some _; first | (simp only [List.map_append, List.append_assoc]; done) | (simp only [List.map_append, List.append_assoc]; rfl)), rfl, trivial⟩ rfl (by first | (simp only [List.map_append, List.append_assoc]; done) | (simp only [List.map_append, List.append_assoc]; rfl))⟩
                | exact ⟨i + 1, ss0, out ++ runes r.«to», kA, ⟨by first | omega | (simp; omega), by cases Nat.lt_or_ge i (runes s).length with | inl hlt => (first | (exfalso; omega) | (left; refine ⟨by omega, ?_⟩; rw [← hf2, hdc hlt, resF_cons]; clear hf2 hf hdc hdn; simp_all; done)) | inr hge => (first | (exfalso; omega) | (right; refine ⟨by omega, ?_⟩; rw [← hf2, hdn (by omega), resF_nil]; clear hf2 hf hdc hdn; simp_all; done))⟩, by omega, St.Le.of ⟨rfl, rfl, rfl, rfl, (by show some _ = some _; first | (simp only [List.map_append, List.append_assoc]; done) | (simp only [List.map_append, List.append_assoc]; rfl)), rfl, trivial⟩ rfl (by first | (simp only [List.map_append, List.append_assoc]; done) | (simp only [List.map_append, List.append_assoc]; rfl))⟩
                | exact ⟨i + 1, (s0 :: ss0), out ++ runes r.«to», kA, ⟨by first | omega | (simp; omega), by cases Nat.lt_or_ge i (runes s).length with | inl hlt => (first | (exfalso; omega) | (left; refine ⟨by omega, ?_⟩; rw [← hf2, hdc hlt, resF_cons]; clear hf2 hf hdc hdn; simp_all; done)) | inr hge => (first | (exfalso; omega) | (right; refine ⟨by omega, ?_⟩; rw [← hf2, hdn (by omega), resF_nil]; clear hf2 hf hdc hdn; simp_all; done))⟩, by omega, St.Le.of ⟨rfl, rfl, rfl, rfl, (by show some _ = some _; first | (simp only [List.map_append, List.append_assoc]; done) | (simp only [List.map_append, List.append_assoc]; rfl)), rfl, trivial⟩ rfl (by first | (simp only [List.map_append, List.append_assoc]; done) | (simp only [List.map_append, List.append_assoc]; rfl))⟩
                | exact ⟨i + 1, [], out ++ runes r.«to», kA, ⟨by first | omega | (simp; omega), by cases Nat.lt_or_ge i (runes s).length with | inl hlt => (first | (exfalso; omega) | (left; refine ⟨by omega, ?_⟩; rw [← hf2, hdc hlt, resF_cons]; clear hf2 hf hdc hdn; simp_all; done)) | inr hge => (first | (exfalso; omega) | (right; refine ⟨by omega, ?_⟩; rw [← hf2, hdn (by omega), resF_nil]; clear hf2 hf hdc hdn; simp_all; done))⟩, by omega, St.Le.of ⟨rfl, rfl, rfl, rfl, (by show some _ = some _; first | (simp only [List.map_append, List.append_assoc]; done) | (simp only [List.map_append, List.append_assoc]; rfl)), rfl, trivial⟩ rfl (by first | (simp only [List.map_append, List.append_assoc]; done) | (simp only [List.map_append, List.append_assoc]; rfl))⟩
                | exact ⟨i + 1, ss0, out ++ [(runes s)[i]], kB, ⟨by first | omega | (simp; omega), by cases Nat.lt_or_ge i (runes s).length with | inl hlt => (first | (exfalso; omega) | (left; refine ⟨by omega, ?_⟩; rw [← hf2, hdc hlt, resF_cons]; clear hf2 hf hdc hdn; simp_all; done)) | inr hge => (first | (exfalso; omega) | (right; refine ⟨by omega, ?_⟩; rw [← hf2, hdn (by omega), resF_nil]; clear hf2 hf hdc hdn; simp_all; done))⟩, by omega, St.Le.of ⟨rfl, rfl, rfl, rfl, (by show some _ = some _; first | (simp only [List.map_append, List.append_assoc]; done) | (simp only [List.map_append, List.append_assoc]; rfl)), rfl, trivial⟩ rfl (by first | (simp only [List.map_append, List.append_assoc]; done) | (simp only [List.map_append, List.append_assoc]; rfl))⟩
                | exact ⟨i + 1, (s0 :: ss0), out ++ [(runes s)[i]], kB, ⟨by first | omega | (simp; omega), by cases Nat.lt_or_ge i (runes s).length with | inl hlt => (first | (exfalso; omega) | (left; refine ⟨by omega, ?_⟩; rw [← hf2, hdc hlt, resF_cons]; clear hf2 hf hdc hdn; simp_all; done)) | inr hge => (first | (exfalso; omega) | (right; refine ⟨by omega, ?_⟩; rw [← hf2, hdn (by omega), resF_nil]; clear hf2 hf hdc hdn; simp_all; done))⟩, by omega, St.Le.of ⟨rfl, rfl, rfl, rfl, (by show some _ = some _; first | (simp only [List.map_append, List.append_assoc]; done) | (simp only [List.map_append, List.append_assoc]; rfl)), rfl, trivial⟩ rfl (by first | (simp only [List.map_append, List.append_assoc]; done) | (simp only [List.map_append, List.append_assoc]; rfl))⟩
                | exact ⟨i + 1, [], out ++ [(runes s)[i]], kB, ⟨by first | omega | (simp; omega), by cases Nat.lt_or_ge i (runes s).length with | inl hlt => (first | (exfalso; omega) | (left; refine ⟨by omega, ?_⟩; rw [← hf2, hdc hlt, resF_cons]; clear hf2 hf hdc hdn; simp_all; done)) | inr hge => (first | (exfalso; omega) | (right; refine ⟨by omega, ?_⟩; rw [← hf2, hdn (by omega), resF_nil]; clear hf2 hf hdc hdn; simp_all; done))⟩, by omega, St.Le.of ⟨rfl, rfl, rfl, rfl, (by show some _ = some _; first | (simp only [List.map_append, List.append_assoc]; done) | (simp only [List.map_append, List.append_assoc]; rfl)), rfl, trivial⟩ rfl (by first | (simp only [List.map_append, List.append_assoc]; done) | (simp only [List.map_append, List.append_assoc]; rfl))⟩
                | exact ⟨i + 1, ss0, out, k, ⟨by first | omega | (simp; omega), by cases Nat.lt_or_ge i (runes s).length with | inl hlt => (first | (exfalso; omega) | (left; refine ⟨by omega, ?_⟩; rw [← hf2, hdc hlt, resF_cons]; clear hf2 hf hdc hdn; simp_all; done)) | inr hge => (first | (exfalso; omega) | (right; refine ⟨by omega, ?_⟩; rw [← hf2, hdn (by omega), resF_nil]; clear hf2 hf hdc hdn; simp_all; done))⟩, by omega, St.Le.of ⟨rfl, rfl, rfl, rfl, rfl, rfl, trivial⟩ rfl (rfl)⟩
                | exact ⟨i + 1, (s0 :: ss0), out, k, ⟨by first | omega | (simp; omega), by cases Nat.lt_or_ge i (runes s).length with | inl hlt => (first | (exfalso; omega) | (left; refine ⟨by omega, ?_⟩; rw [← hf2, hdc hlt, resF_cons]; clear hf2 hf hdc hdn; simp_all; done)) | inr hge => (first | (exfalso; omega) | (right; refine ⟨by omega, ?_⟩; rw [← hf2, hdn (by omega), resF_nil]; clear hf2 hf hdc hdn; simp_all; done))⟩, by omega, St.Le.of ⟨rfl, rfl, rfl, rfl, rfl, rfl, trivial⟩ rfl (rfl)⟩
                | exact ⟨i + 1, [], out, k, ⟨by first | omega | (simp; omega), by cases Nat.lt_or_ge i (runes s).length with | inl hlt => (first | (exfalso; omega) | (left; refine ⟨by omega, ?_⟩; rw [← hf2, hdc hlt, resF_cons]; clear hf2 hf hdc hdn; simp_all; done)) | inr hge => (first | (exfalso; omega) | (right; refine ⟨by omega, ?_⟩; rw [← hf2, hdn (by omega), resF_nil]; clear hf2 hf hdc hdn; simp_all; done))⟩, by omega, St.Le.of ⟨rfl, rfl, rfl, rfl, rfl, rfl, trivial⟩ rfl (rfl)⟩
            · try simp only [nmL] at hc9
              refine SCode.skip ?_
              show SCode _ _ _ _
              refine SCode.region ?_
              refine SOps.move rfl ?_
              refine SOps.addI rfl rfl (by first | omega | (simp only [lenB]; omega)) (by first | omega | (simp only [lenB]; omega)) ?_
              refine SOps.assign rfl ?_
              refine SOps.nil ?_
              first
                | (exfalso; simp only [List.getElem_cons_zero] at *; omega)
                | exact ⟨i + 1, ss0, out ++ runes r.«to» ++ [(runes s)[i]], ((fun _ : Nat => kB) kA), ⟨by first | omega | (simp; omega), by cases Nat.lt_or_ge i (runes s).length with | inl hlt => (first | (exfalso; omega) | (left; refine ⟨by omega, ?_⟩; rw [← hf2, hdc hlt, resF_cons]; clear hf2 hf hdc hdn; simp_all; done)) | inr hge => (first | (exfalso; omega) | (right; refine ⟨by omega, ?_⟩; rw [← hf2, hdn (by omega), resF_nil]; clear hf2 hf hdc hdn; simp_all; done))⟩, by omega, St.Le.of ⟨rfl, rfl, rfl, rfl, (by show some _ = some _; first | (simp only [List.map_append, List.append_assoc]; done) | (simp only [List.map_append, List.append_assoc]; rfl)), rfl, trivial⟩ rfl (by first | (simp only [List.map_append, List.append_assoc]; done) | (simp only [List.map_append, List.append_assoc]; rfl))⟩
                | exact ⟨i + 1, (s0 :: ss0), out ++ runes r.«to» ++ [(runes s)[i]], ((fun _ : Nat => kB) kA), ⟨by first | omega | (simp; omega), by cases Nat.lt_or_ge i (runes s).length with | inl hlt => (first | (exfalso; omega) | (left; refine ⟨by omega, ?_⟩; rw [← hf2, hdc hlt, resF_cons]; clear hf2 hf hdc hdn; simp_all; done)) | inr hge => (first | (exfalso; omega) | (right; refine ⟨by omega, ?_⟩; rw [← hf2, hdn (by omega), resF_nil]; clear hf2 hf hdc hdn; simp_all; done))⟩, by omega, St.Le.of ⟨rfl, rfl, rfl, rfl, (by show some _ = some _; first | (simp only [List.map_append, List.append_assoc]; done) | (simp only [List.map_append, List.append_assoc]; rfl)), rfl, trivial⟩ rfl (by first | (simp only [List.map_append, List.append_assoc]; done) | (simp only [List.map_append, List.append_assoc]; rfl))⟩
                | exact ⟨i + 1, [], out ++ runes r.«to» ++ [(runes s)[i]], ((fun _ : Nat => kB) kA), ⟨by first | omega | (simp; omega), by cases Nat.lt_or_ge i (runes s).length with | inl hlt => (first | (exfalso; omega) | (left; refine ⟨by omega, ?_⟩; rw [← hf2, hdc hlt, resF_cons]; clear hf2 hf hdc hdn; simp_all; done)) | inr hge => (first | (exfalso; omega) | (right; refine ⟨by omega, ?_⟩; rw [← hf2, hdn (by omega), resF_nil]; clear hf2 hf hdc hdn; simp_all; done))⟩, by omega, St.Le.of ⟨rfl, rfl, rfl, rfl, (by show some _ = some _; first | (simp only [List.map_append, List.append_assoc]; done) | (simp only [List.map_append, List.append_assoc]; rfl)), rfl, trivial⟩ rfl (by first | (simp only [List.map_append, List.append_assoc]; done) | (simp only [List.map_append, List.append_assoc]; rfl))⟩
                | exact ⟨i + 1, ss0, out ++ runes r.«to», kA, ⟨by first | omega | (simp; omega), by cases Nat.lt_or_ge i (runes s).length with | inl hlt => (first | (exfalso; omega) | (left; refine ⟨by omega, ?_⟩; rw [← hf2, hdc hlt, resF_cons]; clear hf2 hf hdc hdn; simp_all; done)) | inr hge => (first | (exfalso; omega) | (right; refine ⟨by omega, ?_⟩; rw [← hf2, hdn (by omega), resF_nil]; clear hf2 hf hdc hdn; simp_all; done))⟩, by omega, St.Le.of ⟨rfl, rfl, rfl, rfl, (by show some _ = some _; first | (simp only [List.map_append, List.append_assoc]; done) | (simp only [List.map_append, List.append_assoc]; rfl)), rfl, trivial⟩ rfl (by first | (simp only [List.map_append, List.append_assoc]; done) | (simp only [List.map_append, List.append_assoc]; rfl))⟩
                | exact ⟨i + 1, (s0 :: ss0), out ++ runes r.«to», kA, ⟨by first | omega | (simp; omega), by cases Nat.lt_or_ge i (runes s).length with | inl hlt => (first | (exfalso; omega) | (left; refine ⟨by omega, ?_⟩; rw [← hf2, hdc hlt, resF_cons]; clear hf2 hf hdc hdn; simp_all; done)) | inr hge => (first | (exfalso; omega) | (right; refine ⟨by omega, ?_⟩; rw [← hf2, hdn (by omega), resF_nil]; clear hf2 hf hdc hdn; simp_all; done))⟩, by omega, St.Le.of ⟨rfl, rfl, rfl, rfl, (by show some _ = some _; first | (simp only [List.map_append, List.append_assoc]; done) | (simp only [List.map_append, List.append_assoc]; rfl)), rfl, trivial⟩ rfl (by first | (simp only [List.map_append, List.append_assoc]; done) | (simp only [List.map_append, List.append_assoc]; rfl))⟩
                | exact ⟨i + 1, [], out ++ runes r.«to», kA, ⟨by first | omega | (simp; omega), by cases Nat.lt_or_ge i (runes s).length with | inl hlt => (first | (exfalso; omega) | (left; refine ⟨by omega, ?_⟩; rw [← hf2, hdc hlt, resF_cons]; clear hf2 hf hdc hdn; simp_all; done)) | inr hge => (first | (exfalso; omega) | (right; refine ⟨by omega, ?_⟩; rw [← hf2, hdn (by omega), resF_nil]; clear hf2 hf hdc hdn; simp_all; done))⟩, by omega, St.Le.of ⟨rfl, rfl, rfl, rfl, (by show some _ = some _; first | (simp only [List.map_append, List.append_assoc]; done) | (simp only [List.map_append, List.append_assoc]; rfl)), rfl, trivial⟩ rfl (by first | (simp only [List.map_append, List.append_assoc]; done) | (simp only [List.map_append, List.append_assoc]; rfl))⟩
                | exact ⟨i + 1, ss0, out ++ [(runes s)[i]], kB, ⟨by first | omega | (simp; omega), by cases Nat.lt_or_ge i (runes s).length with | inl hlt => (first | (exfalso; omega) | (left; refine ⟨by omega, ?_⟩; rw [← hf2, hdc hlt, resF_cons]; clear hf2 hf hdc hdn; simp_all; done)) | inr hge => (first | (exfalso; omega) | (right; refine ⟨by omega, ?_⟩; rw [← hf2, hdn (by omega), resF_nil]; clear hf2 hf hdc hdn; simp_all; done))⟩, by omega, St.Le.of ⟨rfl, rfl, rfl, rfl, (by show some _ = some _; first | (simp only [List.map_append, List.append_assoc]; done) | (simp only [List.map_append, List.append_assoc]; rfl)), rfl, trivial⟩ rfl (by first | (simp only [List.map_append, List.append_assoc]; done) | (simp only [List.map_append, List.append_assoc]; rfl))⟩
                | exact ⟨i + 1, (s0 :: ss0), out ++ [(runes s)[i]], kB, ⟨by first | omega | (simp; omega), by cases Nat.lt_or_ge i (runes s).length with | inl hlt => (first | (exfalso; omega) | (left; refine ⟨by omega, ?_⟩; rw [← hf2, hdc hlt, resF_cons]; clear hf2 hf hdc hdn; simp_all; done)) | inr hge => (first | (exfalso; omega) | (right; refine ⟨by omega, ?_⟩; rw [← hf2, hdn (by omega), resF_nil]; clear hf2 hf hdc hdn; simp_all; done))⟩, by omega, St.Le.of ⟨rfl, rfl, rfl, rfl, (by show some _ = some _; first | (simp only [List.map_append, List.append_assoc]; done) | (simp only [List.map_append, List.append_assoc]; rfl)), rfl, trivial⟩ rfl (by first | (simp only [List.map_append, List.append_assoc]; done) | (simp only [List.map_append, List.append_assoc]; rfl))⟩
                | exact ⟨i + 1, [], out ++ [(runes s)[i]], kB, ⟨by first | omega | (simp; omega), by cases Nat.lt_or_ge i (runes s).length with | inl hlt => (first | (exfalso; omega) | (left; refine ⟨by omega, ?_⟩; rw [← hf2, hdc hlt, resF_cons]; clear hf2 hf hdc hdn; simp_all; done)) | inr hge => (first | (exfalso; omega) | (right; refine ⟨by omega, ?_⟩; rw [← hf2, hdn (by omega), resF_nil]; clear hf2 hf hdc hdn; simp_all; done))⟩, by omega, St.Le.of ⟨rfl, rfl, rfl, rfl, (by show some _ = some _; first | (simp only [List.map_append, List.append_assoc]; done) | (simp only [List.map_append, List.append_assoc]; rfl)), rfl, trivial⟩ rfl (by first | (simp only [List.map_append, List.append_assoc]; done) | (simp only [List.map_append, List.append_assoc]; rfl))⟩
                | exact ⟨i + 1, ss0, out, k, ⟨by first | omega | (simp; omega), by cases Nat.lt_or_ge i (runes s).length with | inl hlt => (first | (exfalso; omega) | (left; refine ⟨by omega, ?_⟩; rw [← hf2, hdc hlt, resF_cons]; clear hf2 hf hdc hdn; simp_all; done)) | inr hge => (first | (exfalso; omega) | (right; refine ⟨by omega, ?_⟩; rw [← hf2, hdn (by omega), resF_nil]; clear hf2 hf hdc hdn; simp_all; done))⟩, by omega, St.Le.of ⟨rfl, rfl, rfl, rfl, rfl, rfl, trivial⟩ rfl (rfl)⟩
                | exact ⟨i + 1, (s0 :: ss0), out, k, ⟨by first | omega | (simp; omega), by cases Nat.lt_or_ge i (runes s).length with | inl hlt => (first | (exfalso; omega) | (left; refine ⟨by omega, ?_⟩; rw [← hf2, hdc hlt, resF_cons]; clear hf2 hf hdc hdn; simp_all; done)) | inr hge => (first | (exfalso; omega) | (right; refine ⟨by omega, ?_⟩; rw [← hf2, hdn (by omega), resF_nil]; clear hf2 hf hdc hdn; simp_all; done))⟩, by omega, St.Le.of ⟨rfl, rfl, rfl, rfl, rfl, rfl, trivial⟩ rfl (rfl)⟩
                | exact ⟨i + 1, [], out, k, ⟨by first | omega | (simp; omega), by cases Nat.lt_or_ge i (runes s).length with | inl hlt => (first | (exfalso; omega) | (left; refine ⟨by omega, ?_⟩; rw [← hf2, hdc hlt, resF_cons]; clear hf2 hf hdc hdn; simp_all; done)) | inr hge => (first | (exfalso; omega) | (right; refine ⟨by omega, ?_⟩; rw [← hf2, hdn (by omega), resF_nil]; clear hf2 hf hdc hdn; simp_all; done))⟩, by omega, St.Le.of ⟨rfl, rfl, rfl, rfl, rfl, rfl, trivial⟩ rfl (rfl)⟩
        · try simp only [nmL] at hb7
          refine SOps.skip rfl ?_
          refine SOps.skip rfl ?_
          refine SOps.skip rfl ?_
          refine SOps.skip rfl ?_
          refine SOps.skip rfl ?_
          refine SOps.skip rfl ?_
          refine SOps.skip rfl ?_
          refine SOps.pick rfl rfl ?_
          refine SOps.nil ?_
          refine SCode.cond rfl (fun h => by cases h) (fun _ => ?_)
          refine SCode.skip ?_
          show SCode _ _ _ _
          refine SCode.region ?_
          refine SOps.move rfl ?_
          refine SOps.addI rfl rfl (by first | omega | (simp only [lenB]; omega)) (by first | omega | (simp only [lenB]; omega)) ?_
          refine SOps.assign rfl ?_
          refine SOps.nil ?_
          first
            | (exfalso; simp only [List.getElem_cons_zero] at *; omega)
            | exact ⟨i + 1, ss0, out ++ runes r.«to» ++ [(runes s)[i]], ((fun _ : Nat => kB) kA), ⟨by first | omega | (simp; omega), by cases Nat.lt_or_ge i (runes s).length with | inl hlt => (first | (exfalso; omega) | (left; refine ⟨by omega, ?_⟩; rw [← hf2, hdc hlt, resF_cons]; clear hf2 hf hdc hdn; simp_all; done)) | inr hge => (first | (exfalso; omega) | (right; refine ⟨by omega, ?_⟩; rw [← hf2, hdn (by omega), resF_nil]; clear hf2 hf hdc hdn; simp_all; done))⟩, by omega, St.Le.of ⟨rfl, rfl, rfl, rfl, (by show some _ = some _; first | (simp only [List.map_append, List.append_assoc]; done) | (simp only [List.map_append, List.append_assoc]; rfl)), rfl, trivial⟩ rfl (by first | (simp only [List.map_append, List.append_assoc]; done) | (simp only [List.map_append, List.append_assoc]; rfl))⟩
            | exact ⟨i + 1, (s0 :: ss0), out ++ runes r.«to» ++ [(runes s)[i]], ((fun _ : Nat => kB) kA), ⟨by first | omega | (simp; omega), by cases Nat.lt_or_ge i (runes s).length with | inl hlt => (first | (exfalso; omega) | (left; refine ⟨by omega, ?_⟩; rw [← hf2, hdc hlt, resF_cons]; clear hf2 hf hdc hdn; simp_all; done)) | inr hge => (first | (exfalso; omega) | (right; refine ⟨by omega, ?_⟩; rw [← hf2, hdn (by omega), resF_nil]; clear hf2 hf hdc hdn; simp_all; done))⟩, by omega, St.Le.of ⟨rfl, rfl, rfl, rfl, (by show some _ = some _; first | (simp only [List.map_append, List.append_assoc]; done) | (simp only [List.map_append, List.append_assoc]; rfl)), rfl, trivial⟩ rfl (by first | (simp only [List.map_append, List.append_assoc]; done) | (simp only [List.map_append, List.append_assoc]; rfl))⟩
            | exact ⟨i + 1, [], out ++ runes r.«to» ++ [(runes s)[i]], ((fun _ : Nat => kB) kA), ⟨by first | omega | (simp; omega), by cases Nat.lt_or_ge i (runes s).length with | inl hlt => (first | (exfalso; omega) | (left; refine ⟨by omega, ?_⟩; rw [← hf2, hdc hlt, resF_cons]; clear hf2 hf hdc hdn; simp_all; done)) | inr hge => (first | (exfalso; omega) | (right; refine ⟨by omega, ?_⟩; rw [← hf2, hdn (by omega), resF_nil]; clear hf2 hf hdc hdn; simp_all; done))⟩, by omega, St.Le.of ⟨rfl, rfl, rfl, rfl, (by show some _ = some _; first | (simp only [List.map_append, List.append_assoc]; done) | (simp only [List.map_append, List.append_assoc]; rfl)), rfl, trivial⟩ rfl (by first | (simp only [List.map_append, List.append_assoc]; done) | (simp only [List.map_append, List.append_assoc]; rfl))⟩
            | exact ⟨i + 1, ss0, out ++ runes r.«to», kA, ⟨by first | omega | (simp; omega), by cases Nat.lt_or_ge i (runes s).length with | inl hlt => (first | (exfalso; omega) | (left; refine ⟨by omega, ?_⟩; rw [← hf2, hdc hlt, resF_cons]; clear hf2 hf hdc hdn; simp_all; done)) | inr hge => (first | (exfalso; omega) | (right; refine ⟨by omega, ?_⟩; rw [← hf2, hdn (by omega), resF_nil]; clear hf2 hf hdc hdn; simp_all; done))⟩, by omega, St.Le.of ⟨rfl, rfl, rfl, rfl, (by show some _ = some _; first | (simp only [List.map_append, List.append_assoc]; done) | (simp only [List.map_append, List.append_assoc]; rfl)), rfl, trivial⟩ rfl (by first | (simp only [List.map_append, List.append_assoc]; done) | (simp only [List.map_append, List.append_assoc]; rfl))⟩
            | exact ⟨i + 1, (s0 :: ss0), out ++ runes r.«to», kA, ⟨by first | omega | (simp; omega), by cases Nat.lt_or_ge i (runes s).length with | inl hlt => (first | (exfalso; omega) | (left; refine ⟨by omega, ?_⟩; rw [← hf2, hdc hlt, resF_cons]; clear hf2 hf hdc hdn; simp_all; done)) | inr hge => (first | (exfalso; omega) | (right; refine ⟨by omega, ?_⟩; rw [← hf2, hdn (by omega), resF_nil]; clear hf2 hf hdc hdn; simp_all; done))⟩, by omega, St.Le.of ⟨rfl, rfl, rfl, rfl, (by show some _ = some _; first | (simp only [List.map_append, List.append_assoc]; done) | (simp only [List.map_append, List.append_assoc]; rfl)), rfl, trivial⟩ rfl (by first | (simp only [List.map_append, List.append_assoc]; done) | (simp only [List.map_append, List.append_assoc]; rfl))⟩
            | exact ⟨i + 1, [], out ++ runes r.«to», kA, ⟨by first | omega | (simp; omega), by cases Nat.lt_or_ge i (runes s).length with | inl hlt => (first | (exfalso; omega) | (left; refine ⟨by omega, ?_⟩; rw [← hf2, hdc hlt, resF_cons]; clear hf2 hf hdc hdn; simp_all; done)) | inr hge => (first | (exfalso; omega) | (right; refine ⟨by omega, ?_⟩; rw [← hf2, hdn (by omega), resF_nil]; clear hf2 hf hdc hdn; simp_all; done))⟩, by omega, St.Le.of ⟨rfl, rfl, rfl, rfl, (by show some _ = some _; first | (simp only [List.map_append, List.append_assoc]; done) | (simp only [List.map_append, List.append_assoc]; rfl)), rfl, trivial⟩ rfl (by first | (simp only [List.map_append, List.append_assoc]; done) | (simp only [List.map_append, List.append_assoc]; rfl))⟩
            | exact ⟨i + 1, ss0, out ++ [(runes s)[i]], kB, ⟨by first | omega | (simp; omega), by cases Nat.lt_or_ge i (runes s).length with | inl hlt => (first | (exfalso; omega) | (left; refine ⟨by omega, ?_⟩; rw [← hf2, hdc hlt, resF_cons]; clear hf2 hf hdc hdn; simp_all; done)) | inr hge => (first | (exfalso; omega) | (right; refine ⟨by omega, ?_⟩; rw [← hf2, hdn (by omega), resF_nil]; clear hf2 hf hdc hdn; simp_all; done))⟩, by omega, St.Le.of ⟨rfl, rfl, rfl, rfl, (by show some _ = some _; first | (simp only [List.map_append, List.append_assoc]; done) | (simp only [List.map_append, List.append_assoc]; rfl)), rfl, trivial⟩ rfl (by first | (simp only [List.map_append, List.append_assoc]; done) | (simp only [List.map_append, List.append_assoc]; rfl))⟩
            | exact ⟨i + 1, (s0 :: ss0), out ++ [(runes s)[i]], kB, ⟨by first | omega | (simp; omega), by cases Nat.lt_or_ge i (runes s).length with | inl hlt => (first | (exfalso; omega) | (left; refine ⟨by omega, ?_⟩; rw [← hf2, hdc hlt, resF_cons]; clear hf2 hf hdc hdn; simp_all; done)) | inr hge => (first | (exfalso; omega) | (right; refine ⟨by omega, ?_⟩; rw [← hf2, hdn (by omega), resF_nil]; clear hf2 hf hdc hdn; simp_all; done))⟩, by omega, St.Le.of ⟨rfl, rfl, rfl, rfl, (by show some _ = some _; first | (simp only [List.map_append, List.append_assoc]; done) | (simp only [List.map_append, List.append_assoc]; rfl)), rfl, trivial⟩ rfl (by first | (simp only [List.map_append, List.append_assoc]; done) | (simp only [List.map_append, List.append_assoc]; rfl))⟩
            | exact ⟨i + 1, [], out ++ [(runes s)[i]], kB, ⟨by first | omega | (simp; omega), by cases Nat.lt_or_ge i (runes s).length with | inl hlt => (first | (exfalso; omega) | (left; refine ⟨by omega, ?_⟩; rw [← hf2, hdc hlt, resF_cons]; clear hf2 hf hdc hdn; simp_all; done)) | inr hge => (first | (exfalso; omega) | (right; refine ⟨by omega, ?_⟩; rw [← hf2, hdn (by omega), resF_nil]; clear hf2 hf hdc hdn; simp_all; done))⟩, by omega, St.Le.of ⟨rfl, rfl, rfl, rfl, (by show some _ = some _; first | (simp only [List.map_append, List.append_assoc]; done) | (simp only [List.map_append, List.append_assoc]; rfl)), rfl, trivial⟩ rfl (by first | (simp only [List.map_append, List.append_assoc]; done) | (simp only [List.map_append, List.append_assoc]; rfl))⟩
            | exact ⟨i + 1, ss0, out, k, ⟨by first | omega | (simp; omega), by cases Nat.lt_or_ge i (runes s).length with | inl hlt => (first | (exfalso; omega) | (left; refine ⟨by omega, ?_⟩; rw [← hf2, hdc hlt, resF_cons]; clear hf2 hf hdc hdn; simp_all; done)) | inr hge => (first | (exfalso; omega) | (right; refine ⟨by omega, ?_⟩; rw [← hf2, hdn (by omega), resF_nil]; clear hf2 hf hdc hdn; simp_all; done))⟩, by omega, St.Le.of ⟨rfl, rfl, rfl, rfl, rfl, rfl, trivial⟩ rfl (rfl)⟩
            | exact ⟨i + 1, (s0 :: ss0), out, k, ⟨by first | omega | (simp; omega), by cases Nat.lt_or_ge i (runes s).length with | inl hlt => (first | (exfalso; omega) | (left; refine ⟨by omega, ?_⟩; rw [← hf2, hdc hlt, resF_cons]; clear hf2 hf hdc hdn; simp_all; done)) | inr hge => (first | (exfalso; omega) | (right; refine ⟨by omega, ?_⟩; rw [← hf2, hdn (by omega), resF_nil]; clear hf2 hf hdc hdn; simp_all; done))⟩, by omega, St.Le.of ⟨rfl, rfl, rfl, rfl, rfl, rfl, trivial⟩ rfl (rfl)⟩
            | exact ⟨i + 1, [], out, k, ⟨by first | omega | (simp; omega), by cases Nat.lt_or_ge i (runes s).length with | inl hlt => (first | (exfalso; omega) | (left; refine ⟨by omega, ?_⟩; rw [← hf2, hdc hlt, resF_cons]; clear hf2 hf hdc hdn; simp_all; done)) | inr hge => (first | (exfalso; omega) | (right; refine ⟨by omega, ?_⟩; rw [← hf2, hdn (by omega), resF_nil]; clear hf2 hf hdc hdn; simp_all; done))⟩, by omega, St.Le.of ⟨rfl, rfl, rfl, rfl, rfl, rfl, trivial⟩ rfl (rfl)⟩
    · try simp only [nmL] at hb2
      obtain rfl : ss = [] := by cases ss with | nil => rfl | cons x y => (simp only [List.length_cons] at hb2; omega)
      have ss0 : List Nat := []
      refine SOps.skip rfl ?_
      refine SOps.skip rfl ?_
      refine SOps.skip rfl ?_
      refine SOps.skip rfl ?_
      refine SOps.skip rfl ?_
      refine SOps.pick rfl rfl ?_
      refine SOps.assign rfl ?_
      refine SOps.nil ?_
      refine SCode.seq ?_
      refine SCode.seqR ?_
      refine SOps.move rfl ?_
      refine SOps.nil ?_
      refine SCode.cond rfl (fun h => by cases h) (fun _ => ?_)
      refine SCode.skip ?_
      show SCode _ _ _ _
      refine SCode.seqR ?_
      refine SOps.move rfl ?_
      refine SOps.move rfl ?_
      refine SOps.lenM rfl sliceB_84_21_1 ?_
      refine SOps.bin rfl rfl rfl ?_
      refine SOps.move rfl ?_
      refine SOps.caseB 43 rfl (fun hb10 => ?_) (fun hb10 => ?_)
      · try simp only [nmL] at hb10
        refine SOps.move rfl ?_
        refine SOps.un rfl rfl ?_
        refine SOps.move rfl ?_
        refine SOps.skip rfl ?_
        refine SOps.skip rfl ?_
        refine SOps.skip rfl ?_
        refine SOps.pick rfl rfl ?_
        refine SOps.pick rfl rfl ?_
        refine SOps.nil ?_
        refine SCode.cond rfl (fun _ => ?_) (fun h => by cases h)
        refine SCode.region ?_
        refine SOps.move rfl ?_
        refine SOps.move rfl ?_
        refine SOps.move rfl ?_
        refine SOps.indexM (i) rfl rfl sliceB_84_21_1 (by first | omega | (simp only [lenB]; omega)) (by first | omega | (simp only [lenB]; omega)) ?_
        refine SOps.loadPin rfl flatB_21 ?_
        refine SOps.litF rfl sliceB_84_21_1 zeroIs_21 rfl ?_
        refine SOps.appendAcc [] [] sliceB_84_21_1 elemB_21_1_4 rfl rfl rfl SrcD.isl (by simp) (by simp [lenB]; omega) (by simp; omega) (fun kB => ?_)
        refine SOps.assign rfl ?_
        refine SOps.nil ?_
        show SCode _ _ _ _
        refine SCode.region ?_
        refine SOps.move rfl ?_
        refine SOps.addI rfl rfl (by first | omega | (simp only [lenB]; omega)) (by first | omega | (simp only [lenB]; omega)) ?_
        refine SOps.assign rfl ?_
        refine SOps.nil ?_
        first
          | (exfalso; simp only [List.getElem_cons_zero] at *; omega)
          | exact ⟨i + 1, ss0, out ++ runes r.«to» ++ [(runes s)[i]], ((fun _ : Nat => kB) kA), ⟨by first | omega | (simp; omega), by cases Nat.lt_or_ge i (runes s).length with | inl hlt => (first | (exfalso; omega) | (left; refine ⟨by omega, ?_⟩; rw [← hf2, hdc hlt, resF_cons]; clear hf2 hf hdc hdn; simp_all; done)) | inr hge => (first | (exfalso; omega) | (right; refine ⟨by omega, ?_⟩; rw [← hf2, hdn (by omega), resF_nil]; clear hf2 hf hdc hdn; simp_all; done))⟩, by omega, St.Le.of ⟨rfl, rfl, rfl, rfl, (by show some _ = some _; first | (simp only [List.map_append, List.append_assoc]; done) | (simp only [List.map_append, List.append_assoc]; rfl)), rfl, trivial⟩ rfl (by first | (simp only [List.map_append, List.append_assoc]; done) | (simp only [List.map_append, List.append_assoc]; rfl))⟩
          | exact ⟨i + 1, (s0 :: ss0), out ++ runes r.«to» ++ [(runes s)[i]], ((fun _ : Nat => kB) kA), ⟨by first | omega | (simp; omega), by cases Nat.lt_or_ge i (runes s).length with | inl hlt => (first | (exfalso; omega) | (left; refine ⟨by omega, ?_⟩; rw [← hf2, hdc hlt, resF_cons]; clear hf2 hf hdc hdn; simp_all; done)) | inr hge => (first | (exfalso; omega) | (right; refine ⟨by omega, ?_⟩; rw [← hf2, hdn (by omega), resF_nil]; clear hf2 hf hdc hdn; simp_all; done))⟩, by omega, St.Le.of ⟨rfl, rfl, rfl, rfl, (by show some _ = some _; first | (simp only [List.map_append, List.append_assoc]; done) | (simp only [List.map_append, List.append_assoc]; rfl)), rfl, trivial⟩ rfl (by first | (simp only [List.map_append, List.append_assoc]; done) | (simp only [List.map_append, List.append_assoc]; rfl))⟩
          | exact ⟨i + 1, [], out ++ runes r.«to» ++ [(runes s)[i]], ((fun _ : Nat => kB) kA), ⟨by first | omega | (simp; omega), by cases Nat.lt_or_ge i (runes s).length with | inl hlt => (first | (exfalso; omega) | (left; refine ⟨by omega, ?_⟩; rw [← hf2, hdc hlt, resF_cons]; clear hf2 hf hdc hdn; simp_all; done)) | inr hge => (first | (exfalso; omega) | (right; refine ⟨by omega, ?_⟩; rw [← hf2, hdn (by omega), resF_nil]; clear hf2 hf hdc hdn; simp_all; done))⟩, by omega, St.Le.of ⟨rfl, rfl, rfl, rfl, (by show some _ = some _; first | (simp only [List.map_append, List.append_assoc]; done) | (simp only [List.map_append, List.append_assoc]; rfl)), rfl, trivial⟩ rfl (by first | (simp only [List.map_append, List.append_assoc]; done) | (simp only [List.map_append, List.append_assoc]; rfl))⟩
          | exact ⟨i + 1, ss0, out ++ runes r.«to», kA, ⟨by first | omega | (simp; omega), by cases Nat.lt_or_ge i (runes s).length with | inl hlt => (first | (exfalso; omega) | (left; refine ⟨by omega, ?_⟩; rw [← hf2, hdc hlt, resF_cons]; clear hf2 hf hdc hdn; simp_all; done)) | inr hge => (first | (exfalso; omega) | (right; refine ⟨by omega, ?_⟩; rw [← hf2, hdn (by omega), resF_nil]; clear hf2 hf hdc hdn; simp_all; done))⟩, by omega, St.Le.of ⟨rfl, rfl, rfl, rfl, (by show some _ = some _; first | (simp only [List.map_append, List.append_assoc]; done) | (simp only [List.map_append, List.append_assoc]; rfl)), rfl, trivial⟩ rfl (by first | (simp only [List.map_append, List.append_assoc]; done) | (simp only [List.map_append, List.append_assoc]; rfl))⟩
          | exact ⟨i + 1, (s0 :: ss0), out ++ runes r.«to», kA, ⟨by first | omega | (simp; omega), by cases Nat.lt_or_ge i (runes s).length with | inl hlt => (first | (exfalso; omega) | (left; refine ⟨by omega, ?_⟩; rw [← hf2, hdc hlt, resF_cons]; clear hf2 hf hdc hdn; simp_all; done)) | inr hge => (first | (exfalso; omega) | (right; refine ⟨by omega, ?_⟩; rw [← hf2, hdn (by omega), resF_nil]; clear hf2 hf hdc hdn; simp_all; done))⟩, by omega, St.Le.of ⟨rfl, rfl, rfl, rfl, (by show some _ = some _; first | (simp only [List.map_append, List.append_assoc]; done) | (simp only [List.map_append, List.append_assoc]; rfl)), rfl, trivial⟩ rfl (by first | (simp only [List.map_append, List.append_assoc]; done) | (simp only [List.map_append, List.append_assoc]; rfl))⟩
          | exact ⟨i + 1, [], out ++ runes r.«to», kA, ⟨by first | omega | (simp; omega), by cases Nat.lt_or_ge i (runes s).length with | inl hlt => (first | (exfalso; omega) | (left; refine ⟨by omega, ?_⟩; rw [← hf2, hdc hlt, resF_cons]; clear hf2 hf hdc hdn; simp_all; done)) | inr hge => (first | (exfalso; omega) | (right; refine ⟨by omega, ?_⟩; rw [← hf2, hdn (by omega), resF_nil]; clear hf2 hf hdc hdn; simp_all; done))⟩, by omega, St.Le.of ⟨rfl, rfl, rfl, rfl, (by show some _ = some _; first | (simp only [List.map_append, List.append_assoc]; done) | (simp only [List.map_append, List.append_assoc]; rfl)), rfl, trivial⟩ rfl (by first | (simp only [List.map_append, List.append_assoc]; done) | (simp only [List.map_append, List.append_assoc]; rfl))⟩
          | exact ⟨i + 1, ss0, out ++ [(runes s)[i]], kB, ⟨by first | omega | (simp; omega), by cases Nat.lt_or_ge i (runes s).length with | inl hlt => (first | (exfalso; omega) | (left; refine ⟨by omega, ?_⟩; rw [← hf2, hdc hlt, resF_cons]; clear hf2 hf hdc hdn; simp_all; done)) | inr hge => (first | (exfalso; omega) | (right; refine ⟨by omega, ?_⟩; rw [← hf2, hdn (by omega), resF_nil]; clear hf2 hf hdc hdn; simp_all; done))⟩, by omega, St.Le.of ⟨rfl, rfl, rfl, rfl, (by show some _ = some _; first | (simp only [List.map_append, List.append_assoc]; done) | (simp only [List.map_append, List.append_assoc]; rfl)), rfl, trivial⟩ rfl (by first | (simp only [List.map_append, List.append_assoc]; done) | (simp only [List.map_append, List.append_assoc]; rfl))⟩
          | exact ⟨i + 1, (s0 :: ss0), out ++ [(runes s)[i]], kB, ⟨by first | omega | (simp; omega), by cases Nat.lt_or_ge i (runes s).length with | inl hlt => (first | (exfalso; omega) | (left; refine ⟨by omega, ?_⟩; rw [← hf2, hdc hlt, resF_cons]; clear hf2 hf hdc hdn; simp_all; done)) | inr hge => (first | (exfalso; omega) | (right; refine ⟨by omega, ?_⟩; rw [← hf2, hdn (by omega), resF_nil]; clear hf2 hf hdc hdn; simp_all; done))⟩, by omega, St.Le.of ⟨rfl, rfl, rfl, rfl, (by show some _ = some _; first | (simp only [List.map_append, List.append_assoc]; done) | (simp only [List.map_append, List.append_assoc]; rfl)), rfl, trivial⟩ rfl (by first | (simp only [List.map_append, List.append_assoc]; done) | (simp only [List.map_append, List.append_assoc]; rfl))⟩
          | exact ⟨i + 1, [], out ++ [(runes s)[i]], kB, ⟨by first | omega | (simp; omega), by cases Nat.lt_or_ge i (runes s).length with | inl hlt => (first | (exfalso; omega) | (left; refine ⟨by omega, ?_⟩; rw [← hf2, hdc hlt, resF_cons]; clear hf2 hf hdc hdn; simp_all; done)) | inr hge => (first | (exfalso; omega) | (right; refine ⟨by omega, ?_⟩; rw [← hf2, hdn (by omega), resF_nil]; clear hf2 hf hdc hdn; simp_all; done))⟩, by omega, St.Le.of ⟨rfl, rfl, rfl, rfl, (by show some _ = some _; first | (simp only [List.map_append, List.append_assoc]; done) | (simp only [List.map_append, List.append_assoc]; rfl)), rfl, trivial⟩ rfl (by first | (simp only [List.map_append, List.append_assoc]; done) | (simp only [List.map_append, List.append_assoc]; rfl))⟩
          | exact ⟨i + 1, ss0, out, k, ⟨by first | omega | (simp; omega), by cases Nat.lt_or_ge i (runes s).length with | inl hlt => (first | (exfalso; omega) | (left; refine ⟨by omega, ?_⟩; rw [← hf2, hdc hlt, resF_cons]; clear hf2 hf hdc hdn; simp_all; done)) | inr hge => (first | (exfalso; omega) | (right; refine ⟨by omega, ?_⟩; rw [← hf2, hdn (by omega), resF_nil]; clear hf2 hf hdc hdn; simp_all; done))⟩, by omega, St.Le.of ⟨rfl, rfl, rfl, rfl, rfl, rfl, trivial⟩ rfl (rfl)⟩
          | exact ⟨i + 1, (s0 :: ss0), out, k, ⟨by first | omega | (simp; omega), by cases Nat.lt_or_ge i (runes s).length with | inl hlt => (first | (exfalso; omega) | (left; refine ⟨by omega, ?_⟩; rw [← hf2, hdc hlt, resF_cons]; clear hf2 hf hdc hdn; simp_all; done)) | inr hge => (first | (exfalso; omega) | (right; refine ⟨by omega, ?_⟩; rw [← hf2, hdn (by omega), resF_nil]; clear hf2 hf hdc hdn; simp_all; done))⟩, by omega, St.Le.of ⟨rfl, rfl, rfl, rfl, rfl, rfl, trivial⟩ rfl (rfl)⟩
          | exact ⟨i + 1, [], out, k, ⟨by first | omega | (simp; omega), by cases Nat.lt_or_ge i (runes s).length with | inl hlt => (first | (exfalso; omega) | (left; refine ⟨by omega, ?_⟩; rw [← hf2, hdc hlt, resF_cons]; clear hf2 hf hdc hdn; simp_all; done)) | inr hge => (first | (exfalso; omega) | (right; refine ⟨by omega, ?_⟩; rw [← hf2, hdn (by omega), resF_nil]; clear hf2 hf hdc hdn; simp_all; done))⟩, by omega, St.Le.of ⟨rfl, rfl, rfl, rfl, rfl, rfl, trivial⟩ rfl (rfl)⟩
      · try simp only [nmL] at hb10
        refine SOps.skip rfl ?_
        refine SOps.skip rfl ?_
        refine SOps.skip rfl ?_
        refine SOps.skip rfl ?_
        refine SOps.skip rfl ?_
        refine SOps.skip rfl ?_
        refine SOps.skip rfl ?_
        refine SOps.pick rfl rfl ?_
        refine SOps.nil ?_
        refine SCode.cond rfl (fun h => by cases h) (fun _ => ?_)
        refine SCode.skip ?_
        show SCode _ _ _ _
        refine SCode.region ?_
        refine SOps.move rfl ?_
        refine SOps.addI rfl rfl (by first | omega | (simp only [lenB]; omega)) (by first | omega | (simp only [lenB]; omega)) ?_
        refine SOps.assign rfl ?_
        refine SOps.nil ?_
        first
          | (exfalso; simp only [List.getElem_cons_zero] at *; omega)
          | exact ⟨i + 1, ss0, out ++ runes r.«to» ++ [(runes s)[i]], ((fun _ : Nat => kB) kA), ⟨by first | omega | (simp; omega), by cases Nat.lt_or_ge i (runes s).length with | inl hlt => (first | (exfalso; omega) | (left; refine ⟨by omega, ?_⟩; rw [← hf2, hdc hlt, resF_cons]; clear hf2 hf hdc hdn; simp_all; done)) | inr hge => (first | (exfalso; omega) | (right; refine ⟨by omega, ?_⟩; rw [← hf2, hdn (by omega), resF_nil]; clear hf2 hf hdc hdn; simp_all; done))⟩, by omega, St.Le.of ⟨rfl, rfl, rfl, rfl, (by show some _ = some _; first | (simp only [List.map_append, List.append_assoc]; done) | (simp only [List.map_append, List.append_assoc]; rfl)), rfl, trivial⟩ rfl (by first | (simp only [List.map_append, List.append_assoc]; done) | (simp only [List.map_append, List.append_assoc]; rfl))⟩
          | exact ⟨i + 1, (s0 :: ss0), out ++ runes r.«to» ++ [(runes s)[i]], ((fun _ : Nat => kB) kA), ⟨by first | omega | (simp; omega), by cases Nat.lt_or_ge i (runes s).length with | inl hlt => (first | (exfalso; omega) | (left; refine ⟨by omega, ?_⟩; rw [← hf2, hdc hlt, resF_cons]; clear hf2 hf hdc hdn; simp_all; done)) | inr hge => (first | (exfalso; omega) | (right; refine ⟨by omega, ?_⟩; rw [← hf2, hdn (by omega), resF_nil]; clear hf2 hf hdc hdn; simp_all; done))⟩, by omega, St.Le.of ⟨rfl, rfl, rfl, rfl, (by show some _ = some _; first | (simp only [List.map_append, List.append_assoc]; done) | (simp only [List.map_append, List.append_assoc]; rfl)), rfl, trivial⟩ rfl (by first | (simp only [List.map_append, List.append_assoc]; done) | (simp only [List.map_append, List.append_assoc]; rfl))⟩
          | exact ⟨i + 1, [], out ++ runes r.«to» ++ [(runes s)[i]], ((fun _ : Nat => kB) kA), ⟨by first | omega | (simp; omega), by cases Nat.lt_or_ge i (runes s).length with | inl hlt => (first | (exfalso; omega) | (left; refine ⟨by omega, ?_⟩; rw [← hf2, hdc hlt, resF_cons]; clear hf2 hf hdc hdn; simp_all; done)) | inr hge => (first | (exfalso; omega) | (right; refine ⟨by omega, ?_⟩; rw [← hf2, hdn (by omega), resF_nil]; clear hf2 hf hdc hdn; simp_all; done))⟩, by omega, St.Le.of ⟨rfl, rfl, rfl, rfl, (by show some _ = some _; first | (simp only [List.map_append, List.append_assoc]; done) | (simp only [List.map_append, List.append_assoc]; rfl)), rfl, trivial⟩ rfl (by first | (simp only [List.map_append, List.append_assoc]; done) | (simp only [List.map_append, List.append_assoc]; rfl))⟩
          | exact ⟨i + 1, ss0, out ++ runes r.«to», kA, ⟨by first | omega | (simp; omega), by cases Nat.lt_or_ge i (runes s).length with | inl hlt => (first | (exfalso; omega) | (left; refine ⟨by omega, ?_⟩; rw [← hf2, hdc hlt, resF_cons]; clear hf2 hf hdc hdn; simp_all; done)) | inr hge => (first | (exfalso; omega) | (right; refine ⟨by omega, ?_⟩; rw [← hf2, hdn (by omega), resF_nil]; clear hf2 hf hdc hdn; simp_all; done))⟩, by omega, St.Le.of ⟨rfl, rfl, rfl, rfl, (by show some _ = some _; first | (simp only [List.map_append, List.append_assoc]; done) | (simp only [List.map_append, List.append_assoc]; rfl)), rfl, trivial⟩ rfl (by first | (simp only [List.map_append, List.append_assoc]; done) | (simp only [List.map_append, List.append_assoc]; rfl))⟩
          | exact ⟨i + 1, (s0 :: ss0), out ++ runes r.«to», kA, ⟨by first | omega | (simp; omega), by cases Nat.lt_or_ge i (runes s).length with | inl hlt => (first | (exfalso; omega) | (left; refine ⟨by omega, ?_⟩; rw [← hf2, hdc hlt, resF_cons]; clear hf2 hf hdc hdn; simp_all; done)) | inr hge => (first | (exfalso; omega) | (right; refine ⟨by omega, ?_⟩; rw [← hf2, hdn (by omega), resF_nil]; clear hf2 hf hdc hdn; simp_all; done))⟩, by omega, St.Le.of ⟨rfl, rfl, rfl, rfl, (by show some _ = some _; first | (simp only [List.map_append, List.append_assoc]; done) | (simp only [List.map_append, List.append_assoc]; rfl)), rfl, trivial⟩ rfl (by first | (simp only [List.map_append, List.append_assoc]; done) | (simp only [List.map_append, List.append_assoc]; rfl))⟩
          | exact ⟨i + 1, [], out ++ runes r.«to», kA, ⟨by first | omega | (simp; omega), by cases Nat.lt_or_ge i (runes s).length with | inl hlt => (first | (exfalso; omega) | (left; refine ⟨by omega, ?_⟩; rw [← hf2, hdc hlt, resF_cons]; clear hf2 hf hdc hdn; simp_all; done)) | inr hge => (first | (exfalso; omega) | (right; refine ⟨by omega, ?_⟩; rw [← hf2, hdn (by omega), resF_nil]; clear hf2 hf hdc hdn; simp_all; done))⟩, by omega, St.Le.of ⟨rfl, rfl, rfl, rfl, (by show some _ = some _; first | (simp only [List.map_append, List.append_assoc]; done) | (simp only [List.map_append, List.append_assoc]; rfl)), rfl, trivial⟩ rfl (by first | (simp only [List.map_append, List.append_assoc]; done) | (simp only [List.map_append, List.append_assoc]; rfl))⟩
          | exact ⟨i + 1, ss0, out ++ [(runes s)[i]], kB, ⟨by first | omega | (simp; omega), by cases Nat.lt_or_ge i (runes s).length with | inl hlt => (first | (exfalso; omega) | (left; refine ⟨by omega, ?_⟩; rw [← hf2, hdc hlt, resF_cons]; clear hf2 hf hdc hdn; simp_all; done)) | inr hge => (first | (exfalso; omega) | (right; refine ⟨by omega, ?_⟩; rw [← hf2, hdn (by omega), resF_nil]; clear hf2 hf hdc hdn; simp_all; done))⟩, by omega, St.Le.of ⟨rfl, rfl, rfl, rfl, (by show some _ = some _; first | (simp only [List.map_append, List.append_assoc]; done) | (simp only [List.map_append, List.append_assoc]; rfl)), rfl, trivial⟩ rfl (by first | (simp only [List.map_append, List.append_assoc]; done) | (simp only [List.map_append, List.append_assoc]; rfl))⟩
          | exact ⟨i + 1, (s0 :: ss0), out ++ [(runes s)[i]], kB, ⟨by first | omega | (simp; omega), by cases Nat.lt_or_ge i (runes s).length with | inl hlt => (first | (exfalso; omega) | (left; refine ⟨by omega, ?_⟩; rw [← hf2, hdc hlt, resF_cons]; clear hf2 hf hdc hdn; simp_all; done)) | inr hge => (first | (exfalso; omega) | (right; refine ⟨by omega, ?_⟩; rw [← hf2, hdn (by omega), resF_nil]; clear hf2 hf hdc hdn; simp_all; done))⟩, by omega, St.Le.of ⟨rfl, rfl, rfl, rfl, (by show some _ = some _; first | (simp only [List.map_append, List.append_assoc]; done) | (simp only [List.map_append, List.append_assoc]; rfl)), rfl, trivial⟩ rfl (by first | (simp only [List.map_append, List.append_assoc]; done) | (simp only [List.map_append, List.append_assoc]; rfl))⟩
          | exact ⟨i + 1, [], out ++ [(runes s)[i]], kB, ⟨by first | omega | (simp; omega), by cases Nat.lt_or_ge i (runes s).length with | inl hlt => (first | (exfalso; omega) | (left; refine ⟨by omega, ?_⟩; rw [← hf2, hdc hlt, resF_cons]; clear hf2 hf hdc hdn; simp_all; done)) | inr hge => (first | (exfalso; omega) | (right; refine ⟨by omega, ?_⟩; rw [← hf2, hdn (by omega), resF_nil]; clear hf2 hf hdc hdn; simp_all; done))⟩, by omega, St.Le.of ⟨rfl, rfl, rfl, rfl, (by show some _ = some _; first | (simp only [List.map_append, List.append_assoc]; done) | (simp only [List.map_append, List.append_assoc]; rfl)), rfl, trivial⟩ rfl (by first | (simp only [List.map_append, List.append_assoc]; done) | (simp only [List.map_append, List.append_assoc]; rfl))⟩
          | exact ⟨i + 1, ss0, out, k, ⟨by first | omega | (simp; omega), by cases Nat.lt_or_ge i (runes s).length with | inl hlt => (first | (exfalso; omega) | (left; refine ⟨by omega, ?_⟩; rw [← hf2, hdc hlt, resF_cons]; clear hf2 hf hdc hdn; simp_all; done)) | inr hge => (first | (exfalso; omega) | (right; refine ⟨by omega, ?_⟩; rw [← hf2, hdn (by omega), resF_nil]; clear hf2 hf hdc hdn; simp_all; done))⟩, by omega, St.Le.of ⟨rfl, rfl, rfl, rfl, rfl, rfl, trivial⟩ rfl (rfl)⟩
          | exact ⟨i + 1, (s0 :: ss0), out, k, ⟨by first | omega | (simp; omega), by cases Nat.lt_or_ge i (runes s).length with | inl hlt => (first | (exfalso; omega) | (left; refine ⟨by omega, ?_⟩; rw [← hf2, hdc hlt, resF_cons]; clear hf2 hf hdc hdn; simp_all; done)) | inr hge => (first | (exfalso; omega) | (right; refine ⟨by omega, ?_⟩; rw [← hf2, hdn (by omega), resF_nil]; clear hf2 hf hdc hdn; simp_all; done))⟩, by omega, St.Le.of ⟨rfl, rfl, rfl, rfl, rfl, rfl, trivial⟩ rfl (rfl)⟩
          | exact ⟨i + 1, [], out, k, ⟨by first | omega | (simp; omega), by cases Nat.lt_or_ge i (runes s).length with | inl hlt => (first | (exfalso; omega) | (left; refine ⟨by omega, ?_⟩; rw [← hf2, hdc hlt, resF_cons]; clear hf2 hf hdc hdn; simp_all; done)) | inr hge => (first | (exfalso; omega) | (right; refine ⟨by omega, ?_⟩; rw [← hf2, hdn (by omega), resF_nil]; clear hf2 hf hdc hdn; simp_all; done))⟩, by omega, St.Le.of ⟨rfl, rfl, rfl, rfl, rfl, rfl, trivial⟩ rfl (rfl)⟩
  · try simp only [nmL] at hc1
    refine SCode.exit ?_
    show SCode _ _ _ _
    refine SCode.seqR ?_
    obtain ⟨_, rfl⟩ := hf.resolve_left (by omega)
    refine SOps.freezeAcc (t := 9) [] [] rfl rfl rfl ?_
    refine SOps.move rfl ?_
    refine SOps.convRunesStr rfl sliceB_84_21_1 intB_21_i32 strB_9 (by simp [lenB] <;> (first | omega | (simp only [lenB]; omega))) ?_
    refine SOps.assign rfl ?_
    refine SOps.nil ?_
    refine SCode.ret ?_
    exact ⟨_, Res.one (.tmp rfl), rfl, rfl⟩
end Go.GH
namespace Go.Proofs
open Go.Shelf
def Tryd.laysValid_ren : Go.Shelf.Ren := ⟨fun | 196 => 79 | 259 => 90 | n => n, fun | 9 => 9 | 4 => 4 | 3 => 3 | 5 => 5 | 12 => 12 | 119 => 122 | 0 => 0 | 46 => 126 | 139 => 125 | 138 => 124 | 53 => 130 | n => n, fun | 3 => 1 | 4 => 2 | n => n⟩
theorem Tryd.laysValid : Go.Proofs.Lays.n196 Tryd.prog Tryd.laysValid_ren := {
  mixed := by kernel_rfl
  f196 := Tryd.func79.trans (congrArg some (by kernel_rfl))
  f259 := Tryd.func90.trans (congrArg some (by kernel_rfl))
  t0 := Tryd.underlying0
  a0 := Tryd.isAgg0
  z0 := Tryd.sizeOf0
  v0 := Tryd.zeroValue0
  t3 := Tryd.underlying3
  a3 := Tryd.isAgg3
  z3 := Tryd.sizeOf3
  v3 := Tryd.zeroValue3
  t4 := Tryd.underlying4
  a4 := Tryd.isAgg4
  z4 := Tryd.sizeOf4
  v4 := Tryd.zeroValue4
  t5 := Tryd.underlying5
  a5 := Tryd.isAgg5
  z5 := Tryd.sizeOf5
  v5 := Tryd.zeroValue5
  t9 := Tryd.underlying9
  a9 := Tryd.isAgg9
  z9 := Tryd.sizeOf9
  v9 := Tryd.zeroValue9
  t12 := Tryd.underlying12
  a12 := Tryd.isAgg12
  z12 := Tryd.sizeOf12
  v12 := Tryd.zeroValue12
  t46 := Tryd.underlying126
  a46 := Tryd.isAgg126
  z46 := Tryd.sizeOf126
  v46 := Tryd.zeroValue126
  t53 := Tryd.underlying130
  a53 := Tryd.isAgg130
  z53 := Tryd.sizeOf130
  v53 := Tryd.zeroValue130
  t119 := Tryd.underlying122
  a119 := Tryd.isAgg122
  z119 := Tryd.sizeOf122
  t138 := Tryd.underlying124
  a138 := Tryd.isAgg124
  z138 := Tryd.sizeOf124
  v138 := Tryd.zeroValue124
  t139 := Tryd.underlying125
  a139 := Tryd.isAgg125
  z139 := Tryd.sizeOf125
  v139 := Tryd.zeroValue125
  g3 := by kernel_rfl
  g4 := by kernel_rfl }
def Tryd.laysByte_ren : Go.Shelf.Ren := ⟨fun | 137 => 33 | 217 => 58 | 266 => 78 | n => n, fun | 9 => 9 | 5 => 5 | 3 => 3 | n => n, fun | n => n⟩
theorem Tryd.laysByte : Go.Proofs.Lays.n137 Tryd.prog Tryd.laysByte_ren := {
  mixed := by kernel_rfl
  f137 := Tryd.func33.trans (congrArg some (by kernel_rfl))
  f217 := Tryd.func58.trans (congrArg some (by kernel_rfl))
  f266 := Tryd.func78.trans (congrArg some (by kernel_rfl))
  t3 := Tryd.underlying3
  a3 := Tryd.isAgg3
  z3 := Tryd.sizeOf3
  v3 := Tryd.zeroValue3
  t5 := Tryd.underlying5
  a5 := Tryd.isAgg5
  z5 := Tryd.sizeOf5
  v5 := Tryd.zeroValue5
  t9 := Tryd.underlying9
  a9 := Tryd.isAgg9
  z9 := Tryd.sizeOf9
  v9 := Tryd.zeroValue9 }
end Go.Proofs
namespace Go.GH
open Go Go.RowKit

inductive DTy where
  | int (k : IntKind)
  | str
  | bool
  | sl (L : List DTy)
/-- The cells of a value of type t. -/
inductive TyIs (P : Program) : TypeId → List DTy → Prop
  | int {t : TypeId} {k : IntKind} (h : P.underlying t = some (.int k)) : TyIs P t [.int k]
  | str {t : TypeId} (h : P.underlying t = some .string) : TyIs P t [.str]
  | bool {t : TypeId} (h : P.underlying t = some .bool) : TyIs P t [.bool]
  | sl {t e : TypeId} {L : List DTy} (h : P.underlying t = some (.slice e)) (he : TyIs P e L) (hc : P.cellsOf e = L.length) (hne : L ≠ []) : TyIs P t [.sl L]
  | struct {t : TypeId} {fs : Array Field} (Ls : List (List DTy)) (h : P.underlying t = some (.struct fs)) (hc : P.cellsOf t = Ls.flatten.length) (hl : Ls.length = fs.size)
      (hf : ∀ (i : Nat) f Li, fs[i]? = some f → Ls[i]? = some Li → TyIs P f.type Li) (ho : ∀ (i : Nat) f Li, fs[i]? = some f → Ls[i]? = some Li → f.offset = (Ls.take i).flatten.length ∧ P.cellsOf f.type = Li.length) : TyIs P t Ls.flatten
inductive HasD : DTy → DV → Prop
  | int {k : IntKind} {n : Int} (h : k.has n) : HasD (.int k) (.v (.int k n))
  | str {s : ByteArray} (h : s.size ≤ lenB) : HasD .str (.v (.string s))
  | bool {b : Bool} : HasD .bool (.v (.bool b))
  | sl {L : List DTy} {es : List (List DV)} (hl : ∀ (i : Nat) e, es[i]? = some e → e.length = L.length) (hd : ∀ (i : Nat) e (j : Nat) d ty, es[i]? = some e → e[j]? = some d → L[j]? = some ty → HasD ty d) : HasD (.sl L) (.isl false L.length es)

def AllF (w : World) : Nat → Prop := fun b => b < w.heap.size
def Cells (w : World) (cs : List Value) (L : List DTy) (ds : List DV) : Prop :=
  cs.length = L.length ∧ ds.length = L.length ∧ ∀ (j : Nat) v d ty, cs[j]? = some v → ds[j]? = some d → L[j]? = some ty → Rep w (AllF w) v d ∧ HasD ty d ∧ v.oneCell' = true
theorem cell?_lt {w : World} {a : Addr} {v : Value} (h : w.cell? a = some v) : a.block < w.heap.size ∧ a.spot = none := by
  unfold World.cell? at h
  split at h
  · rename_i c _ _ hb
    refine ⟨(Array.getElem?_eq_some_iff.1 hb).1, ?_⟩
    split at h
    · cases h
    · rename_i hs; simpa using hs
  · cases h
theorem lit_int_wf {k : IntKind} {n : Int} (h : (Lit.int k n).wf = true) : k.has n := by
  simp [Lit.wf, IntKind.has] at h ⊢
  exact h

def PW (w : World) (cs : List Value) (L : List DTy) : Prop :=
  cs.length = L.length ∧ ∀ (j : Nat) v ty, cs[j]? = some v → L[j]? = some ty → ∃ d, Rep w (AllF w) v d ∧ HasD ty d ∧ v.oneCell' = true
theorem PW.cells {w : World} {cs : List Value} {L : List DTy} (h : PW w cs L) : ∃ ds, Cells w cs L ds := by
  have key : ∀ j, ∃ d, ∀ v ty, cs[j]? = some v → L[j]? = some ty → Rep w (AllF w) v d ∧ HasD ty d ∧ v.oneCell' = true := fun j => by
    by_cases hj : j < L.length
    · obtain ⟨d, hd⟩ := h.2 j _ _ (List.getElem?_eq_getElem (show j < cs.length by rw [h.1]; exact hj)) (List.getElem?_eq_getElem hj)
      refine ⟨d, fun v ty hv ht => ?_⟩
      rw [List.getElem?_eq_getElem (show j < cs.length by rw [h.1]; exact hj)] at hv
      rw [List.getElem?_eq_getElem hj] at ht
      obtain rfl := Option.some.inj hv
      obtain rfl := Option.some.inj ht
      exact hd
    · exact ⟨.any, fun v ty _ ht => absurd (List.getElem?_eq_some_iff.1 ht).1 hj⟩
  refine ⟨(List.range L.length).map (fun j => (key j).choose), h.1, by simp, fun j v d ty hv hd ht => ?_⟩
  rw [List.getElem?_map] at hd
  obtain ⟨q, hq, rfl⟩ := Option.map_eq_some_iff.1 hd
  have hlt : j < L.length := (List.getElem?_eq_some_iff.1 ht).1
  rw [List.getElem?_range hlt] at hq
  obtain rfl := Option.some.inj hq
  exact (key j).choose_spec v ty hv ht
theorem PW.one {w : World} {v : Value} {ty : DTy} {d : DV} (h1 : Rep w (AllF w) v d) (h2 : HasD ty d) (h3 : v.oneCell' = true) : PW w [v] [ty] :=
  ⟨rfl, fun j u t hv ht => by
    match j, hv, ht with
    | 0, hv, ht => simp at hv ht; subst hv; subst ht; exact ⟨d, h1, h2, h3⟩
    | j + 1, hv, ht => simp at hv⟩
theorem flatten_find {α : Type} : ∀ (Ls : List (List α)) (j : Nat) (x : α), Ls.flatten[j]? = some x → ∃ (i : Nat) (Li : List α) (q : Nat), Ls[i]? = some Li ∧ Li[q]? = some x ∧ j = (Ls.take i).flatten.length + q
  | [], j, x, h => by simp at h
  | L :: Ls, j, x, h => by
    rw [List.flatten_cons, List.getElem?_append] at h
    split at h
    · exact ⟨0, L, j, rfl, h, by simp⟩
    · rename_i hlt
      obtain ⟨i, Li, q, h1, h2, h3⟩ := flatten_find Ls _ x h
      exact ⟨i + 1, Li, q, by simpa using h1, h2, by rw [List.take_succ_cons, List.flatten_cons, List.length_append]; omega⟩

/-- What a law's contract leaves. -/
theorem CPost.told {E : Env} {w : World} {F : Nat → Prop} {x : Value} {e : Ending} {w' : World} (h : CPost E w F [] (fun d H => d = .v x ∧ H = []) e w') : e = .returned x ∧ Below w.heap.size w w' := by
  obtain ⟨u, d, H', F', rfl, ⟨rfl, rfl⟩, _, _, hr, _, _, hst⟩ := h
  exact ⟨by rw [hr.inv_v.1], (hst.mono (T' := fun _ => False) (fun i _ hi => by cases hi)).below⟩
/-- A law's contract, at a world where every block stands. -/
theorem GCall.told {P : Program} {E : Env} {f : FuncId} {ds : List DV} {x : Value} (h : GCall P E f ds [] (fun d H => d = .v x ∧ H = [])) {w : World} {vs : Array Value} (hE : E.holds w (AllF w)) (hl : vs.size = ds.length)
    (hr : ∀ (j : Nat) (v : Value) (d : DV), vs[j]? = some v → ds[j]? = some d → Rep w (AllF w) v d) : Calls P f vs w (fun e w' => e = .returned x ∧ Below w.heap.size w w') :=
  (h.2 w (AllF w) vs hE (fun b hb => hb) hl hr (fun p hp => by cases hp) List.nodup_nil).mono (fun e w' hp => hp.told)
end Go.GH
namespace Go.GH
open Go Go.Lib Go.Proofs Go.RowKit

theorem extract_eq (s : ByteArray) (p : Nat) : (s.extract p (p + 3)).data.toList = (s.data.toList.drop p).take 3 := by
  simp [ByteArray.data_extract, List.take_drop]
theorem dec_fffd {l : List UInt8} (h : l.take 3 = [239, 191, 189]) : decodeL l = (65533, 3) := by
  match l, h with
  | [], h => simp at h
  | [_], h => simp at h
  | [_, _], h => simp at h
  | a :: b :: c :: t, h =>
    simp only [List.take_succ_cons, List.take_zero, List.cons.injEq, and_true] at h
    obtain ⟨rfl, rfl, rfl⟩ := h
    rw [decodeL_N]
    generalize hb : ((239 :: 191 :: 189 :: t : List UInt8).getD 3 0).toNat = b3
    have e0 : ((239 :: 191 :: 189 :: t : List UInt8).getD 0 0).toNat = 239 := rfl
    have e1 : ((239 :: 191 :: 189 :: t : List UInt8).getD 1 0).toNat = 191 := rfl
    have e2 : ((239 :: 191 :: 189 :: t : List UInt8).getD 2 0).toNat = 189 := rfl
    have hn : 2 < (239 :: 191 :: 189 :: t : List UInt8).length := by simp
    rw [e0, e1, e2]
    generalize (239 :: 191 :: 189 :: t : List UInt8).length = n at hn
    unfold decodeN
    rw [if_neg (by omega), if_neg (by omega), if_pos (by omega), if_pos (by omega)]
theorem enc_fffd : encodeRune ((65533 : Nat) : Int) = [239, 191, 189] := by decide
theorem step_valid (s : ByteArray) (p : Nat) (hp : p < s.size) : stepOK s (p, ((Utf8.decode s p).1 : Int)) = !(decide ((Utf8.decode s p).1 = 65533 ∧ (Utf8.decode s p).2 = 1)) := by
  have hd := decodeL_drop s p
  have hlen : (s.data.toList.drop p).length = s.size - p := by simp
  have hne : s.data.toList.drop p ≠ [] := by
    intro h; rw [h] at hlen; simp at hlen; omega
  by_cases hr : (Utf8.decode s p).1 = 65533
  · have hr' : (((Utf8.decode s p).1 : Nat) : Int) = 65533 := by omega
    by_cases h1 : (Utf8.decode s p).2 = 1
    · rw [decide_eq_true ⟨hr, h1⟩]
      simp only [Bool.not_true]
      unfold stepOK
      rw [hr']
      simp only [beq_self_eq_true, Bool.not_true, Bool.false_or, Bool.and_eq_false_iff, decide_eq_false_iff_not]
      refine .inr (fun h => ?_)
      have h2 : (s.data.toList.drop p).take 3 = [239, 191, 189] := by rw [← extract_eq, h]; rfl
      rw [dec_fffd h2] at hd
      rw [← hd] at h1
      cases h1
    · rw [decide_eq_false (fun h => h1 h.2)]
      simp only [Bool.not_false]
      have h3 := encode_decode _ hne (by rw [hd]; exact fun h => h1 h.2)
      rw [hd, hr, enc_fffd] at h3
      have hw : (Utf8.decode s p).2 ≤ 3 ∨ 3 ≤ (Utf8.decode s p).2 := by omega
      have hl3 := congrArg List.length h3
      simp only [List.length_cons, List.length_nil, List.length_take, hlen] at hl3
      have h4 : (s.data.toList.drop p).take 3 = [239, 191, 189] := by
        rw [h3]
        apply List.ext_getElem?
        intro j
        simp only [List.getElem?_take]
        by_cases hj : j < 3
        · rw [if_pos hj, if_pos (by omega)]
        · rw [if_neg hj]
          split
          · rw [List.getElem?_eq_none (by omega)]
          · rfl
      have h5 : s.extract p (p + 3) = efbfbd := by
        apply ByteArray.ext
        apply Array.toList_inj.1
        rw [extract_eq, h4]; rfl
      have : p + 3 ≤ s.size := by
        have := congrArg List.length h4
        simp only [List.length_take, hlen, List.length_cons, List.length_nil] at this
        omega
      unfold stepOK
      rw [hr', h5]
      simp [this]
  · rw [decide_eq_false (fun h => hr h.1), stepOK_no (by omega)]; rfl
theorem valid_at (s : ByteArray) : ∀ (f p : Nat), s.size - p ≤ f → validD (s.data.toList.drop p) = (steps s p).all (stepOK s)
  | 0, p, h => by
    rw [steps_ge (by omega), List.drop_eq_nil_of_le (by simp; omega)]; rfl
  | f + 1, p, h => by
    by_cases hp : p < s.size
    · have hw := decode_w s p
      have hlen : (s.data.toList.drop p).length = s.size - p := by simp
      rw [validD_step _ (by intro h; rw [h] at hlen; simp at hlen; omega), steps_lt hp, List.all_cons, step_valid s p hp, decodeL_drop, List.drop_drop, valid_at s f _ (by omega)]
      by_cases hb : (Utf8.decode s p).1 = 65533 ∧ (Utf8.decode s p).2 = 1
      · rw [if_pos hb, decide_eq_true hb]; rfl
      · rw [if_neg hb, decide_eq_false hb]; rfl
    · rw [steps_ge (by omega), List.drop_eq_nil_of_le (by simp; omega)]; rfl
theorem utf8R_valid (s : ByteArray) : utf8R s = validD s.data.toList := by
  have := valid_at s _ 0 (Nat.le_refl _)
  rw [List.drop_zero] at this
  exact this.symm

/-- The library's two tables, in blocks that never turn. -/
def tabE (g3 g4 : Nat) : Env where
  holds := fun w F => Lib.Utf8Tabs g3 g4 w ∧ F g3 ∧ F g4
  mono := fun {w w' F F'} hw hF h => by
    obtain ⟨⟨h1, h2⟩, h3, h4⟩ := h
    refine ⟨⟨fun c hc => ?_, fun i hi => ⟨?_, ?_⟩⟩, hF _ h3, hF _ h4⟩
    · rw [cell?_same (hw _ h3)]; exact h1 c hc
    · rw [cell?_same (hw _ h4)]; exact (h2 i hi).1
    · rw [cell?_same (hw _ h4)]; exact (h2 i hi).2
abbrev E0 : Env := tabE (Tryd.laysValid_ren.g 3) (Tryd.laysValid_ren.g 4)
theorem tabE_all {g3 g4 : Nat} {w : World} (h : Lib.Utf8Tabs g3 g4 w) : (tabE g3 g4).holds w (AllF w) :=
  ⟨h, (cell?_lt (h.1 0 (by decide))).1, (cell?_lt (h.2 0 (by decide)).1).1⟩

/-- A library's contract that only reads, as a contract over abstract states. -/
theorem GCall.ofCalls {P : Program} {E : Env} {f : FuncId} {ds : List DV} {x : Value} (hb : hasBody P f = true) (hx : scal x)
    (h : ∀ w F (vs : Array Value), E.holds w F → vs.size = ds.length → (∀ (j : Nat) (v : Value) (d : DV), vs[j]? = some v → ds[j]? = some d → Rep w F v d) → Calls P f vs w (fun e w' => e = .returned x ∧ Below w.heap.size w w')) :
    GCall P E f ds [] (fun d H => d = .v x ∧ H = []) :=
  ⟨hb, fun w F vs hE hF hl hr _ _ => (h w F vs hE hl hr).mono (fun e w' ⟨he, bel⟩ =>
    ⟨x, .v x, [], F, he, ⟨rfl, rfl⟩, fun _ h => h, fun b h => ⟨Nat.lt_of_lt_of_le (hF b h) (Step.of_below bel).size, .inl h⟩, .v hx, (fun p hp => by cases hp), List.nodup_nil, (Step.of_below bel).mono (fun _ _ h => h.elim)⟩)⟩
theorem arg1 {w : World} {F : Nat → Prop} {vs : Array Value} {x : Value} (hl : vs.size = 1) (hr : ∀ (j : Nat) (v : Value) (d : DV), vs[j]? = some v → [DV.v x][j]? = some d → Rep w F v d) : vs = #[x] ∧ scal x := by
  have h0 := hr 0 vs[0] (.v x) (Array.getElem?_eq_getElem (by omega)) rfl
  refine ⟨?_, h0.inv_v.2⟩
  apply Array.ext
  · simpa using hl
  · intro i h1 h2
    have : i = 0 := by omega
    subst this
    exact h0.inv_v.1
theorem vs_ok (s : ByteArray) : GCall Tryd.prog E0 79 [.v (.string s)] [] (fun d H => d = .v (.bool (utf8R s)) ∧ H = []) :=
  GCall.ofCalls (by kernel_rfl) trivial (fun w F vs hE hl hr => by
    obtain ⟨rfl, hs⟩ := arg1 hl hr
    rw [utf8R_valid]
    exact Any.utf8_ValidString Tryd.laysValid s w hs hE.1)
end Go.GH
namespace Go.GH
open Go

def encBy (r : Int) : List UInt8 := (Utf8.encode r).data.toList
def cY (n : Nat) : List DV := [.v (.int .u8 (n : Int))]
theorem encY_ofNat {n : Nat} (h : n < 256) : encY (UInt8.ofNat n) = cY n := by
  simp [encY, cY]; omega
theorem u8wrap {n : Int} (h : 0 ≤ n) : IntKind.u8.wrap n = n % 256 := by
  simp [IntKind.wrap, IntKind.signed, IntKind.bits]
  
theorem u32wrap {n : Int} (h : 0 ≤ n) (h2 : n ≤ 4294967295) : IntKind.u32.wrap n = n := wrap_id (by
  simp [IntKind.has, IntKind.min, IntKind.max, IntKind.signed, IntKind.bits]; omega)
def orB (a x : Int) : Int := IntKind.u8.wrap (BitVec.ofInt 8 a ||| BitVec.ofInt 8 x).toNat
def andB (a x : Int) : Int := IntKind.u8.wrap (BitVec.ofInt 8 a &&& BitVec.ofInt 8 x).toNat
theorem or192 : ∀ q : Fin 32, orB 192 ((q.val : Nat) : Int) = 192 + q.val := by decide +kernel
theorem or224 : ∀ q : Fin 16, orB 224 ((q.val : Nat) : Int) = 224 + q.val := by decide +kernel
theorem or240 : ∀ q : Fin 8, orB 240 ((q.val : Nat) : Int) = 240 + q.val := by decide +kernel
theorem or128 : ∀ q : Fin 64, orB 128 ((q.val : Nat) : Int) = 128 + q.val := by decide +kernel
theorem and63 : ∀ q : Fin 256, andB ((q.val : Nat) : Int) 63 = ((q.val % 64 : Nat) : Int) := by decide +kernel
theorem or192' {q : Nat} (h : q < 32) : orB 192 (q : Int) = ((192 + q : Nat) : Int) := by have := or192 ⟨q, h⟩; simpa using this
theorem or224' {q : Nat} (h : q < 16) : orB 224 (q : Int) = ((224 + q : Nat) : Int) := by have := or224 ⟨q, h⟩; simpa using this
theorem or240' {q : Nat} (h : q < 8) : orB 240 (q : Int) = ((240 + q : Nat) : Int) := by have := or240 ⟨q, h⟩; simpa using this
theorem or128' {q : Nat} (h : q < 64) : orB 128 (q : Int) = ((128 + q : Nat) : Int) := by have := or128 ⟨q, h⟩; simpa using this
theorem and63' {q : Nat} (h : q < 256) : andB (q : Int) 63 = ((q % 64 : Nat) : Int) := by have := and63 ⟨q, h⟩; simpa using this
theorem u8nat (n : Nat) : IntKind.u8.wrap (n : Int) = ((n % 256 : Nat) : Int) := by
  rw [u8wrap (by omega)]; omega
/-- the low six bits of place k -/
theorem low6 (c d : Nat) (hd : d ≠ 0) : orB 128 (andB (IntKind.u8.wrap ((c / d : Nat) : Int)) 63) = ((128 + c / d % 64 : Nat) : Int) := by
  rw [u8nat, and63' (by omega), or128' (by omega)]
  congr 2
  omega
theorem low60 (c : Nat) : orB 128 (andB (IntKind.u8.wrap ((c : Nat) : Int)) 63) = ((128 + c % 64 : Nat) : Int) := by
  have := low6 c 1 (by decide)
  simpa using this
theorem fdiv_nat (c d : Nat) : Int.fdiv (c : Int) (d : Int) = ((c / d : Nat) : Int) := by
  rw [Int.fdiv_eq_ediv_of_nonneg _ (by omega)]; rfl
theorem valid_cases {r : Int} (h : Utf8.valid r = true) : ∃ c : Nat, r = (c : Int) ∧ (c < 55296 ∨ (57344 ≤ c ∧ c ≤ 1114111)) := by
  simp only [Utf8.valid, Bool.or_eq_true, Bool.and_eq_true, decide_eq_true_eq] at h
  exact ⟨r.toNat, by omega, by omega⟩
theorem enc_1 {c : Nat} (hv : Utf8.valid (c : Int) = true) (h : c < 128) : Utf8.encode (c : Int) = ⟨#[UInt8.ofNat c]⟩ := by
  unfold Utf8.encode
  rw [if_pos hv]
  exact if_pos h
theorem enc_2 {c : Nat} (hv : Utf8.valid (c : Int) = true) (h0 : 128 ≤ c) (h : c < 2048) : Utf8.encode (c : Int) = ⟨#[UInt8.ofNat (192 + c / 64), UInt8.ofNat (128 + c % 64)]⟩ := by
  unfold Utf8.encode
  rw [if_pos hv]
  exact (if_neg (show ¬ c < 128 by omega)).trans (if_pos h)
theorem enc_3 {c : Nat} (hv : Utf8.valid (c : Int) = true) (h0 : 2048 ≤ c) (h : c < 65536) : Utf8.encode (c : Int) = ⟨#[UInt8.ofNat (224 + c / 4096), UInt8.ofNat (128 + c / 64 % 64), UInt8.ofNat (128 + c % 64)]⟩ := by
  unfold Utf8.encode
  rw [if_pos hv]
  exact (if_neg (show ¬ c < 128 by omega)).trans ((if_neg (show ¬ c < 2048 by omega)).trans (if_pos h))
theorem enc_4 {c : Nat} (hv : Utf8.valid (c : Int) = true) (h0 : 65536 ≤ c) : Utf8.encode (c : Int) = ⟨#[UInt8.ofNat (240 + c / 262144), UInt8.ofNat (128 + c / 4096 % 64), UInt8.ofNat (128 + c / 64 % 64), UInt8.ofNat (128 + c % 64)]⟩ := by
  unfold Utf8.encode
  rw [if_pos hv]
  exact (if_neg (show ¬ c < 128 by omega)).trans ((if_neg (show ¬ c < 2048 by omega)).trans (if_neg (show ¬ c < 65536 by omega)))
theorem encBy_1 {c : Nat} (hv : Utf8.valid (c : Int) = true) (h : c < 128) : (encBy (c : Int)).map encY = [cY c] := by
  rw [encBy, enc_1 hv h]
  show [encY (UInt8.ofNat c)] = _
  rw [encY_ofNat (show c < 256 by omega)]
theorem encBy_2 {c : Nat} (hv : Utf8.valid (c : Int) = true) (h0 : 128 ≤ c) (h : c < 2048) : (encBy (c : Int)).map encY = [cY (192 + c / 64), cY (128 + c % 64)] := by
  rw [encBy, enc_2 hv h0 h]
  show [encY (UInt8.ofNat (192 + c / 64)), encY (UInt8.ofNat (128 + c % 64))] = _
  rw [encY_ofNat (show 192 + c / 64 < 256 by omega), encY_ofNat (show 128 + c % 64 < 256 by omega)]
theorem encBy_3 {c : Nat} (hv : Utf8.valid (c : Int) = true) (h0 : 2048 ≤ c) (h : c < 65536) : (encBy (c : Int)).map encY = [cY (224 + c / 4096), cY (128 + c / 64 % 64), cY (128 + c % 64)] := by
  rw [encBy, enc_3 hv h0 h]
  show [encY (UInt8.ofNat (224 + c / 4096)), encY (UInt8.ofNat (128 + c / 64 % 64)), encY (UInt8.ofNat (128 + c % 64))] = _
  rw [encY_ofNat (show 224 + c / 4096 < 256 by omega), encY_ofNat (show 128 + c / 64 % 64 < 256 by omega), encY_ofNat (show 128 + c % 64 < 256 by omega)]
theorem encBy_4 {c : Nat} (hv : Utf8.valid (c : Int) = true) (h0 : 65536 ≤ c) (h : c ≤ 1114111) : (encBy (c : Int)).map encY = [cY (240 + c / 262144), cY (128 + c / 4096 % 64), cY (128 + c / 64 % 64), cY (128 + c % 64)] := by
  rw [encBy, enc_4 hv h0]
  show [encY (UInt8.ofNat (240 + c / 262144)), encY (UInt8.ofNat (128 + c / 4096 % 64)), encY (UInt8.ofNat (128 + c / 64 % 64)), encY (UInt8.ofNat (128 + c % 64))] = _
  rw [encY_ofNat (show 240 + c / 262144 < 256 by omega), encY_ofNat (show 128 + c / 4096 % 64 < 256 by omega), encY_ofNat (show 128 + c / 64 % 64 < 256 by omega), encY_ofNat (show 128 + c % 64 < 256 by omega)]
theorem encBy_len (r : Int) : (encBy r).length ≤ 4 := encode_size r
end Go.GH
namespace Go.GH
open Go Go.Lib

/-! #### a word is the bytes of its runes -/
theorem encBy_lib (c : Nat) (hv : Utf8.valid (c : Int) = true) : encBy (c : Int) = encodeRune (c : Int) := by
  obtain ⟨c', h1, hc⟩ := valid_cases hv
  have hcc : c' = c := by omega
  subst hcc
  have u : ∀ n : Nat, n < 256 → UInt8.ofNat n = (n : Int).toNat.toUInt8 := fun n _ => rfl
  unfold encodeRune
  by_cases h1 : c' < 128
  · rw [encBy, enc_1 hv h1, encodeRuneZ_one (by omega) (by omega)]; rfl
  · by_cases h2 : c' < 2048
    · rw [encBy, enc_2 hv (by omega) h2, encodeRuneZ_two (by omega) (by omega)]
      show [UInt8.ofNat (192 + c' / 64), UInt8.ofNat (128 + c' % 64)] = [(192 + (c' : Int) / 64).toNat.toUInt8, (128 + (c' : Int) % 64).toNat.toUInt8]
      rw [show (192 + (c' : Int) / 64).toNat = 192 + c' / 64 from by omega, show (128 + (c' : Int) % 64).toNat = 128 + c' % 64 from by omega]
    · by_cases h3 : c' < 65536
      · rw [encBy, enc_3 hv (by omega) h3, encodeRuneZ_three (by omega)]
        show [UInt8.ofNat (224 + c' / 4096), UInt8.ofNat (128 + c' / 64 % 64), UInt8.ofNat (128 + c' % 64)] = [(224 + (c' : Int) / 4096).toNat.toUInt8, (128 + (c' : Int) / 64 % 64).toNat.toUInt8, (128 + (c' : Int) % 64).toNat.toUInt8]
        rw [show (224 + (c' : Int) / 4096).toNat = 224 + c' / 4096 from by omega, show (128 + (c' : Int) / 64 % 64).toNat = 128 + c' / 64 % 64 from by omega, show (128 + (c' : Int) % 64).toNat = 128 + c' % 64 from by omega]
      · rw [encBy, enc_4 hv (by omega), encodeRuneZ_four (by omega) (by omega)]
        show [UInt8.ofNat (240 + c' / 262144), UInt8.ofNat (128 + c' / 4096 % 64), UInt8.ofNat (128 + c' / 64 % 64), UInt8.ofNat (128 + c' % 64)] = [(240 + (c' : Int) / 262144).toNat.toUInt8, (128 + (c' : Int) / 4096 % 64).toNat.toUInt8, (128 + (c' : Int) / 64 % 64).toNat.toUInt8, (128 + (c' : Int) % 64).toNat.toUInt8]
        rw [show (240 + (c' : Int) / 262144).toNat = 240 + c' / 262144 from by omega, show (128 + (c' : Int) / 4096 % 64).toNat = 128 + c' / 4096 % 64 from by omega, show (128 + (c' : Int) / 64 % 64).toNat = 128 + c' / 64 % 64 from by omega, show (128 + (c' : Int) % 64).toNat = 128 + c' % 64 from by omega]
theorem data_app2 (x y : ByteArray) : (x ++ y).data.toList = x.data.toList ++ y.data.toList := by simp
theorem encs_cons_data (r : Int) (rs : List Int) : (encs (r :: rs)).data.toList = encBy r ++ (encs rs).data.toList := by
  rw [encs, data_app2, encBy]
theorem step_bytes (s : ByteArray) (p : Nat) (hp : p < s.size) (h : stepOK s (p, ((Utf8.decode s p).1 : Int)) = true) : encBy ((Utf8.decode s p).1 : Int) = (s.data.toList.drop p).take (Utf8.decode s p).2 := by
  have hd := decodeL_drop s p
  have hlen : (s.data.toList.drop p).length = s.size - p := by simp
  have hne : s.data.toList.drop p ≠ [] := by
    intro h; rw [h] at hlen; simp at hlen; omega
  rw [step_valid s p hp] at h
  have h' : ¬ ((Utf8.decode s p).1 = 65533 ∧ (Utf8.decode s p).2 = 1) := fun hb => by rw [decide_eq_true hb] at h; cases h
  have := encode_decode _ hne (by rw [hd]; exact h')
  rw [hd] at this
  rw [← this, encBy_lib _ (decode_valid s p)]
theorem encs_at (s : ByteArray) : ∀ (f p : Nat), s.size - p ≤ f → (steps s p).all (stepOK s) = true → (encs (runesAt s p)).data.toList = s.data.toList.drop p
  | 0, p, h, _ => by rw [runesAt_ge (by omega), List.drop_eq_nil_of_le (by simp; omega)]; rfl
  | f + 1, p, h, hv => by
    by_cases hp : p < s.size
    · have hw := decode_w s p
      rw [steps_lt hp, List.all_cons, Bool.and_eq_true] at hv
      have ih := encs_at s f (p + (Utf8.decode s p).2) (by omega) hv.2
      rw [runesAt_lt hp, encs_cons_data, ih, step_bytes s p hp hv.1, ← List.drop_drop, List.take_append_drop]
    · rw [runesAt_ge (by omega), List.drop_eq_nil_of_le (by simp; omega)]; rfl
theorem encs_runes {s : ByteArray} (h : utf8R s = true) : encs (runes s) = s := by
  have := encs_at s _ 0 (Nat.le_refl _) h
  rw [runesAt_zero, List.drop_zero] at this
  apply ByteArray.ext
  exact Array.toList_inj.1 this
theorem encs_append : ∀ x y : List Int, encs (x ++ y) = encs x ++ encs y
  | [], y => by
    apply ByteArray.ext
    simp [encs]
  | r :: x, y => by rw [List.cons_append, encs, encs, encs_append x y, ByteArray.append_assoc]
end Go.GH
namespace Go.GH
open Go

theorem okR_to {a : List Letter} {r : Rule} {s : ByteArray} (h : okR a r s = true) : (runes r.«to»).length ≤ 4 ∧ (runes s).length ≤ 40 ∧ utf8R r.«to» = true := by
  simp only [okR, validR, consS_eq, Bool.and_eq_true, decide_eq_true_eq] at h
  exact ⟨h.1.1.1.2.1.2, h.2.1.2, h.1.1.1.2.1.1⟩
def resX (a : List Letter) (r : Rule) (s : ByteArray) (l : List Nat) : ByteArray × Int :=
  if okR a r s then (if 40 < (runes (encs (resF r.fr (runes r.«to») (runes s) 0 l))).length then (⟨#[]⟩, 2) else (encs (resF r.fr (runes r.«to») (runes s) 0 l), 0)) else (⟨#[]⟩, 1)
def applyR (a : List Letter) (r : Rule) (s : ByteArray) : ByteArray × Int := resX a r s (sitesR a r s)
def applyQ (a : List Letter) (r : Rule) (s : ByteArray) : ByteArray × Int := resX a r s (sitesQ a r s)
def tupA (x : ByteArray × Int) : DV := .tup [.v (.string x.1), .v (.int .i64 x.2)]
theorem resX_size (a : List Letter) (r : Rule) (s : ByteArray) (l : List Nat) : (resX a r s l).1.size ≤ 1048576 := by
  unfold resX
  split
  · rename_i h
    obtain ⟨h1, h2, _⟩ := okR_to h
    split
    · decide
    · have k1 := resF_len r.fr (runes r.«to») (runes s) 0 l
      have k2 := runesBytes_size_le (resF r.fr (runes r.«to») (runes s) 0 l)
      rw [encs_eq] at k2
      have k3 : ((runes s).length + 1) * ((runes r.«to»).length + 1) ≤ 41 * 5 := Nat.mul_le_mul (by omega) (by omega)
      show (encs _).size ≤ _
      omega
  · decide
theorem encs_cons (c : Int) (w : List Int) : encs (c :: w) = Utf8.encode c ++ encs w := rfl
theorem encs_nil : encs [] = .empty := rfl
end Go.GH
namespace Go.GH
open Go Go.Proofs
variable {E : Env}
theorem elemB_9_1_16 : elemB Tryd.prog 9 1 16 = true := by kernel_rfl
theorem sliceB_23_47_6 : sliceB Tryd.prog 23 47 6 = true := by kernel_rfl
theorem sliceB_35_9_1 : sliceB Tryd.prog 35 9 1 = true := by kernel_rfl
theorem someB_21 : (Tryd.prog.underlying 21).isSome = true := by kernel_rfl
theorem zeroIs_47 : zeroIs Tryd.prog 47 (.agg #[.int .i32 0, .string .empty, .slice none 0 0, .slice none 0 0, .bool false, .bool false]) := by unfold zeroIs; kernel_rfl
theorem zeroIs_9 : zeroIs Tryd.prog 9 (.string .empty) := by unfold zeroIs; kernel_rfl
theorem rApply (hV : VS E) (a : List Letter) (r : Rule) (s : ByteArray) (hr : SmR r) (hs : s.size ≤ 1048576) : GCall Tryd.prog E 92 [DLs a, .agg (encR r), .v (.string s)] [] (fun d H => d = tupA (applyR a r s) ∧ H = []) := by
  refine GCall.body (C := ⟨Tryd.prog, E, true⟩) Tryd.func92 rfl (fun _ => rfl) (by kernel_rfl) rfl ?_
  refine SCode.seqR ?_
  refine SOps.boxAM rfl rfl ?_
  refine SOps.assign rfl ?_
  refine SOps.assign rfl ?_
  refine SOps.nil ?_
  refine SCode.seq ?_
  refine SCode.seqR ?_
  refine SOps.move rfl ?_
  refine SOps.loadPinA rfl aggB_47_6 (Nat.le_of_ble_eq_true rfl) ?_
  refine SOps.callP (rValid hV _ _ (by assumption)) rfl ?_
  rintro _ rfl
  refine SOps.un rfl rfl ?_
  refine SOps.move rfl ?_
  refine SOps.caseB 13 rfl (fun hb1 => ?_) (fun hb1 => ?_)
  · try simp only [nmL] at hb1
    refine SOps.skip rfl ?_
    refine SOps.skip rfl ?_
    refine SOps.skip rfl ?_
    refine SOps.skip rfl ?_
    refine SOps.pick rfl rfl ?_
    refine SOps.nil ?_
    refine SCode.cond rfl (fun _ => ?_) (fun h => by cases h)
    refine SCode.seqR ?_
    refine SOps.assign rfl ?_
    refine SOps.assign rfl ?_
    refine SOps.nil ?_
    refine SCode.ret ?_
    exact ⟨_, Res.two (.tmp rfl) (.tmp rfl), (by unfold applyR resX; rw [if_neg (by simp_all [okR])]; rfl), rfl⟩
  · try simp only [nmL] at hb1
    refine SOps.move rfl ?_
    refine SOps.move rfl ?_
    refine SOps.callP (lIsWord hV _ _) rfl ?_
    rintro _ rfl
    refine SOps.un rfl rfl ?_
    refine SOps.pick rfl rfl ?_
    refine SOps.nil ?_
    refine SCode.cond rfl (fun hc2 => ?_) (fun hc2 => ?_)
    · try simp only [nmL] at hc2
      refine SCode.seqR ?_
      refine SOps.assign rfl ?_
      refine SOps.assign rfl ?_
      refine SOps.nil ?_
      refine SCode.ret ?_
      exact ⟨_, Res.two (.tmp rfl) (.tmp rfl), (by unfold applyR resX; rw [if_neg (by simp_all [okR])]; rfl), rfl⟩
    · try simp only [nmL] at hc2
      refine SCode.skip ?_
      show SCode _ _ _ _
      refine SCode.seq ?_
      have hok : okR a r s = true := by simp_all [okR]
      obtain ⟨h4, h40, hu8⟩ := okR_to hok
      refine SCode.drawPure mixed_ [(19, .agg (encR r)), (20, DLs a), (21, .agg (encR r)), (22, .v (.string s)), (23, DNats (sitesR a r s)), (24, .v (.string s)), (25, .v (.string (encs (resF r.fr (runes r.«to») (runes s) 0 (sitesR a r s))))), (8, .v (.string (encs (resF r.fr (runes r.«to») (runes s) 0 (sitesR a r s)))))] [19, 20, 21, 22, 23, 24, 25, 8] [[.inr 4], [.inr 0], [.inr 4], [.inr 2], [.inl 1, .inl 2, .inl 3], [.inr 2], [.inl 0, .inl 4, .inl 5], [.inl 6]] [[(4, .ipin (encR r))], [(0, DLs a)], [(4, .ipin (encR r))], [(2, .v (.string s))], [(20, DLs a), (21, .agg (encR r)), (22, .v (.string s))], [(2, .v (.string s))], [(19, .agg (encR r)), (23, DNats (sitesR a r s)), (24, .v (.string s))], [(25, .v (.string (encs (resF r.fr (runes r.«to») (runes s) 0 (sitesR a r s)))))]] rfl (by kernel_rfl) (by kernel_rfl) rfl ?_ ?_
      · refine OpsOk.cons (fun rest => ?_) ?_
        · refine SOps.loadPinA rfl aggB_47_6 (Nat.le_of_ble_eq_true rfl) ?_
          exact SOps.nil (by first | rfl | simp_all)
        refine OpsOk.cons (fun rest => ?_) ?_
        · refine SOps.move rfl ?_
          exact SOps.nil (by first | rfl | simp_all)
        refine OpsOk.cons (fun rest => ?_) ?_
        · refine SOps.loadPinA rfl aggB_47_6 (Nat.le_of_ble_eq_true rfl) ?_
          exact SOps.nil (by first | rfl | simp_all)
        refine OpsOk.cons (fun rest => ?_) ?_
        · refine SOps.move rfl ?_
          exact SOps.nil (by first | rfl | simp_all)
        refine OpsOk.cons (fun rest => ?_) ?_
        · refine SOps.callP (rSites hV _ _ _ hr hs) rfl ?_
          rintro _ rfl
          exact SOps.nil (by first | rfl | simp_all)
        refine OpsOk.cons (fun rest => ?_) ?_
        · refine SOps.move rfl ?_
          exact SOps.nil (by first | rfl | simp_all)
        refine OpsOk.cons (fun rest => ?_) ?_
        · refine SOps.callP (rResult _ _ _ h4 h40) rfl ?_
          rintro _ rfl
          exact SOps.nil (by first | rfl | simp_all)
        refine OpsOk.cons (fun rest => ?_) ?_
        · refine SOps.assign rfl ?_
          exact SOps.nil (by first | rfl | simp_all)
        exact OpsOk.nil
      · show SCode _ _ _ _
        refine SCode.seq ?_
        refine SCode.seqR ?_
        refine SOps.move rfl ?_
        refine SOps.callP (uRuneCount _) rfl ?_
        rintro _ rfl
        refine SOps.bin rfl rfl rfl ?_
        refine SOps.nil ?_
        refine SCode.cond rfl (fun hc3 => ?_) (fun hc3 => ?_)
        · try simp only [nmL] at hc3
          refine SCode.seqR ?_
          refine SOps.assign rfl ?_
          refine SOps.assign rfl ?_
          refine SOps.nil ?_
          refine SCode.ret ?_
          exact ⟨_, Res.two (.tmp rfl) (.tmp rfl), (by unfold applyR resX; rw [if_pos hok, if_pos (by omega)]; rfl), rfl⟩
        · try simp only [nmL] at hc3
          refine SCode.skip ?_
          show SCode _ _ _ _
          refine SCode.seqR ?_
          refine SOps.move rfl ?_
          refine SOps.assign rfl ?_
          refine SOps.assign rfl ?_
          refine SOps.nil ?_
          refine SCode.ret ?_
          exact ⟨_, Res.two (.tmp rfl) (.tmp rfl), (by unfold applyR resX; rw [if_pos hok, if_neg (by omega)]; rfl), rfl⟩
theorem qApply (hV : VS E) (a : List Letter) (r : Rule) (s : ByteArray) (hr : SmR r) (hs : s.size ≤ 1048576) : GCall Tryd.prog E 87 [DLs a, .agg (encR r), .v (.string s)] [] (fun d H => d = tupA (applyQ a r s) ∧ H = []) := by
  refine GCall.body (C := ⟨Tryd.prog, E, true⟩) Tryd.func87 rfl (fun _ => rfl) (by kernel_rfl) rfl ?_
  refine SCode.seqR ?_
  refine SOps.boxAM rfl rfl ?_
  refine SOps.assign rfl ?_
  refine SOps.assign rfl ?_
  refine SOps.nil ?_
  refine SCode.seq ?_
  refine SCode.seqR ?_
  refine SOps.move rfl ?_
  refine SOps.loadPinA rfl aggB_47_6 (Nat.le_of_ble_eq_true rfl) ?_
  refine SOps.callP (qValid hV _ _) rfl ?_
  rintro _ rfl
  refine SOps.un rfl rfl ?_
  refine SOps.move rfl ?_
  refine SOps.caseB 18 rfl (fun hb1 => ?_) (fun hb1 => ?_)
  · try simp only [nmL] at hb1
    refine SOps.skip rfl ?_
    refine SOps.skip rfl ?_
    refine SOps.skip rfl ?_
    refine SOps.skip rfl ?_
    refine SOps.pick rfl rfl ?_
    refine SOps.nil ?_
    refine SCode.cond rfl (fun _ => ?_) (fun h => by cases h)
    refine SCode.seqR ?_
    refine SOps.assign rfl ?_
    refine SOps.assign rfl ?_
    refine SOps.nil ?_
    refine SCode.ret ?_
    exact ⟨_, Res.two (.tmp rfl) (.tmp rfl), (by unfold applyQ resX; first | (rw [if_neg (by simp_all [okR])]; rfl) | (rw [if_pos hok, if_pos (by omega)]; rfl) | (rw [if_pos hok, if_neg (by omega)]; rfl)), rfl⟩
  · try simp only [nmL] at hb1
    refine SOps.move rfl ?_
    refine SOps.move rfl ?_
    refine SOps.callP (qWord hV _ _) rfl ?_
    rintro _ rfl
    refine SOps.un rfl rfl ?_
    refine SOps.pick rfl rfl ?_
    refine SOps.nil ?_
    refine SCode.cond rfl (fun hc2 => ?_) (fun hc2 => ?_)
    · try simp only [nmL] at hc2
      refine SCode.seqR ?_
      refine SOps.assign rfl ?_
      refine SOps.assign rfl ?_
      refine SOps.nil ?_
      refine SCode.ret ?_
      exact ⟨_, Res.two (.tmp rfl) (.tmp rfl), (by unfold applyQ resX; first | (rw [if_neg (by simp_all [okR])]; rfl) | (rw [if_pos hok, if_pos (by omega)]; rfl) | (rw [if_pos hok, if_neg (by omega)]; rfl)), rfl⟩
    · try simp only [nmL] at hc2
      refine SCode.skip ?_
      show SCode _ _ _ _
      refine SCode.seqR ?_
      refine SOps.move rfl ?_
      refine SOps.loadPinA rfl aggB_47_6 (Nat.le_of_ble_eq_true rfl) ?_
      refine SOps.move rfl ?_
      refine SOps.callP (qSites hV _ _ _ hs) rfl ?_
      rintro _ rfl
      refine SOps.assign rfl ?_
      refine SOps.nil ?_
      refine SCode.seqR ?_
      refine SOps.move rfl ?_
      refine SOps.runesF rfl rfl strB_9 sliceB_84_21_1 intB_21_i32 ?_
      refine SOps.assign rfl ?_
      refine SOps.nil ?_
      refine SCode.seqR ?_
      refine SOps.assign rfl ?_
      refine SOps.nil ?_
      refine SCode.seqR ?_
      refine SOps.assign rfl ?_
      refine SOps.nil ?_
      refine SCode.seq ?_
      refine SCode.seqR ?_
      refine SOps.assign rfl ?_
      refine SOps.nil ?_
      refine SCode.block ?_
      have hok : okR a r s = true := by simp_all [okR]
      obtain ⟨h4, h40, hu8⟩ := okR_to hok
      have hto : encs (runes r.«to») = r.«to» := encs_runes hu8
      obtain ⟨hr1, _, _⟩ := hr
      have hll : (sitesQ a r s).length ≤ (runes s).length + 1 := by unfold sitesQ; split <;> first | exact filter_len (siteQ a r (runes s)) ((runes s).length + 1) | exact Nat.zero_le _
      refine SCode.loop3 (fun (i : Nat) (kk : Nat) (acc : ByteArray) => (⟨80, [(4, .ipin (encR r)), (8, DNats (sitesQ a r s)), (9, DRunes (runes s)), (10, .v (.string acc)), (11, .v (.int .i64 (kk : Int))), (12, .v (.int .i64 (i : Int)))], []⟩ : St)) (fun (i : Nat) (kk : Nat) (acc : ByteArray) => acc.size ≤ 1100000 * i ∧ kk ≤ (sitesQ a r s).length ∧ ((i ≤ (runes s).length ∧ acc ++ encs (resF r.fr (runes r.«to») ((runes s).drop i) i ((sitesQ a r s).drop kk)) = encs (resF r.fr (runes r.«to») (runes s) 0 (sitesQ a r s))) ∨ (i = (runes s).length + 1 ∧ acc = encs (resF r.fr (runes r.«to») (runes s) 0 (sitesQ a r s))))) (fun (i : Nat) (kk : Nat) (acc : ByteArray) => (runes s).length + 1 - i) (0) (0) (.empty) (by exact ⟨Nat.le_refl _, Nat.zero_le _, .inl ⟨Nat.zero_le _, by rw [ByteArray.empty_append]; rfl⟩⟩) (St.Le.of ⟨(by first | rfl | (show some _ = some _; simp)), (by first | rfl | (show some _ = some _; simp)), (by first | rfl | (show some _ = some _; simp)), (by first | rfl | (show some _ = some _; simp)), (by first | rfl | (show some _ = some _; simp)), (by first | rfl | (show some _ = some _; simp)), trivial⟩ rfl (by first | rfl | (simp))) ?_
      rintro i kk acc ⟨hol, hkk, hf⟩
      refine SCode.seq ?_
      refine SCode.seqR ?_
      refine SOps.move rfl ?_
      refine SOps.move rfl ?_
      refine SOps.lenM rfl sliceB_84_21_1 ?_
      refine SOps.bin rfl rfl rfl ?_
      refine SOps.nil ?_
      refine SCode.cond rfl (fun hc3 => ?_) (fun hc3 => ?_)
      · try simp only [nmL] at hc3
        refine SCode.skip ?_
        show SCode _ _ _ _
        refine SCode.seq ?_
        refine SCode.block ?_
        refine SCode.seqR ?_
        have hf2 := (hf.resolve_right (by omega)).2
        have hdn : i = (runes s).length → (runes s).drop i = [] := fun h => List.drop_eq_nil_of_le (by omega)
        have hdc : ∀ h : i < (runes s).length, (runes s).drop i = (runes s)[i] :: (runes s).drop (i + 1) := fun h => List.drop_eq_getElem_cons h
        refine SOps.move rfl ?_
        refine SOps.move rfl ?_
        refine SOps.lenM rfl sliceB_43_3_1 ?_
        refine SOps.bin rfl rfl rfl ?_
        refine SOps.move rfl ?_
        refine SOps.caseB 40 rfl (fun hb4 => ?_) (fun hb4 => ?_)
        · try simp only [nmL] at hb4
          have hkd : (sitesQ a r s).drop kk = (sitesQ a r s)[kk] :: (sitesQ a r s).drop (kk + 1) := List.drop_eq_getElem_cons (by omega)
          refine SOps.move rfl ?_
          refine SOps.move rfl ?_
          refine SOps.indexM (kk) rfl rfl sliceB_43_3_1 (by first | omega | (simp only [lenB]; omega)) (by first | omega | (simp only [lenB]; omega)) ?_
          refine SOps.loadPin rfl flatB_3 ?_
          refine SOps.move rfl ?_
          refine SOps.bin rfl rfl rfl ?_
          refine SOps.pick rfl rfl ?_
          refine SOps.assign rfl ?_
          refine SOps.nil ?_
          refine SCode.seq ?_
          refine SCode.seqR ?_
          refine SOps.move rfl ?_
          refine SOps.nil ?_
          refine SCode.cond rfl (fun hc5 => ?_) (fun hc5 => ?_)
          · try simp only [nmL] at hc5
            have hs0 : (sitesQ a r s)[kk] = i := Int.ofNat.inj hc5
            refine SCode.seqR ?_
            refine SOps.move rfl ?_
            refine SOps.fieldPin rfl fieldB_47_1_1 ?_
            refine SOps.loadPin rfl flatB_9 ?_
            refine SOps.concat rfl rfl (by simp only [lenB, ByteArray.size_append]; first | omega | (have := encode_size ((runes s)[i]); omega)) ?_
            refine SOps.assign rfl ?_
            refine SOps.nil ?_
            refine SCode.region ?_
            refine SOps.move rfl ?_
            refine SOps.addI rfl rfl (by first | omega | (simp only [lenB]; omega)) (by first | omega | (simp only [lenB]; omega)) ?_
            refine SOps.assign rfl ?_
            refine SOps.nil ?_
            show SCode _ _ _ _
            refine SCode.seqR ?_
            refine SOps.move rfl ?_
            refine SOps.move rfl ?_
            refine SOps.lenM rfl sliceB_84_21_1 ?_
            refine SOps.bin rfl rfl rfl ?_
            refine SOps.move rfl ?_
            refine SOps.caseB 59 rfl (fun hb6 => ?_) (fun hb6 => ?_)
            · try simp only [nmL] at hb6
              refine SOps.move rfl ?_
              refine SOps.un rfl rfl ?_
              refine SOps.move rfl ?_
              refine SOps.caseB 62 rfl (fun hb7 => ?_) (fun hb7 => ?_)
              · try simp only [nmL] at hb7
                refine SOps.skip rfl ?_
                refine SOps.skip rfl ?_
                refine SOps.skip rfl ?_
                refine SOps.pick rfl rfl ?_
                refine SOps.pick rfl rfl ?_
                refine SOps.nil ?_
                refine SCode.cond rfl (fun _ => ?_) (fun h => by cases h)
                refine SCode.region ?_
                refine SOps.move rfl ?_
                refine SOps.move rfl ?_
                refine SOps.move rfl ?_
                refine SOps.indexM (i) rfl rfl sliceB_84_21_1 (by first | omega | (simp only [lenB]; omega)) (by first | omega | (simp only [lenB]; omega)) ?_
                refine SOps.loadPin rfl flatB_21 ?_
                refine SOps.convIntStr rfl someB_21 strB_9 ?_
                refine SOps.concat rfl rfl (by simp only [lenB, ByteArray.size_append]; first | omega | (have := encode_size ((runes s)[i]); omega)) ?_
                refine SOps.assign rfl ?_
                refine SOps.nil ?_
                show SCode _ _ _ _
                refine SCode.region ?_
                refine SOps.move rfl ?_
                refine SOps.addI rfl rfl (by first | omega | (simp only [lenB]; omega)) (by first | omega | (simp only [lenB]; omega)) ?_
                refine SOps.assign rfl ?_
                refine SOps.nil ?_
                first
                  | (exfalso; omega)
                  | exact ⟨i + 1, kk + 1, acc ++ r.«to» ++ Utf8.encode ((runes s)[i]), ⟨by first | omega | (simp only [ByteArray.size_append]; omega) | (have := encode_size ((runes s)[i]); simp only [ByteArray.size_append]; omega), by omega, by cases Nat.lt_or_ge i (runes s).length with | inl hlt => (first | (exfalso; omega) | (left; refine ⟨by omega, ?_⟩; rw [← hf2, hdc hlt, resF_cons]; clear hf2 hf hdc hdn; simp_all [encs_append, encs_cons, encs_nil, ByteArray.append_assoc]; done)) | inr hge => (first | (exfalso; omega) | (right; refine ⟨by omega, ?_⟩; rw [← hf2, hdn (by omega), resF_nil]; clear hf2 hf hdc hdn; simp_all [encs_append, encs_cons, encs_nil, ByteArray.append_assoc]; done))⟩, by omega, St.Le.of ⟨rfl, rfl, rfl, rfl, rfl, rfl, trivial⟩⟩
                  | exact ⟨i + 1, kk + 1, acc ++ r.«to», ⟨by first | omega | (simp only [ByteArray.size_append]; omega) | (have := encode_size ((runes s)[i]); simp only [ByteArray.size_append]; omega), by omega, by cases Nat.lt_or_ge i (runes s).length with | inl hlt => (first | (exfalso; omega) | (left; refine ⟨by omega, ?_⟩; rw [← hf2, hdc hlt, resF_cons]; clear hf2 hf hdc hdn; simp_all [encs_append, encs_cons, encs_nil, ByteArray.append_assoc]; done)) | inr hge => (first | (exfalso; omega) | (right; refine ⟨by omega, ?_⟩; rw [← hf2, hdn (by omega), resF_nil]; clear hf2 hf hdc hdn; simp_all [encs_append, encs_cons, encs_nil, ByteArray.append_assoc]; done))⟩, by omega, St.Le.of ⟨rfl, rfl, rfl, rfl, rfl, rfl, trivial⟩⟩
                  | exact ⟨i + 1, kk, acc ++ Utf8.encode ((runes s)[i]), ⟨by first | omega | (simp only [ByteArray.size_append]; omega) | (have := encode_size ((runes s)[i]); simp only [ByteArray.size_append]; omega), by omega, by cases Nat.lt_or_ge i (runes s).length with | inl hlt => (first | (exfalso; omega) | (left; refine ⟨by omega, ?_⟩; rw [← hf2, hdc hlt, resF_cons]; clear hf2 hf hdc hdn; simp_all [encs_append, encs_cons, encs_nil, ByteArray.append_assoc]; done)) | inr hge => (first | (exfalso; omega) | (right; refine ⟨by omega, ?_⟩; rw [← hf2, hdn (by omega), resF_nil]; clear hf2 hf hdc hdn; simp_all [encs_append, encs_cons, encs_nil, ByteArray.append_assoc]; done))⟩, by omega, St.Le.of ⟨rfl, rfl, rfl, rfl, rfl, rfl, trivial⟩⟩
                  | exact ⟨i + 1, kk, acc, ⟨by first | omega | (simp only [ByteArray.size_append]; omega) | (have := encode_size ((runes s)[i]); simp only [ByteArray.size_append]; omega), by omega, by cases Nat.lt_or_ge i (runes s).length with | inl hlt => (first | (exfalso; omega) | (left; refine ⟨by omega, ?_⟩; rw [← hf2, hdc hlt, resF_cons]; clear hf2 hf hdc hdn; simp_all [encs_append, encs_cons, encs_nil, ByteArray.append_assoc]; done)) | inr hge => (first | (exfalso; omega) | (right; refine ⟨by omega, ?_⟩; rw [← hf2, hdn (by omega), resF_nil]; clear hf2 hf hdc hdn; simp_all [encs_append, encs_cons, encs_nil, ByteArray.append_assoc]; done))⟩, by omega, St.Le.of ⟨rfl, rfl, rfl, rfl, rfl, rfl, trivial⟩⟩
              · try simp only [nmL] at hb7
                refine SOps.fieldPin rfl fieldB_47_0_0 ?_
                refine SOps.loadPin rfl flatB_21 ?_
                refine SOps.bin rfl rfl rfl ?_
                refine SOps.pick rfl rfl ?_
                refine SOps.pick rfl rfl ?_
                refine SOps.nil ?_
                refine SCode.cond rfl (fun hc8 => ?_) (fun hc8 => ?_)
                · try simp only [nmL] at hc8
                  refine SCode.region ?_
                  refine SOps.move rfl ?_
                  refine SOps.move rfl ?_
                  refine SOps.move rfl ?_
                  refine SOps.indexM (i) rfl rfl sliceB_84_21_1 (by first | omega | (simp only [lenB]; omega)) (by first | omega | (simp only [lenB]; omega)) ?_
                  refine SOps.loadPin rfl flatB_21 ?_
                  refine SOps.convIntStr rfl someB_21 strB_9 ?_
                  refine SOps.concat rfl rfl (by simp only [lenB, ByteArray.size_append]; first | omega | (have := encode_size ((runes s)[i]); omega)) ?_
                  refine SOps.assign rfl ?_
                  refine SOps.nil ?_
                  show SCode _ _ _ _
                  refine SCode.region ?_
                  refine SOps.move rfl ?_
                  refine SOps.addI rfl rfl (by first | omega | (simp only [lenB]; omega)) (by first | omega | (simp only [lenB]; omega)) ?_
                  refine SOps.assign rfl ?_
                  refine SOps.nil ?_
                  first
                    | (exfalso; omega)
                    | exact ⟨i + 1, kk + 1, acc ++ r.«to» ++ Utf8.encode ((runes s)[i]), ⟨by first | omega | (simp only [ByteArray.size_append]; omega) | (have := encode_size ((runes s)[i]); simp only [ByteArray.size_append]; omega), by omega, by cases Nat.lt_or_ge i (runes s).length with | inl hlt => (first | (exfalso; omega) | (left; refine ⟨by omega, ?_⟩; rw [← hf2, hdc hlt, resF_cons]; clear hf2 hf hdc hdn; simp_all [encs_append, encs_cons, encs_nil, ByteArray.append_assoc]; done)) | inr hge => (first | (exfalso; omega) | (right; refine ⟨by omega, ?_⟩; rw [← hf2, hdn (by omega), resF_nil]; clear hf2 hf hdc hdn; simp_all [encs_append, encs_cons, encs_nil, ByteArray.append_assoc]; done))⟩, by omega, St.Le.of ⟨rfl, rfl, rfl, rfl, rfl, rfl, trivial⟩⟩
                    | exact ⟨i + 1, kk + 1, acc ++ r.«to», ⟨by first | omega | (simp only [ByteArray.size_append]; omega) | (have := encode_size ((runes s)[i]); simp only [ByteArray.size_append]; omega), by omega, by cases Nat.lt_or_ge i (runes s).length with | inl hlt => (first | (exfalso; omega) | (left; refine ⟨by omega, ?_⟩; rw [← hf2, hdc hlt, resF_cons]; clear hf2 hf hdc hdn; simp_all [encs_append, encs_cons, encs_nil, ByteArray.append_assoc]; done)) | inr hge => (first | (exfalso; omega) | (right; refine ⟨by omega, ?_⟩; rw [← hf2, hdn (by omega), resF_nil]; clear hf2 hf hdc hdn; simp_all [encs_append, encs_cons, encs_nil, ByteArray.append_assoc]; done))⟩, by omega, St.Le.of ⟨rfl, rfl, rfl, rfl, rfl, rfl, trivial⟩⟩
                    | exact ⟨i + 1, kk, acc ++ Utf8.encode ((runes s)[i]), ⟨by first | omega | (simp only [ByteArray.size_append]; omega) | (have := encode_size ((runes s)[i]); simp only [ByteArray.size_append]; omega), by omega, by cases Nat.lt_or_ge i (runes s).length with | inl hlt => (first | (exfalso; omega) | (left; refine ⟨by omega, ?_⟩; rw [← hf2, hdc hlt, resF_cons]; clear hf2 hf hdc hdn; simp_all [encs_append, encs_cons, encs_nil, ByteArray.append_assoc]; done)) | inr hge => (first | (exfalso; omega) | (right; refine ⟨by omega, ?_⟩; rw [← hf2, hdn (by omega), resF_nil]; clear hf2 hf hdc hdn; simp_all [encs_append, encs_cons, encs_nil, ByteArray.append_assoc]; done))⟩, by omega, St.Le.of ⟨rfl, rfl, rfl, rfl, rfl, rfl, trivial⟩⟩
                    | exact ⟨i + 1, kk, acc, ⟨by first | omega | (simp only [ByteArray.size_append]; omega) | (have := encode_size ((runes s)[i]); simp only [ByteArray.size_append]; omega), by omega, by cases Nat.lt_or_ge i (runes s).length with | inl hlt => (first | (exfalso; omega) | (left; refine ⟨by omega, ?_⟩; rw [← hf2, hdc hlt, resF_cons]; clear hf2 hf hdc hdn; simp_all [encs_append, encs_cons, encs_nil, ByteArray.append_assoc]; done)) | inr hge => (first | (exfalso; omega) | (right; refine ⟨by omega, ?_⟩; rw [← hf2, hdn (by omega), resF_nil]; clear hf2 hf hdc hdn; simp_all [encs_append, encs_cons, encs_nil, ByteArray.append_assoc]; done))⟩, by omega, St.Le.of ⟨rfl, rfl, rfl, rfl, rfl, rfl, trivial⟩⟩
                · try simp only [nmL] at hc8
                  refine SCode.skip ?_
                  show SCode _ _ _ _
                  refine SCode.region ?_
                  refine SOps.move rfl ?_
                  refine SOps.addI rfl rfl (by first | omega | (simp only [lenB]; omega)) (by first | omega | (simp only [lenB]; omega)) ?_
                  refine SOps.assign rfl ?_
                  refine SOps.nil ?_
                  first
                    | (exfalso; omega)
                    | exact ⟨i + 1, kk + 1, acc ++ r.«to» ++ Utf8.encode ((runes s)[i]), ⟨by first | omega | (simp only [ByteArray.size_append]; omega) | (have := encode_size ((runes s)[i]); simp only [ByteArray.size_append]; omega), by omega, by cases Nat.lt_or_ge i (runes s).length with | inl hlt => (first | (exfalso; omega) | (left; refine ⟨by omega, ?_⟩; rw [← hf2, hdc hlt, resF_cons]; clear hf2 hf hdc hdn; simp_all [encs_append, encs_cons, encs_nil, ByteArray.append_assoc]; done)) | inr hge => (first | (exfalso; omega) | (right; refine ⟨by omega, ?_⟩; rw [← hf2, hdn (by omega), resF_nil]; clear hf2 hf hdc hdn; simp_all [encs_append, encs_cons, encs_nil, ByteArray.append_assoc]; done))⟩, by omega, St.Le.of ⟨rfl, rfl, rfl, rfl, rfl, rfl, trivial⟩⟩
                    | exact ⟨i + 1, kk + 1, acc ++ r.«to», ⟨by first | omega | (simp only [ByteArray.size_append]; omega) | (have := encode_size ((runes s)[i]); simp only [ByteArray.size_append]; omega), by omega, by cases Nat.lt_or_ge i (runes s).length with | inl hlt => (first | (exfalso; omega) | (left; refine ⟨by omega, ?_⟩; rw [← hf2, hdc hlt, resF_cons]; clear hf2 hf hdc hdn; simp_all [encs_append, encs_cons, encs_nil, ByteArray.append_assoc]; done)) | inr hge => (first | (exfalso; omega) | (right; refine ⟨by omega, ?_⟩; rw [← hf2, hdn (by omega), resF_nil]; clear hf2 hf hdc hdn; simp_all [encs_append, encs_cons, encs_nil, ByteArray.append_assoc]; done))⟩, by omega, St.Le.of ⟨rfl, rfl, rfl, rfl, rfl, rfl, trivial⟩⟩
                    | exact ⟨i + 1, kk, acc ++ Utf8.encode ((runes s)[i]), ⟨by first | omega | (simp only [ByteArray.size_append]; omega) | (have := encode_size ((runes s)[i]); simp only [ByteArray.size_append]; omega), by omega, by cases Nat.lt_or_ge i (runes s).length with | inl hlt => (first | (exfalso; omega) | (left; refine ⟨by omega, ?_⟩; rw [← hf2, hdc hlt, resF_cons]; clear hf2 hf hdc hdn; simp_all [encs_append, encs_cons, encs_nil, ByteArray.append_assoc]; done)) | inr hge => (first | (exfalso; omega) | (right; refine ⟨by omega, ?_⟩; rw [← hf2, hdn (by omega), resF_nil]; clear hf2 hf hdc hdn; simp_all [encs_append, encs_cons, encs_nil, ByteArray.append_assoc]; done))⟩, by omega, St.Le.of ⟨rfl, rfl, rfl, rfl, rfl, rfl, trivial⟩⟩
                    | exact ⟨i + 1, kk, acc, ⟨by first | omega | (simp only [ByteArray.size_append]; omega) | (have := encode_size ((runes s)[i]); simp only [ByteArray.size_append]; omega), by omega, by cases Nat.lt_or_ge i (runes s).length with | inl hlt => (first | (exfalso; omega) | (left; refine ⟨by omega, ?_⟩; rw [← hf2, hdc hlt, resF_cons]; clear hf2 hf hdc hdn; simp_all [encs_append, encs_cons, encs_nil, ByteArray.append_assoc]; done)) | inr hge => (first | (exfalso; omega) | (right; refine ⟨by omega, ?_⟩; rw [← hf2, hdn (by omega), resF_nil]; clear hf2 hf hdc hdn; simp_all [encs_append, encs_cons, encs_nil, ByteArray.append_assoc]; done))⟩, by omega, St.Le.of ⟨rfl, rfl, rfl, rfl, rfl, rfl, trivial⟩⟩
            · try simp only [nmL] at hb6
              refine SOps.skip rfl ?_
              refine SOps.skip rfl ?_
              refine SOps.skip rfl ?_
              refine SOps.skip rfl ?_
              refine SOps.skip rfl ?_
              refine SOps.skip rfl ?_
              refine SOps.skip rfl ?_
              refine SOps.pick rfl rfl ?_
              refine SOps.nil ?_
              refine SCode.cond rfl (fun h => by cases h) (fun _ => ?_)
              refine SCode.skip ?_
              show SCode _ _ _ _
              refine SCode.region ?_
              refine SOps.move rfl ?_
              refine SOps.addI rfl rfl (by first | omega | (simp only [lenB]; omega)) (by first | omega | (simp only [lenB]; omega)) ?_
              refine SOps.assign rfl ?_
              refine SOps.nil ?_
              first
                | (exfalso; omega)
                | exact ⟨i + 1, kk + 1, acc ++ r.«to» ++ Utf8.encode ((runes s)[i]), ⟨by first | omega | (simp only [ByteArray.size_append]; omega) | (have := encode_size ((runes s)[i]); simp only [ByteArray.size_append]; omega), by omega, by cases Nat.lt_or_ge i (runes s).length with | inl hlt => (first | (exfalso; omega) | (left; refine ⟨by omega, ?_⟩; rw [← hf2, hdc hlt, resF_cons]; clear hf2 hf hdc hdn; simp_all [encs_append, encs_cons, encs_nil, ByteArray.append_assoc]; done)) | inr hge => (first | (exfalso; omega) | (right; refine ⟨by omega, ?_⟩; rw [← hf2, hdn (by omega), resF_nil]; clear hf2 hf hdc hdn; simp_all [encs_append, encs_cons, encs_nil, ByteArray.append_assoc]; done))⟩, by omega, St.Le.of ⟨rfl, rfl, rfl, rfl, rfl, rfl, trivial⟩⟩
                | exact ⟨i + 1, kk + 1, acc ++ r.«to», ⟨by first | omega | (simp only [ByteArray.size_append]; omega) | (have := encode_size ((runes s)[i]); simp only [ByteArray.size_append]; omega), by omega, by cases Nat.lt_or_ge i (runes s).length with | inl hlt => (first | (exfalso; omega) | (left; refine ⟨by omega, ?_⟩; rw [← hf2, hdc hlt, resF_cons]; clear hf2 hf hdc hdn; simp_all [encs_append, encs_cons, encs_nil, ByteArray.append_assoc]; done)) | inr hge => (first | (exfalso; omega) | (right; refine ⟨by omega, ?_⟩; rw [← hf2, hdn (by omega), resF_nil]; clear hf2 hf hdc hdn; simp_all [encs_append, encs_cons, encs_nil, ByteArray.append_assoc]; done))⟩, by omega, St.Le.of ⟨rfl, rfl, rfl, rfl, rfl, rfl, trivial⟩⟩
                | exact ⟨i + 1, kk, acc ++ Utf8.encode ((runes s)[i]), ⟨by first | omega | (simp only [ByteArray.size_append]; omega) | (have := encode_size ((runes s)[i]); simp only [ByteArray.size_append]; omega), by omega, by cases Nat.lt_or_ge i (runes s).length with | inl hlt => (first | (exfalso; omega) | (left; refine ⟨by omega, ?_⟩; rw [← hf2, hdc hlt, resF_cons]; clear hf2 hf hdc hdn; simp_all [encs_append, encs_cons, encs_nil, ByteArray.append_assoc]; done)) | inr hge => (first | (exfalso; omega) | (right; refine ⟨by omega, ?_⟩; rw [← hf2, hdn (by omega), resF_nil]; clear hf2 hf hdc hdn; simp_all [encs_append, encs_cons, encs_nil, ByteArray.append_assoc]; done))⟩, by omega, St.Le.of ⟨rfl, rfl, rfl, rfl, rfl, rfl, trivial⟩⟩
                | exact ⟨i + 1, kk, acc, ⟨by first | omega | (simp only [ByteArray.size_append]; omega) | (have := encode_size ((runes s)[i]); simp only [ByteArray.size_append]; omega), by omega, by cases Nat.lt_or_ge i (runes s).length with | inl hlt => (first | (exfalso; omega) | (left; refine ⟨by omega, ?_⟩; rw [← hf2, hdc hlt, resF_cons]; clear hf2 hf hdc hdn; simp_all [encs_append, encs_cons, encs_nil, ByteArray.append_assoc]; done)) | inr hge => (first | (exfalso; omega) | (right; refine ⟨by omega, ?_⟩; rw [← hf2, hdn (by omega), resF_nil]; clear hf2 hf hdc hdn; simp_all [encs_append, encs_cons, encs_nil, ByteArray.append_assoc]; done))⟩, by omega, St.Le.of ⟨rfl, rfl, rfl, rfl, rfl, rfl, trivial⟩⟩
          · try simp only [nmL] at hc5
            have hs0 : ¬ (sitesQ a r s)[kk] = i := fun h => hc5 (by rw [← h])
            refine SCode.skip ?_
            show SCode _ _ _ _
            refine SCode.seqR ?_
            refine SOps.move rfl ?_
            refine SOps.move rfl ?_
            refine SOps.lenM rfl sliceB_84_21_1 ?_
            refine SOps.bin rfl rfl rfl ?_
            refine SOps.move rfl ?_
            refine SOps.caseB 59 rfl (fun hb9 => ?_) (fun hb9 => ?_)
            · try simp only [nmL] at hb9
              refine SOps.move rfl ?_
              refine SOps.un rfl rfl ?_
              refine SOps.move rfl ?_
              refine SOps.caseB 62 rfl (fun hb10 => ?_) (fun hb10 => ?_)
              · try simp only [nmL] at hb10
                refine SOps.skip rfl ?_
                refine SOps.skip rfl ?_
                refine SOps.skip rfl ?_
                refine SOps.pick rfl rfl ?_
                refine SOps.pick rfl rfl ?_
                refine SOps.nil ?_
                refine SCode.cond rfl (fun _ => ?_) (fun h => by cases h)
                refine SCode.region ?_
                refine SOps.move rfl ?_
                refine SOps.move rfl ?_
                refine SOps.move rfl ?_
                refine SOps.indexM (i) rfl rfl sliceB_84_21_1 (by first | omega | (simp only [lenB]; omega)) (by first | omega | (simp only [lenB]; omega)) ?_
                refine SOps.loadPin rfl flatB_21 ?_
                refine SOps.convIntStr rfl someB_21 strB_9 ?_
                refine SOps.concat rfl rfl (by simp only [lenB, ByteArray.size_append]; first | omega | (have := encode_size ((runes s)[i]); omega)) ?_
                refine SOps.assign rfl ?_
                refine SOps.nil ?_
                show SCode _ _ _ _
                refine SCode.region ?_
                refine SOps.move rfl ?_
                refine SOps.addI rfl rfl (by first | omega | (simp only [lenB]; omega)) (by first | omega | (simp only [lenB]; omega)) ?_
                refine SOps.assign rfl ?_
                refine SOps.nil ?_
                first
                  | (exfalso; omega)
                  | exact ⟨i + 1, kk + 1, acc ++ r.«to» ++ Utf8.encode ((runes s)[i]), ⟨by first | omega | (simp only [ByteArray.size_append]; omega) | (have := encode_size ((runes s)[i]); simp only [ByteArray.size_append]; omega), by omega, by cases Nat.lt_or_ge i (runes s).length with | inl hlt => (first | (exfalso; omega) | (left; refine ⟨by omega, ?_⟩; rw [← hf2, hdc hlt, resF_cons]; clear hf2 hf hdc hdn; simp_all [encs_append, encs_cons, encs_nil, ByteArray.append_assoc]; done)) | inr hge => (first | (exfalso; omega) | (right; refine ⟨by omega, ?_⟩; rw [← hf2, hdn (by omega), resF_nil]; clear hf2 hf hdc hdn; simp_all [encs_append, encs_cons, encs_nil, ByteArray.append_assoc]; done))⟩, by omega, St.Le.of ⟨rfl, rfl, rfl, rfl, rfl, rfl, trivial⟩⟩
                  | exact ⟨i + 1, kk + 1, acc ++ r.«to», ⟨by first | omega | (simp only [ByteArray.size_append]; omega) | (have := encode_size ((runes s)[i]); simp only [ByteArray.size_append]; omega), by omega, by cases Nat.lt_or_ge i (runes s).length with | inl hlt => (first | (exfalso; omega) | (left; refine ⟨by omega, ?_⟩; rw [← hf2, hdc hlt, resF_cons]; clear hf2 hf hdc hdn; simp_all [encs_append, encs_cons, encs_nil, ByteArray.append_assoc]; done)) | inr hge => (first | (exfalso; omega) | (right; refine ⟨by omega, ?_⟩; rw [← hf2, hdn (by omega), resF_nil]; clear hf2 hf hdc hdn; simp_all [encs_append, encs_cons, encs_nil, ByteArray.append_assoc]; done))⟩, by omega, St.Le.of ⟨rfl, rfl, rfl, rfl, rfl, rfl, trivial⟩⟩
                  | exact ⟨i + 1, kk, acc ++ Utf8.encode ((runes s)[i]), ⟨by first | omega | (simp only [ByteArray.size_append]; omega) | (have := encode_size ((runes s)[i]); simp only [ByteArray.size_append]; omega), by omega, by cases Nat.lt_or_ge i (runes s).length with | inl hlt => (first | (exfalso; omega) | (left; refine ⟨by omega, ?_⟩; rw [← hf2, hdc hlt, resF_cons]; clear hf2 hf hdc hdn; simp_all [encs_append, encs_cons, encs_nil, ByteArray.append_assoc]; done)) | inr hge => (first | (exfalso; omega) | (right; refine ⟨by omega, ?_⟩; rw [← hf2, hdn (by omega), resF_nil]; clear hf2 hf hdc hdn; simp_all [encs_append, encs_cons, encs_nil, ByteArray.append_assoc]; done))⟩, by omega, St.Le.of ⟨rfl, rfl, rfl, rfl, rfl, rfl, trivial⟩⟩
                  | exact ⟨i + 1, kk, acc, ⟨by first | omega | (simp only [ByteArray.size_append]; omega) | (have := encode_size ((runes s)[i]); simp only [ByteArray.size_append]; omega), by omega, by cases Nat.lt_or_ge i (runes s).length with | inl hlt => (first | (exfalso; omega) | (left; refine ⟨by omega, ?_⟩; rw [← hf2, hdc hlt, resF_cons]; clear hf2 hf hdc hdn; simp_all [encs_append, encs_cons, encs_nil, ByteArray.append_assoc]; done)) | inr hge => (first | (exfalso; omega) | (right; refine ⟨by omega, ?_⟩; rw [← hf2, hdn (by omega), resF_nil]; clear hf2 hf hdc hdn; simp_all [encs_append, encs_cons, encs_nil, ByteArray.append_assoc]; done))⟩, by omega, St.Le.of ⟨rfl, rfl, rfl, rfl, rfl, rfl, trivial⟩⟩
              · try simp only [nmL] at hb10
                refine SOps.fieldPin rfl fieldB_47_0_0 ?_
                refine SOps.loadPin rfl flatB_21 ?_
                refine SOps.bin rfl rfl rfl ?_
                refine SOps.pick rfl rfl ?_
                refine SOps.pick rfl rfl ?_
                refine SOps.nil ?_
                refine SCode.cond rfl (fun hc11 => ?_) (fun hc11 => ?_)
                · try simp only [nmL] at hc11
                  refine SCode.region ?_
                  refine SOps.move rfl ?_
                  refine SOps.move rfl ?_
                  refine SOps.move rfl ?_
                  refine SOps.indexM (i) rfl rfl sliceB_84_21_1 (by first | omega | (simp only [lenB]; omega)) (by first | omega | (simp only [lenB]; omega)) ?_
                  refine SOps.loadPin rfl flatB_21 ?_
                  refine SOps.convIntStr rfl someB_21 strB_9 ?_
                  refine SOps.concat rfl rfl (by simp only [lenB, ByteArray.size_append]; first | omega | (have := encode_size ((runes s)[i]); omega)) ?_
                  refine SOps.assign rfl ?_
                  refine SOps.nil ?_
                  show SCode _ _ _ _
                  refine SCode.region ?_
                  refine SOps.move rfl ?_
                  refine SOps.addI rfl rfl (by first | omega | (simp only [lenB]; omega)) (by first | omega | (simp only [lenB]; omega)) ?_
                  refine SOps.assign rfl ?_
                  refine SOps.nil ?_
                  first
                    | (exfalso; omega)
                    | exact ⟨i + 1, kk + 1, acc ++ r.«to» ++ Utf8.encode ((runes s)[i]), ⟨by first | omega | (simp only [ByteArray.size_append]; omega) | (have := encode_size ((runes s)[i]); simp only [ByteArray.size_append]; omega), by omega, by cases Nat.lt_or_ge i (runes s).length with | inl hlt => (first | (exfalso; omega) | (left; refine ⟨by omega, ?_⟩; rw [← hf2, hdc hlt, resF_cons]; clear hf2 hf hdc hdn; simp_all [encs_append, encs_cons, encs_nil, ByteArray.append_assoc]; done)) | inr hge => (first | (exfalso; omega) | (right; refine ⟨by omega, ?_⟩; rw [← hf2, hdn (by omega), resF_nil]; clear hf2 hf hdc hdn; simp_all [encs_append, encs_cons, encs_nil, ByteArray.append_assoc]; done))⟩, by omega, St.Le.of ⟨rfl, rfl, rfl, rfl, rfl, rfl, trivial⟩⟩
                    | exact ⟨i + 1, kk + 1, acc ++ r.«to», ⟨by first | omega | (simp only [ByteArray.size_append]; omega) | (have := encode_size ((runes s)[i]); simp only [ByteArray.size_append]; omega), by omega, by cases Nat.lt_or_ge i (runes s).length with | inl hlt => (first | (exfalso; omega) | (left; refine ⟨by omega, ?_⟩; rw [← hf2, hdc hlt, resF_cons]; clear hf2 hf hdc hdn; simp_all [encs_append, encs_cons, encs_nil, ByteArray.append_assoc]; done)) | inr hge => (first | (exfalso; omega) | (right; refine ⟨by omega, ?_⟩; rw [← hf2, hdn (by omega), resF_nil]; clear hf2 hf hdc hdn; simp_all [encs_append, encs_cons, encs_nil, ByteArray.append_assoc]; done))⟩, by omega, St.Le.of ⟨rfl, rfl, rfl, rfl, rfl, rfl, trivial⟩⟩
                    | exact ⟨i + 1, kk, acc ++ Utf8.encode ((runes s)[i]), ⟨by first | omega | (simp only [ByteArray.size_append]; omega) | (have := encode_size ((runes s)[i]); simp only [ByteArray.size_append]; omega), by omega, by cases Nat.lt_or_ge i (runes s).length with | inl hlt => (first | (exfalso; omega) | (left; refine ⟨by omega, ?_⟩; rw [← hf2, hdc hlt, resF_cons]; clear hf2 hf hdc hdn; simp_all [encs_append, encs_cons, encs_nil, ByteArray.append_assoc]; done)) | inr hge => (first | (exfalso; omega) | (right; refine ⟨by omega, ?_⟩; rw [← hf2, hdn (by omega), resF_nil]; clear hf2 hf hdc hdn; simp_all [encs_append, encs_cons, encs_nil, ByteArray.append_assoc]; done))⟩, by omega, St.Le.of ⟨rfl, rfl, rfl, rfl, rfl, rfl, trivial⟩⟩
                    | exact ⟨i + 1, kk, acc, ⟨by first | omega | (simp only [ByteArray.size_append]; omega) | (have := encode_size ((runes s)[i]); simp only [ByteArray.size_append]; omega), by omega, by cases Nat.lt_or_ge i (runes s).length with | inl hlt => (first | (exfalso; omega) | (left; refine ⟨by omega, ?_⟩; rw [← hf2, hdc hlt, resF_cons]; clear hf2 hf hdc hdn; simp_all [encs_append, encs_cons, encs_nil, ByteArray.append_assoc]; done)) | inr hge => (first | (exfalso; omega) | (right; refine ⟨by omega, ?_⟩; rw [← hf2, hdn (by omega), resF_nil]; clear hf2 hf hdc hdn; simp_all [encs_append, encs_cons, encs_nil, ByteArray.append_assoc]; done))⟩, by omega, St.Le.of ⟨rfl, rfl, rfl, rfl, rfl, rfl, trivial⟩⟩
                · try simp only [nmL] at hc11
                  refine SCode.skip ?_
                  show SCode _ _ _ _
                  refine SCode.region ?_
                  refine SOps.move rfl ?_
                  refine SOps.addI rfl rfl (by first | omega | (simp only [lenB]; omega)) (by first | omega | (simp only [lenB]; omega)) ?_
                  refine SOps.assign rfl ?_
                  refine SOps.nil ?_
                  first
                    | (exfalso; omega)
                    | exact ⟨i + 1, kk + 1, acc ++ r.«to» ++ Utf8.encode ((runes s)[i]), ⟨by first | omega | (simp only [ByteArray.size_append]; omega) | (have := encode_size ((runes s)[i]); simp only [ByteArray.size_append]; omega), by omega, by cases Nat.lt_or_ge i (runes s).length with | inl hlt => (first | (exfalso; omega) | (left; refine ⟨by omega, ?_⟩; rw [← hf2, hdc hlt, resF_cons]; clear hf2 hf hdc hdn; simp_all [encs_append, encs_cons, encs_nil, ByteArray.append_assoc]; done)) | inr hge => (first | (exfalso; omega) | (right; refine ⟨by omega, ?_⟩; rw [← hf2, hdn (by omega), resF_nil]; clear hf2 hf hdc hdn; simp_all [encs_append, encs_cons, encs_nil, ByteArray.append_assoc]; done))⟩, by omega, St.Le.of ⟨rfl, rfl, rfl, rfl, rfl, rfl, trivial⟩⟩
                    | exact ⟨i + 1, kk + 1, acc ++ r.«to», ⟨by first | omega | (simp only [ByteArray.size_append]; omega) | (have := encode_size ((runes s)[i]); simp only [ByteArray.size_append]; omega), by omega, by cases Nat.lt_or_ge i (runes s).length with | inl hlt => (first | (exfalso; omega) | (left; refine ⟨by omega, ?_⟩; rw [← hf2, hdc hlt, resF_cons]; clear hf2 hf hdc hdn; simp_all [encs_append, encs_cons, encs_nil, ByteArray.append_assoc]; done)) | inr hge => (first | (exfalso; omega) | (right; refine ⟨by omega, ?_⟩; rw [← hf2, hdn (by omega), resF_nil]; clear hf2 hf hdc hdn; simp_all [encs_append, encs_cons, encs_nil, ByteArray.append_assoc]; done))⟩, by omega, St.Le.of ⟨rfl, rfl, rfl, rfl, rfl, rfl, trivial⟩⟩
                    | exact ⟨i + 1, kk, acc ++ Utf8.encode ((runes s)[i]), ⟨by first | omega | (simp only [ByteArray.size_append]; omega) | (have := encode_size ((runes s)[i]); simp only [ByteArray.size_append]; omega), by omega, by cases Nat.lt_or_ge i (runes s).length with | inl hlt => (first | (exfalso; omega) | (left; refine ⟨by omega, ?_⟩; rw [← hf2, hdc hlt, resF_cons]; clear hf2 hf hdc hdn; simp_all [encs_append, encs_cons, encs_nil, ByteArray.append_assoc]; done)) | inr hge => (first | (exfalso; omega) | (right; refine ⟨by omega, ?_⟩; rw [← hf2, hdn (by omega), resF_nil]; clear hf2 hf hdc hdn; simp_all [encs_append, encs_cons, encs_nil, ByteArray.append_assoc]; done))⟩, by omega, St.Le.of ⟨rfl, rfl, rfl, rfl, rfl, rfl, trivial⟩⟩
                    | exact ⟨i + 1, kk, acc, ⟨by first | omega | (simp only [ByteArray.size_append]; omega) | (have := encode_size ((runes s)[i]); simp only [ByteArray.size_append]; omega), by omega, by cases Nat.lt_or_ge i (runes s).length with | inl hlt => (first | (exfalso; omega) | (left; refine ⟨by omega, ?_⟩; rw [← hf2, hdc hlt, resF_cons]; clear hf2 hf hdc hdn; simp_all [encs_append, encs_cons, encs_nil, ByteArray.append_assoc]; done)) | inr hge => (first | (exfalso; omega) | (right; refine ⟨by omega, ?_⟩; rw [← hf2, hdn (by omega), resF_nil]; clear hf2 hf hdc hdn; simp_all [encs_append, encs_cons, encs_nil, ByteArray.append_assoc]; done))⟩, by omega, St.Le.of ⟨rfl, rfl, rfl, rfl, rfl, rfl, trivial⟩⟩
            · try simp only [nmL] at hb9
              refine SOps.skip rfl ?_
              refine SOps.skip rfl ?_
              refine SOps.skip rfl ?_
              refine SOps.skip rfl ?_
              refine SOps.skip rfl ?_
              refine SOps.skip rfl ?_
              refine SOps.skip rfl ?_
              refine SOps.pick rfl rfl ?_
              refine SOps.nil ?_
              refine SCode.cond rfl (fun h => by cases h) (fun _ => ?_)
              refine SCode.skip ?_
              show SCode _ _ _ _
              refine SCode.region ?_
              refine SOps.move rfl ?_
              refine SOps.addI rfl rfl (by first | omega | (simp only [lenB]; omega)) (by first | omega | (simp only [lenB]; omega)) ?_
              refine SOps.assign rfl ?_
              refine SOps.nil ?_
              first
                | (exfalso; omega)
                | exact ⟨i + 1, kk + 1, acc ++ r.«to» ++ Utf8.encode ((runes s)[i]), ⟨by first | omega | (simp only [ByteArray.size_append]; omega) | (have := encode_size ((runes s)[i]); simp only [ByteArray.size_append]; omega), by omega, by cases Nat.lt_or_ge i (runes s).length with | inl hlt => (first | (exfalso; omega) | (left; refine ⟨by omega, ?_⟩; rw [← hf2, hdc hlt, resF_cons]; clear hf2 hf hdc hdn; simp_all [encs_append, encs_cons, encs_nil, ByteArray.append_assoc]; done)) | inr hge => (first | (exfalso; omega) | (right; refine ⟨by omega, ?_⟩; rw [← hf2, hdn (by omega), resF_nil]; clear hf2 hf hdc hdn; simp_all [encs_append, encs_cons, encs_nil, ByteArray.append_assoc]; done))⟩, by omega, St.Le.of ⟨rfl, rfl, rfl, rfl, rfl, rfl, trivial⟩⟩
                | exact ⟨i + 1, kk + 1, acc ++ r.«to», ⟨by first | omega | (simp only [ByteArray.size_append]; omega) | (have := encode_size ((runes s)[i]); simp only [ByteArray.size_append]; omega), by omega, by cases Nat.lt_or_ge i (runes s).length with | inl hlt => (first | (exfalso; omega) | (left; refine ⟨by omega, ?_⟩; rw [← hf2, hdc hlt, resF_cons]; clear hf2 hf hdc hdn; simp_all [encs_append, encs_cons, encs_nil, ByteArray.append_assoc]; done)) | inr hge => (first | (exfalso; omega) | (right; refine ⟨by omega, ?_⟩; rw [← hf2, hdn (by omega), resF_nil]; clear hf2 hf hdc hdn; simp_all [encs_append, encs_cons, encs_nil, ByteArray.append_assoc]; done))⟩, by omega, St.Le.of ⟨rfl, rfl, rfl, rfl, rfl, rfl, trivial⟩⟩
                | exact ⟨i + 1, kk, acc ++ Utf8.encode ((runes s)[i]), ⟨by first | omega | (simp only [ByteArray.size_append]; omega) | (have := encode_size ((runes s)[i]); simp only [ByteArray.size_append]; omega), by omega, by cases Nat.lt_or_ge i (runes s).length with | inl hlt => (first | (exfalso; omega) | (left; refine ⟨by omega, ?_⟩; rw [← hf2, hdc hlt, resF_cons]; clear hf2 hf hdc hdn; simp_all [encs_append, encs_cons, encs_nil, ByteArray.append_assoc]; done)) | inr hge => (first | (exfalso; omega) | (right; refine ⟨by omega, ?_⟩; rw [← hf2, hdn (by omega), resF_nil]; clear hf2 hf hdc hdn; simp_all [encs_append, encs_cons, encs_nil, ByteArray.append_assoc]; done))⟩, by omega, St.Le.of ⟨rfl, rfl, rfl, rfl, rfl, rfl, trivial⟩⟩
                | exact ⟨i + 1, kk, acc, ⟨by first | omega | (simp only [ByteArray.size_append]; omega) | (have := encode_size ((runes s)[i]); simp only [ByteArray.size_append]; omega), by omega, by cases Nat.lt_or_ge i (runes s).length with | inl hlt => (first | (exfalso; omega) | (left; refine ⟨by omega, ?_⟩; rw [← hf2, hdc hlt, resF_cons]; clear hf2 hf hdc hdn; simp_all [encs_append, encs_cons, encs_nil, ByteArray.append_assoc]; done)) | inr hge => (first | (exfalso; omega) | (right; refine ⟨by omega, ?_⟩; rw [← hf2, hdn (by omega), resF_nil]; clear hf2 hf hdc hdn; simp_all [encs_append, encs_cons, encs_nil, ByteArray.append_assoc]; done))⟩, by omega, St.Le.of ⟨rfl, rfl, rfl, rfl, rfl, rfl, trivial⟩⟩
        · try simp only [nmL] at hb4
          have hkd : (sitesQ a r s).drop kk = [] := List.drop_eq_nil_of_le (by omega)
          refine SOps.skip rfl ?_
          refine SOps.skip rfl ?_
          refine SOps.skip rfl ?_
          refine SOps.skip rfl ?_
          refine SOps.skip rfl ?_
          refine SOps.skip rfl ?_
          refine SOps.pick rfl rfl ?_
          refine SOps.assign rfl ?_
          refine SOps.nil ?_
          refine SCode.seq ?_
          refine SCode.seqR ?_
          refine SOps.move rfl ?_
          refine SOps.nil ?_
          refine SCode.cond rfl (fun h => by cases h) (fun _ => ?_)
          refine SCode.skip ?_
          show SCode _ _ _ _
          refine SCode.seqR ?_
          refine SOps.move rfl ?_
          refine SOps.move rfl ?_
          refine SOps.lenM rfl sliceB_84_21_1 ?_
          refine SOps.bin rfl rfl rfl ?_
          refine SOps.move rfl ?_
          refine SOps.caseB 59 rfl (fun hb12 => ?_) (fun hb12 => ?_)
          · try simp only [nmL] at hb12
            refine SOps.move rfl ?_
            refine SOps.un rfl rfl ?_
            refine SOps.move rfl ?_
            refine SOps.skip rfl ?_
            refine SOps.skip rfl ?_
            refine SOps.skip rfl ?_
            refine SOps.pick rfl rfl ?_
            refine SOps.pick rfl rfl ?_
            refine SOps.nil ?_
            refine SCode.cond rfl (fun _ => ?_) (fun h => by cases h)
            refine SCode.region ?_
            refine SOps.move rfl ?_
            refine SOps.move rfl ?_
            refine SOps.move rfl ?_
            refine SOps.indexM (i) rfl rfl sliceB_84_21_1 (by first | omega | (simp only [lenB]; omega)) (by first | omega | (simp only [lenB]; omega)) ?_
            refine SOps.loadPin rfl flatB_21 ?_
            refine SOps.convIntStr rfl someB_21 strB_9 ?_
            refine SOps.concat rfl rfl (by simp only [lenB, ByteArray.size_append]; first | omega | (have := encode_size ((runes s)[i]); omega)) ?_
            refine SOps.assign rfl ?_
            refine SOps.nil ?_
            show SCode _ _ _ _
            refine SCode.region ?_
            refine SOps.move rfl ?_
            refine SOps.addI rfl rfl (by first | omega | (simp only [lenB]; omega)) (by first | omega | (simp only [lenB]; omega)) ?_
            refine SOps.assign rfl ?_
            refine SOps.nil ?_
            first
              | (exfalso; omega)
              | exact ⟨i + 1, kk + 1, acc ++ r.«to» ++ Utf8.encode ((runes s)[i]), ⟨by first | omega | (simp only [ByteArray.size_append]; omega) | (have := encode_size ((runes s)[i]); simp only [ByteArray.size_append]; omega), by omega, by cases Nat.lt_or_ge i (runes s).length with | inl hlt => (first | (exfalso; omega) | (left; refine ⟨by omega, ?_⟩; rw [← hf2, hdc hlt, resF_cons]; clear hf2 hf hdc hdn; simp_all [encs_append, encs_cons, encs_nil, ByteArray.append_assoc]; done)) | inr hge => (first | (exfalso; omega) | (right; refine ⟨by omega, ?_⟩; rw [← hf2, hdn (by omega), resF_nil]; clear hf2 hf hdc hdn; simp_all [encs_append, encs_cons, encs_nil, ByteArray.append_assoc]; done))⟩, by omega, St.Le.of ⟨rfl, rfl, rfl, rfl, rfl, rfl, trivial⟩⟩
              | exact ⟨i + 1, kk + 1, acc ++ r.«to», ⟨by first | omega | (simp only [ByteArray.size_append]; omega) | (have := encode_size ((runes s)[i]); simp only [ByteArray.size_append]; omega), by omega, by cases Nat.lt_or_ge i (runes s).length with | inl hlt => (first | (exfalso; omega) | (left; refine ⟨by omega, ?_⟩; rw [← hf2, hdc hlt, resF_cons]; clear hf2 hf hdc hdn; simp_all [encs_append, encs_cons, encs_nil, ByteArray.append_assoc]; done)) | inr hge => (first | (exfalso; omega) | (right; refine ⟨by omega, ?_⟩; rw [← hf2, hdn (by omega), resF_nil]; clear hf2 hf hdc hdn; simp_all [encs_append, encs_cons, encs_nil, ByteArray.append_assoc]; done))⟩, by omega, St.Le.of ⟨rfl, rfl, rfl, rfl, rfl, rfl, trivial⟩⟩
              | exact ⟨i + 1, kk, acc ++ Utf8.encode ((runes s)[i]), ⟨by first | omega | (simp only [ByteArray.size_append]; omega) | (have := encode_size ((runes s)[i]); simp only [ByteArray.size_append]; omega), by omega, by cases Nat.lt_or_ge i (runes s).length with | inl hlt => (first | (exfalso; omega) | (left; refine ⟨by omega, ?_⟩; rw [← hf2, hdc hlt, resF_cons]; clear hf2 hf hdc hdn; simp_all [encs_append, encs_cons, encs_nil, ByteArray.append_assoc]; done)) | inr hge => (first | (exfalso; omega) | (right; refine ⟨by omega, ?_⟩; rw [← hf2, hdn (by omega), resF_nil]; clear hf2 hf hdc hdn; simp_all [encs_append, encs_cons, encs_nil, ByteArray.append_assoc]; done))⟩, by omega, St.Le.of ⟨rfl, rfl, rfl, rfl, rfl, rfl, trivial⟩⟩
              | exact ⟨i + 1, kk, acc, ⟨by first | omega | (simp only [ByteArray.size_append]; omega) | (have := encode_size ((runes s)[i]); simp only [ByteArray.size_append]; omega), by omega, by cases Nat.lt_or_ge i (runes s).length with | inl hlt => (first | (exfalso; omega) | (left; refine ⟨by omega, ?_⟩; rw [← hf2, hdc hlt, resF_cons]; clear hf2 hf hdc hdn; simp_all [encs_append, encs_cons, encs_nil, ByteArray.append_assoc]; done)) | inr hge => (first | (exfalso; omega) | (right; refine ⟨by omega, ?_⟩; rw [← hf2, hdn (by omega), resF_nil]; clear hf2 hf hdc hdn; simp_all [encs_append, encs_cons, encs_nil, ByteArray.append_assoc]; done))⟩, by omega, St.Le.of ⟨rfl, rfl, rfl, rfl, rfl, rfl, trivial⟩⟩
          · try simp only [nmL] at hb12
            refine SOps.skip rfl ?_
            refine SOps.skip rfl ?_
            refine SOps.skip rfl ?_
            refine SOps.skip rfl ?_
            refine SOps.skip rfl ?_
            refine SOps.skip rfl ?_
            refine SOps.skip rfl ?_
            refine SOps.pick rfl rfl ?_
            refine SOps.nil ?_
            refine SCode.cond rfl (fun h => by cases h) (fun _ => ?_)
            refine SCode.skip ?_
            show SCode _ _ _ _
            refine SCode.region ?_
            refine SOps.move rfl ?_
            refine SOps.addI rfl rfl (by first | omega | (simp only [lenB]; omega)) (by first | omega | (simp only [lenB]; omega)) ?_
            refine SOps.assign rfl ?_
            refine SOps.nil ?_
            first
              | (exfalso; omega)
              | exact ⟨i + 1, kk + 1, acc ++ r.«to» ++ Utf8.encode ((runes s)[i]), ⟨by first | omega | (simp only [ByteArray.size_append]; omega) | (have := encode_size ((runes s)[i]); simp only [ByteArray.size_append]; omega), by omega, by cases Nat.lt_or_ge i (runes s).length with | inl hlt => (first | (exfalso; omega) | (left; refine ⟨by omega, ?_⟩; rw [← hf2, hdc hlt, resF_cons]; clear hf2 hf hdc hdn; simp_all [encs_append, encs_cons, encs_nil, ByteArray.append_assoc]; done)) | inr hge => (first | (exfalso; omega) | (right; refine ⟨by omega, ?_⟩; rw [← hf2, hdn (by omega), resF_nil]; clear hf2 hf hdc hdn; simp_all [encs_append, encs_cons, encs_nil, ByteArray.append_assoc]; done))⟩, by omega, St.Le.of ⟨rfl, rfl, rfl, rfl, rfl, rfl, trivial⟩⟩
              | exact ⟨i + 1, kk + 1, acc ++ r.«to», ⟨by first | omega | (simp only [ByteArray.size_append]; omega) | (have := encode_size ((runes s)[i]); simp only [ByteArray.size_append]; omega), by omega, by cases Nat.lt_or_ge i (runes s).length with | inl hlt => (first | (exfalso; omega) | (left; refine ⟨by omega, ?_⟩; rw [← hf2, hdc hlt, resF_cons]; clear hf2 hf hdc hdn; simp_all [encs_append, encs_cons, encs_nil, ByteArray.append_assoc]; done)) | inr hge => (first | (exfalso; omega) | (right; refine ⟨by omega, ?_⟩; rw [← hf2, hdn (by omega), resF_nil]; clear hf2 hf hdc hdn; simp_all [encs_append, encs_cons, encs_nil, ByteArray.append_assoc]; done))⟩, by omega, St.Le.of ⟨rfl, rfl, rfl, rfl, rfl, rfl, trivial⟩⟩
              | exact ⟨i + 1, kk, acc ++ Utf8.encode ((runes s)[i]), ⟨by first | omega | (simp only [ByteArray.size_append]; omega) | (have := encode_size ((runes s)[i]); simp only [ByteArray.size_append]; omega), by omega, by cases Nat.lt_or_ge i (runes s).length with | inl hlt => (first | (exfalso; omega) | (left; refine ⟨by omega, ?_⟩; rw [← hf2, hdc hlt, resF_cons]; clear hf2 hf hdc hdn; simp_all [encs_append, encs_cons, encs_nil, ByteArray.append_assoc]; done)) | inr hge => (first | (exfalso; omega) | (right; refine ⟨by omega, ?_⟩; rw [← hf2, hdn (by omega), resF_nil]; clear hf2 hf hdc hdn; simp_all [encs_append, encs_cons, encs_nil, ByteArray.append_assoc]; done))⟩, by omega, St.Le.of ⟨rfl, rfl, rfl, rfl, rfl, rfl, trivial⟩⟩
              | exact ⟨i + 1, kk, acc, ⟨by first | omega | (simp only [ByteArray.size_append]; omega) | (have := encode_size ((runes s)[i]); simp only [ByteArray.size_append]; omega), by omega, by cases Nat.lt_or_ge i (runes s).length with | inl hlt => (first | (exfalso; omega) | (left; refine ⟨by omega, ?_⟩; rw [← hf2, hdc hlt, resF_cons]; clear hf2 hf hdc hdn; simp_all [encs_append, encs_cons, encs_nil, ByteArray.append_assoc]; done)) | inr hge => (first | (exfalso; omega) | (right; refine ⟨by omega, ?_⟩; rw [← hf2, hdn (by omega), resF_nil]; clear hf2 hf hdc hdn; simp_all [encs_append, encs_cons, encs_nil, ByteArray.append_assoc]; done))⟩, by omega, St.Le.of ⟨rfl, rfl, rfl, rfl, rfl, rfl, trivial⟩⟩
      · try simp only [nmL] at hc3
        refine SCode.exit ?_
        show SCode _ _ _ _
        refine SCode.seq ?_
        refine SCode.seqR ?_
        obtain ⟨_, rfl⟩ := hf.resolve_left (by omega)
        refine SOps.move rfl ?_
        refine SOps.runesF rfl rfl strB_9 sliceB_84_21_1 intB_21_i32 ?_
        refine SOps.lenM rfl sliceB_84_21_1 ?_
        refine SOps.bin rfl rfl rfl ?_
        refine SOps.nil ?_
        refine SCode.cond rfl (fun hc13 => ?_) (fun hc13 => ?_)
        · try simp only [nmL] at hc13
          refine SCode.seqR ?_
          refine SOps.assign rfl ?_
          refine SOps.assign rfl ?_
          refine SOps.nil ?_
          refine SCode.ret ?_
          exact ⟨_, Res.two (.tmp rfl) (.tmp rfl), (by unfold applyQ resX; first | (rw [if_neg (by simp_all [okR])]; rfl) | (rw [if_pos hok, if_pos (by omega)]; rfl) | (rw [if_pos hok, if_neg (by omega)]; rfl)), rfl⟩
        · try simp only [nmL] at hc13
          refine SCode.skip ?_
          show SCode _ _ _ _
          refine SCode.seqR ?_
          refine SOps.move rfl ?_
          refine SOps.assign rfl ?_
          refine SOps.assign rfl ?_
          refine SOps.nil ?_
          refine SCode.ret ?_
          exact ⟨_, Res.two (.tmp rfl) (.tmp rfl), (by unfold applyQ resX; first | (rw [if_neg (by simp_all [okR])]; rfl) | (rw [if_pos hok, if_pos (by omega)]; rfl) | (rw [if_pos hok, if_neg (by omega)]; rfl)), rfl⟩
def trF (ap : Rule → ByteArray → ByteArray × Int) : List Rule → List ByteArray → ByteArray → List ByteArray × Int
  | [], out, _ => (out, 0)
  | r :: rs, out, last => if (ap r last).2 = 0 then trF ap rs (out ++ [(ap r last).1]) (ap r last).1 else ([], (ap r last).2)
theorem trF_nil (ap : Rule → ByteArray → ByteArray × Int) (out : List ByteArray) (last : ByteArray) : trF ap [] out last = (out, 0) := rfl
theorem trF_cons (ap : Rule → ByteArray → ByteArray × Int) (r : Rule) (rs : List Rule) (out : List ByteArray) (last : ByteArray) : trF ap (r :: rs) out last = if (ap r last).2 = 0 then trF ap rs (out ++ [(ap r last).1]) (ap r last).1 else ([], (ap r last).2) := rfl
def okT (a : List Letter) (l : List Rule) (s : ByteArray) : Bool := decide (l.length ≤ 64) && admA a && consS a 40 s && l.all (validR a)
def traceX (a : List Letter) (l : List Rule) (s : ByteArray) (ap : Rule → ByteArray → ByteArray × Int) : List ByteArray × Int := if okT a l s then trF ap l [s] s else ([], 1)
def traceR (a : List Letter) (l : List Rule) (s : ByteArray) : List ByteArray × Int := traceX a l s (applyR a)
def traceQ (a : List Letter) (l : List Rule) (s : ByteArray) : List ByteArray × Int := traceX a l s (applyQ a)
def tupT (x : List ByteArray × Int) : DV := .tup [DStrs x.1, .v (.int .i64 x.2)]
theorem qCheck (hV : VS E) (a : List Letter) (l : List Rule) (s : ByteArray)  : GCall Tryd.prog E 86 [DLs a, DRs l, .v (.string s)] [] (fun d H => d = .v (.bool (okT a l s)) ∧ H = []) := by
  refine GCall.body (C := ⟨Tryd.prog, E, true⟩) Tryd.func86 rfl (fun _ => rfl) (by kernel_rfl) rfl ?_
  refine SCode.seqR ?_
  refine SOps.assign rfl ?_
  refine SOps.nil ?_
  refine SCode.seq ?_
  refine SCode.seqR ?_
  refine SOps.assign rfl ?_
  refine SOps.nil ?_
  refine SCode.block ?_
  refine SCode.loop1 (fun (i : Nat) => (⟨33, [(0, DLs a), (1, DRs l), (2, .v (.string s)), (7, .v (.int .i64 (i : Int)))], []⟩ : St)) (fun (i : Nat) => i ≤ l.length ∧ ∀ r ∈ l.take i, validR a r = true) (fun (i : Nat) => l.length - i) (0) (by simp) (St.Le.of ⟨(by first | rfl | (show some _ = some _; simp)), (by first | rfl | (show some _ = some _; simp)), (by first | rfl | (show some _ = some _; simp)), (by first | rfl | (show some _ = some _; simp)), trivial⟩ rfl (by first | rfl | (simp))) ?_
  rintro i ⟨hi, hf⟩
  refine SCode.fact (isl_len (t := 1) rfl) (fun hB => ?_)
  simp only [List.length_map, lenB] at hB
  refine SCode.seq ?_
  refine SCode.seqR ?_
  refine SOps.move rfl ?_
  refine SOps.move rfl ?_
  refine SOps.lenM rfl sliceB_23_47_6 ?_
  refine SOps.bin rfl rfl rfl ?_
  refine SOps.nil ?_
  refine SCode.cond rfl (fun hc1 => ?_) (fun hc1 => ?_)
  · try simp only [nmL] at hc1
    refine SCode.skip ?_
    show SCode _ _ _ _
    refine SCode.seq ?_
    refine SCode.block ?_
    refine SCode.seqR ?_
    refine SOps.move rfl ?_
    refine SOps.move rfl ?_
    refine SOps.move rfl ?_
    refine SOps.indexM (i) rfl rfl sliceB_23_47_6 (by omega) (by omega) ?_
    refine SOps.loadPinA rfl aggB_47_6 (Nat.le_of_ble_eq_true rfl) ?_
    refine SOps.callP (qValid hV _ _) rfl ?_
    rintro _ rfl
    refine SOps.un rfl rfl ?_
    refine SOps.nil ?_
    refine SCode.cond rfl (fun hc2 => ?_) (fun hc2 => ?_)
    · try simp only [nmL] at hc2
      refine SCode.seqR ?_
      refine SOps.assign rfl ?_
      refine SOps.nil ?_
      refine SCode.ret ?_
      exact ⟨_, Res.one (.tmp rfl), congrArg (fun b => DV.v (.bool b)) (Eq.symm (Bool.eq_false_iff.2 (fun h => by simp only [okT, Bool.and_eq_true, List.all_eq_true] at h; rw [h.2 _ (List.getElem_mem (show i < l.length by omega))] at hc2; cases hc2))), rfl⟩
    · try simp only [nmL] at hc2
      refine SCode.skip ?_
      show SCode _ _ _ _
      refine SCode.region ?_
      refine SOps.move rfl ?_
      refine SOps.addI rfl rfl (by omega) (by omega) ?_
      refine SOps.assign rfl ?_
      refine SOps.nil ?_
      exact ⟨i + 1, by exact ⟨by omega, take_more hf (by omega) hc2⟩, by omega, (St.Le.of ⟨(by first | rfl | (show some _ = some _; simp)), (by first | rfl | (show some _ = some _; simp)), (by first | rfl | (show some _ = some _; simp)), (by first | rfl | (show some _ = some _; simp)), trivial⟩ rfl (by first | rfl | (simp)))⟩
  · try simp only [nmL] at hc1
    refine SCode.exit ?_
    show SCode _ _ _ _
    refine SCode.seqR ?_
    have hall : l.all (validR a) = true := List.all_eq_true.2 (all_of (by omega) hf)
    refine SOps.move rfl ?_
    refine SOps.lenM rfl sliceB_23_47_6 ?_
    refine SOps.bin rfl rfl rfl ?_
    refine SOps.move rfl ?_
    refine SOps.caseB 24 rfl (fun hb3 => ?_) (fun hb3 => ?_)
    · try simp only [nmL] at hb3
      refine SOps.move rfl ?_
      refine SOps.callP (qAdm _) rfl ?_
      rintro _ rfl
      refine SOps.pick rfl rfl ?_
      refine SOps.move rfl ?_
      refine SOps.caseB 28 rfl (fun hb4 => ?_) (fun hb4 => ?_)
      · try simp only [nmL] at hb4
        refine SOps.move rfl ?_
        refine SOps.move rfl ?_
        refine SOps.callP (qWord hV _ _) rfl ?_
        rintro _ rfl
        refine SOps.pick rfl rfl ?_
        refine SOps.assign rfl ?_
        refine SOps.nil ?_
        refine SCode.ret ?_
        exact ⟨_, Res.one (.tmp rfl), congrArg (fun b => DV.v (.bool b)) (by rcases Classical.em (l.length ≤ 64) with h64 | h64 <;> first | (exfalso; omega) | (simp_all [okT]; done) | (simp_all [okT]; intros; omega)), rfl⟩
      · try simp only [nmL] at hb4
        refine SOps.skip rfl ?_
        refine SOps.skip rfl ?_
        refine SOps.skip rfl ?_
        refine SOps.pick rfl rfl ?_
        refine SOps.assign rfl ?_
        refine SOps.nil ?_
        refine SCode.ret ?_
        exact ⟨_, Res.one (.tmp rfl), congrArg (fun b => DV.v (.bool b)) (by rcases Classical.em (l.length ≤ 64) with h64 | h64 <;> first | (exfalso; omega) | (simp_all [okT]; done) | (simp_all [okT]; intros; omega)), rfl⟩
    · try simp only [nmL] at hb3
      refine SOps.skip rfl ?_
      refine SOps.skip rfl ?_
      refine SOps.pick rfl rfl ?_
      refine SOps.move rfl ?_
      refine SOps.skip rfl ?_
      refine SOps.skip rfl ?_
      refine SOps.skip rfl ?_
      refine SOps.pick rfl rfl ?_
      refine SOps.assign rfl ?_
      refine SOps.nil ?_
      refine SCode.ret ?_
      exact ⟨_, Res.one (.tmp rfl), congrArg (fun b => DV.v (.bool b)) (by rcases Classical.em (l.length ≤ 64) with h64 | h64 <;> first | (exfalso; omega) | (simp_all [okT]; done) | (simp_all [okT]; intros; omega)), rfl⟩
theorem rTrace (hV : VS E) (a : List Letter) (l : List Rule) (s : ByteArray) (hr : ∀ r ∈ l, SmR r) (hs : s.size ≤ 1048576) : GCall Tryd.prog E 83 [DLs a, DRs l, .v (.string s)] [] (fun d H => d = tupT (traceR a l s) ∧ H = []) := by
  refine GCall.body (C := ⟨Tryd.prog, E, true⟩) Tryd.func83 rfl (fun _ => rfl) (by kernel_rfl) rfl ?_
  refine SCode.seqR ?_
  refine SOps.assign rfl ?_
  refine SOps.assign rfl ?_
  refine SOps.nil ?_
  refine SCode.seq ?_
  refine SCode.seqR ?_
  refine SOps.move rfl ?_
  refine SOps.lenM rfl sliceB_23_47_6 ?_
  refine SOps.bin rfl rfl rfl ?_
  refine SOps.move rfl ?_
  refine SOps.caseB 18 rfl (fun hb1 => ?_) (fun hb1 => ?_)
  · try simp only [nmL] at hb1
    refine SOps.skip rfl ?_
    refine SOps.skip rfl ?_
    refine SOps.skip rfl ?_
    refine SOps.pick rfl rfl ?_
    refine SOps.move rfl ?_
    refine SOps.skip rfl ?_
    refine SOps.skip rfl ?_
    refine SOps.skip rfl ?_
    refine SOps.skip rfl ?_
    refine SOps.pick rfl rfl ?_
    refine SOps.nil ?_
    refine SCode.cond rfl (fun _ => ?_) (fun h => by cases h)
    refine SCode.seqR ?_
    refine SOps.assign rfl ?_
    refine SOps.assign rfl ?_
    refine SOps.nil ?_
    refine SCode.nilIsl (t := 6) (sz := 1) rfl ?_
    refine SCode.drop ?_
    refine SCode.ret ?_
    exact ⟨_, Res.two (.tmp rfl) (.tmp rfl), (by unfold traceR traceX; rw [if_neg (fun h => by have hok := h; simp only [okT, Bool.and_eq_true, decide_eq_true_eq, List.all_eq_true] at hok; omega)]; rfl), rfl⟩
  · try simp only [nmL] at hb1
    refine SOps.move rfl ?_
    refine SOps.callP (lAdm _) rfl ?_
    rintro _ rfl
    refine SOps.un rfl rfl ?_
    refine SOps.pick rfl rfl ?_
    refine SOps.move rfl ?_
    refine SOps.caseB 23 rfl (fun hb2 => ?_) (fun hb2 => ?_)
    · try simp only [nmL] at hb2
      refine SOps.skip rfl ?_
      refine SOps.skip rfl ?_
      refine SOps.skip rfl ?_
      refine SOps.skip rfl ?_
      refine SOps.pick rfl rfl ?_
      refine SOps.nil ?_
      refine SCode.cond rfl (fun _ => ?_) (fun h => by cases h)
      refine SCode.seqR ?_
      refine SOps.assign rfl ?_
      refine SOps.assign rfl ?_
      refine SOps.nil ?_
      refine SCode.nilIsl (t := 6) (sz := 1) rfl ?_
      refine SCode.drop ?_
      refine SCode.ret ?_
      exact ⟨_, Res.two (.tmp rfl) (.tmp rfl), (by unfold traceR traceX; rw [if_neg (fun h => by have hok := h; simp only [okT, Bool.and_eq_true, decide_eq_true_eq, List.all_eq_true] at hok; simp_all)]; rfl), rfl⟩
    · try simp only [nmL] at hb2
      refine SOps.move rfl ?_
      refine SOps.move rfl ?_
      refine SOps.callP (lIsWord hV _ _) rfl ?_
      rintro _ rfl
      refine SOps.un rfl rfl ?_
      refine SOps.pick rfl rfl ?_
      refine SOps.nil ?_
      refine SCode.cond rfl (fun hc3 => ?_) (fun hc3 => ?_)
      · try simp only [nmL] at hc3
        refine SCode.seqR ?_
        refine SOps.assign rfl ?_
        refine SOps.assign rfl ?_
        refine SOps.nil ?_
        refine SCode.nilIsl (t := 6) (sz := 1) rfl ?_
        refine SCode.drop ?_
        refine SCode.ret ?_
        exact ⟨_, Res.two (.tmp rfl) (.tmp rfl), (by unfold traceR traceX; rw [if_neg (fun h => by have hok := h; simp only [okT, Bool.and_eq_true, decide_eq_true_eq, List.all_eq_true] at hok; simp_all)]; rfl), rfl⟩
      · try simp only [nmL] at hc3
        refine SCode.skip ?_
        show SCode _ _ _ _
        refine SCode.seq ?_
        refine SCode.seqR ?_
        refine SOps.move rfl ?_
        refine SOps.lenM rfl sliceB_23_47_6 ?_
        refine SOps.move rfl ?_
        refine SOps.nil ?_
        refine SCode.block ?_
        refine SCode.loop1 (fun (i : Nat) => (⟨69, [(0, DLs a), (1, DRs l), (2, .v (.string s)), (29, DRs l), (30, .v (.int .i64 ((l.length : Nat) : Int))), (31, .v (.int .i64 (i : Int)))], []⟩ : St)) (fun (i : Nat) => i ≤ l.length ∧ ∀ r ∈ l.take i, validR a r = true) (fun (i : Nat) => l.length - i) (0) (by simp) (St.Le.of ⟨(by first | rfl | (show some _ = some _; simp)), (by first | rfl | (show some _ = some _; simp)), (by first | rfl | (show some _ = some _; simp)), (by first | rfl | (show some _ = some _; simp)), (by first | rfl | (show some _ = some _; simp)), (by first | rfl | (show some _ = some _; simp)), trivial⟩ rfl (by first | rfl | (simp))) ?_
        rintro i ⟨hi, hf⟩
        refine SCode.seqR ?_
        refine SOps.bin rfl rfl rfl ?_
        refine SOps.nil ?_
        refine SCode.seq ?_
        refine SCode.cond rfl (fun hc4 => ?_) (fun hc4 => ?_)
        · try simp only [nmL] at hc4
          refine SCode.skip ?_
          show SCode _ _ _ _
          refine SCode.seq ?_
          refine SCode.block ?_
          refine SCode.seqR ?_
          refine SOps.indexM (i) rfl rfl sliceB_23_47_6 (by first | omega | (simp only [lenB]; omega)) (by first | omega | (simp only [lenB]; omega)) ?_
          refine SOps.loadPinA rfl aggB_47_6 (Nat.le_of_ble_eq_true rfl) ?_
          refine SOps.alloc (sz := 6) zeroIs_47 (fun b0 hb_0 => ?_)
          refine SOps.storeAM 0 rfl rfl aggB_47_6 rfl ?_
          refine SOps.freezeRef (t := 9) 0 0 rfl rfl rfl rfl rfl ?_
          refine SOps.nil ?_
          refine SCode.seqR ?_
          have hr6 := hr _ (List.getElem_mem (show i < l.length by omega))
          refine SOps.move rfl ?_
          refine SOps.loadPinA rfl aggB_47_6 (Nat.le_of_ble_eq_true rfl) ?_
          refine SOps.callP (rValid hV _ _ hr6) rfl ?_
          rintro _ rfl
          refine SOps.un rfl rfl ?_
          refine SOps.nil ?_
          refine SCode.cond rfl (fun hc5 => ?_) (fun hc5 => ?_)
          · try simp only [nmL] at hc5
            refine SCode.seqR ?_
            refine SOps.assign rfl ?_
            refine SOps.assign rfl ?_
            refine SOps.nil ?_
            refine SCode.nilIsl (t := 6) (sz := 1) rfl ?_
            refine SCode.drop ?_
            refine SCode.ret ?_
            exact ⟨_, Res.two (.tmp rfl) (.tmp rfl), (by unfold traceR traceX; rw [if_neg (fun h => by have hok := h; simp only [okT, Bool.and_eq_true, decide_eq_true_eq, List.all_eq_true] at hok; have := hok.2 _ (List.getElem_mem (show i < l.length by omega)); simp_all)]; rfl), rfl⟩
          · try simp only [nmL] at hc5
            refine SCode.skip ?_
            show SCode _ _ _ _
            refine SCode.region ?_
            refine SOps.addI rfl rfl (by first | omega | (simp only [lenB]; omega)) (by first | omega | (simp only [lenB]; omega)) ?_
            refine SOps.move rfl ?_
            refine SOps.nil ?_
            exact ⟨i + 1, by exact ⟨by omega, take_more hf (by omega) hc5⟩, by omega, (St.Le.of ⟨(by first | rfl | (show some _ = some _; simp)), (by first | rfl | (show some _ = some _; simp)), (by first | rfl | (show some _ = some _; simp)), (by first | rfl | (show some _ = some _; simp)), (by first | rfl | (show some _ = some _; simp)), (by first | rfl | (show some _ = some _; simp)), trivial⟩ rfl (by first | rfl | (simp)))⟩
        · try simp only [nmL] at hc4
          refine SCode.exit ?_
          show SCode _ _ _ _
          refine SCode.seqR ?_
          refine SOps.move rfl ?_
          refine SOps.litO sliceB_35_9_1 zeroIs_9 rfl (fun b1 hb_1 => ?_)
          refine SOps.assign rfl ?_
          refine SOps.nil ?_
          refine SCode.seq ?_
          refine SCode.seqR ?_
          refine SOps.move rfl ?_
          refine SOps.lenM rfl sliceB_23_47_6 ?_
          refine SOps.move rfl ?_
          refine SOps.nil ?_
          refine SCode.block ?_
          have hall : l.all (validR a) = true := List.all_eq_true.2 (all_of (by omega) hf)
          have hok : okT a l s = true := by rcases Classical.em (l.length ≤ 64) with h64 | h64 <;> first | (exfalso; omega) | (simp_all [okT]; done)
          have h64 : l.length ≤ 64 := by omega
          refine SCode.loop3 (fun (j : Nat) (out : List ByteArray) (k : Nat) => (⟨69, [(0, DLs a), (10, .sl k 1 0 out.length), (42, DRs l), (43, .v (.int .i64 ((l.length : Nat) : Int))), (44, .v (.int .i64 (j : Int)))], [(k, .row 9 1 (out.map encS))]⟩ : St)) (fun (j : Nat) (out : List ByteArray) (k : Nat) => j ≤ l.length ∧ ∃ (ho : out.length = j + 1), (out[out.length - 1]'(by omega)).size ≤ 1048576 ∧ trF (applyR a) (l.drop j) out (out[out.length - 1]'(by omega)) = trF (applyR a) l [s] s) (fun (j : Nat) (out : List ByteArray) (k : Nat) => l.length - j) (0) ([s]) (b1) (by exact ⟨Nat.zero_le _, rfl, hs, rfl⟩) (St.Le.of ⟨(by first | rfl | (show some _ = some _; simp)), (by first | rfl | (show some _ = some _; simp)), (by first | rfl | (show some _ = some _; simp)), (by first | rfl | (show some _ = some _; simp)), (by first | rfl | (show some _ = some _; simp)), trivial⟩ rfl (by first | rfl | (simp))) ?_
          rintro j out k ⟨hj, ho, hz, ht⟩
          refine SCode.seqR ?_
          refine SOps.bin rfl rfl rfl ?_
          refine SOps.nil ?_
          refine SCode.seq ?_
          refine SCode.cond rfl (fun hc6 => ?_) (fun hc6 => ?_)
          · try simp only [nmL] at hc6
            refine SCode.skip ?_
            show SCode _ _ _ _
            refine SCode.seq ?_
            refine SCode.block ?_
            refine SCode.seqR ?_
            refine SOps.indexM (j) rfl rfl sliceB_23_47_6 (by first | omega | (simp only [lenB]; omega)) (by first | omega | (simp only [lenB]; omega)) ?_
            refine SOps.loadPinA rfl aggB_47_6 (Nat.le_of_ble_eq_true rfl) ?_
            refine SOps.alloc (sz := 6) zeroIs_47 (fun b2 hb_2 => ?_)
            refine SOps.storeAM 0 rfl rfl aggB_47_6 rfl ?_
            refine SOps.freezeRef (t := 12) 0 0 rfl rfl rfl rfl rfl ?_
            refine SOps.nil ?_
            refine SCode.seq ?_
            have hjl : j < l.length := by omega
            have hr13 := hr _ (List.getElem_mem hjl)
            refine SCode.drawPure mixed_ [(49, DLs a), (50, .agg (encR (l[j]))), (51, .sl k 1 0 out.length), (52, .sl k 1 0 out.length), (53, .v (.int .i64 ((out.length : Nat) : Int))), (54, .v (.int .i64 ((out.length : Int) - 1))), (55, .ref k ((0 + (out.length - 1)) * 1)), (56, .v (.string (out[out.length - 1]))), (57, tupA (applyR a (l[j]) (out[out.length - 1]))), (48, tupA (applyR a (l[j]) (out[out.length - 1]))), (58, .v (.string (applyR a (l[j]) (out[out.length - 1])).1)), (59, .v (.int .i64 (applyR a (l[j]) (out[out.length - 1])).2)), (13, .v (.string (applyR a (l[j]) (out[out.length - 1])).1)), (14, .v (.int .i64 (applyR a (l[j]) (out[out.length - 1])).2))] [49, 50, 51, 52, 53, 54, 55, 56, 57, 48, 58, 59, 13, 14] [[.inr 0], [.inr 12], [.inr 10], [.inr 10], [.inl 3], [.inl 4], [.inl 2, .inl 5], [.inl 6], [.inl 0, .inl 1, .inl 7], [.inl 8], [.inl 9], [.inl 9], [.inl 10], [.inl 11]] [[(0, DLs a)], [(12, .ipin (encR (l[j])))], [(10, .sl k 1 0 out.length)], [(10, .sl k 1 0 out.length)], [(52, .sl k 1 0 out.length)], [(53, .v (.int .i64 ((out.length : Nat) : Int)))], [(51, .sl k 1 0 out.length), (54, .v (.int .i64 ((out.length : Int) - 1)))], [(55, .ref k ((0 + (out.length - 1)) * 1))], [(49, DLs a), (50, .agg (encR (l[j]))), (56, .v (.string (out[out.length - 1])))], [(57, tupA (applyR a (l[j]) (out[out.length - 1])))], [(48, tupA (applyR a (l[j]) (out[out.length - 1])))], [(48, tupA (applyR a (l[j]) (out[out.length - 1])))], [(58, .v (.string (applyR a (l[j]) (out[out.length - 1])).1))], [(59, .v (.int .i64 (applyR a (l[j]) (out[out.length - 1])).2))]] rfl (by kernel_rfl) (by kernel_rfl) rfl ?_ ?_
            · refine OpsOk.cons (fun rest => ?_) ?_
              · refine SOps.move rfl ?_
                exact SOps.nil (by first | rfl | simp_all)
              refine OpsOk.cons (fun rest => ?_) ?_
              · refine SOps.loadPinA rfl aggB_47_6 (Nat.le_of_ble_eq_true rfl) ?_
                exact SOps.nil (by first | rfl | simp_all)
              refine OpsOk.cons (fun rest => ?_) ?_
              · refine SOps.move rfl ?_
                exact SOps.nil (by first | rfl | simp_all)
              refine OpsOk.cons (fun rest => ?_) ?_
              · refine SOps.move rfl ?_
                exact SOps.nil (by first | rfl | simp_all)
              refine OpsOk.cons (fun rest => ?_) ?_
              · refine SOps.lenSl rfl sliceB_35_9_1 ?_
                exact SOps.nil (by first | rfl | simp_all)
              refine OpsOk.cons (fun rest => ?_) ?_
              · refine SOps.subI rfl rfl (by first | omega | (simp only [lenB]; omega)) (by first | omega | (simp only [lenB]; omega)) ?_
                exact SOps.nil (by first | rfl | simp_all)
              refine OpsOk.cons (fun rest => ?_) ?_
              · refine SOps.indexS ((out.length - 1)) rfl rfl sliceB_35_9_1 (by first | omega | (simp only [lenB]; omega)) (by first | omega | (simp only [lenB]; omega)) ?_
                exact SOps.nil (by first | rfl | simp_all)
              refine OpsOk.cons (fun rest => ?_) ?_
              · refine SOps.loadK 0 ((out.length - 1)) rfl flatB_9 rfl (by first | omega | (simp only [lenB]; omega)) (by first | omega | (simp; done) | (simp; omega)) rfl ?_
                exact SOps.nil (by first | rfl | simp_all)
              refine OpsOk.cons (fun rest => ?_) ?_
              · refine SOps.callP (rApply hV _ _ _ hr13 hz) rfl ?_
                rintro _ rfl
                exact SOps.nil (by first | rfl | simp_all)
              refine OpsOk.cons (fun rest => ?_) ?_
              · refine SOps.move rfl ?_
                exact SOps.nil (by first | rfl | simp_all)
              refine OpsOk.cons (fun rest => ?_) ?_
              · refine SOps.extract rfl rfl ?_
                exact SOps.nil (by first | rfl | simp_all)
              refine OpsOk.cons (fun rest => ?_) ?_
              · refine SOps.extract rfl rfl ?_
                exact SOps.nil (by first | rfl | simp_all)
              refine OpsOk.cons (fun rest => ?_) ?_
              · refine SOps.assign rfl ?_
                exact SOps.nil (by first | rfl | simp_all)
              refine OpsOk.cons (fun rest => ?_) ?_
              · refine SOps.assign rfl ?_
                exact SOps.nil (by first | rfl | simp_all)
              exact OpsOk.nil
            · show SCode _ _ _ _
              refine SCode.seq ?_
              refine SCode.seqR ?_
              refine SOps.move rfl ?_
              refine SOps.bin rfl rfl rfl ?_
              refine SOps.nil ?_
              refine SCode.cond rfl (fun hc7 => ?_) (fun hc7 => ?_)
              · try simp only [nmL] at hc7
                refine SCode.seqR ?_
                refine SOps.move rfl ?_
                refine SOps.assign rfl ?_
                refine SOps.assign rfl ?_
                refine SOps.nil ?_
                refine SCode.nilIsl (t := 6) (sz := 1) rfl ?_
                refine SCode.drop ?_
                refine SCode.ret ?_
                exact ⟨_, Res.two (.tmp rfl) (.tmp rfl), (by unfold traceR traceX; rw [if_pos hok, ← ht, List.drop_eq_getElem_cons hjl, trF_cons, if_neg hc7]; rfl), rfl⟩
              · try simp only [nmL] at hc7
                refine SCode.skip ?_
                show SCode _ _ _ _
                refine SCode.region ?_
                refine SOps.move rfl ?_
                refine SOps.move rfl ?_
                refine SOps.litF rfl sliceB_35_9_1 zeroIs_9 rfl ?_
                refine SOps.appendOwn 0 sliceB_35_9_1 elemB_9_1_16 rfl rfl rfl (by simp) SrcD.isl (by simp) (by first | (simp [lenB] <;> (first | omega | (simp only [lenB]; omega))) | (simp only [lenB]; (first | omega | (simp only [lenB]; omega)))) (by first | (simp <;> (first | omega | (simp only [lenB]; omega))) | (first | omega | (simp only [lenB]; omega))) (fun b3 hb_3 => ?_)
                refine SOps.assign rfl ?_
                refine SOps.nil ?_
                show SCode _ _ _ _
                refine SCode.region ?_
                refine SOps.addI rfl rfl (by first | omega | (simp only [lenB]; omega)) (by first | omega | (simp only [lenB]; omega)) ?_
                refine SOps.move rfl ?_
                refine SOps.nil ?_
                exact ⟨j + 1, out ++ [(applyR a (l[j]) (out[out.length - 1])).1], b3, ⟨by omega, by simp; omega, by simp; exact resX_size _ _ _ _, by rw [← ht, List.drop_eq_getElem_cons hjl, trF_cons, if_pos hc7]; simp⟩, by omega, St.Le.of ⟨rfl, (by show some _ = some _; simp), rfl, rfl, rfl, trivial⟩ rfl (by rw [List.map_append]; rfl)⟩
          · try simp only [nmL] at hc6
            refine SCode.exit ?_
            show SCode _ _ _ _
            refine SCode.seqR ?_
            refine SOps.freezeS (t := 10) 0 rfl rfl rfl (by simp) ?_
            refine SOps.move rfl ?_
            refine SOps.assign rfl ?_
            refine SOps.assign rfl ?_
            refine SOps.nil ?_
            refine SCode.drop ?_
            refine SCode.ret ?_
            exact ⟨_, Res.two (.tmp rfl) (.tmp rfl), (by unfold traceR traceX; rw [if_pos hok, ← ht, List.drop_eq_nil_of_le (by omega), trF_nil]; rfl), rfl⟩
theorem qTrace (hV : VS E) (a : List Letter) (l : List Rule) (s : ByteArray) (hr : ∀ r ∈ l, SmR r) (hs : s.size ≤ 1048576) : GCall Tryd.prog E 73 [DLs a, DRs l, .v (.string s)] [] (fun d H => d = tupT (traceQ a l s) ∧ H = []) := by
  refine GCall.body (C := ⟨Tryd.prog, E, true⟩) Tryd.func73 rfl (fun _ => rfl) (by kernel_rfl) rfl ?_
  refine SCode.seqR ?_
  refine SOps.assign rfl ?_
  refine SOps.assign rfl ?_
  refine SOps.nil ?_
  refine SCode.seq ?_
  refine SCode.seqR ?_
  refine SOps.move rfl ?_
  refine SOps.move rfl ?_
  refine SOps.move rfl ?_
  refine SOps.callP (qCheck hV _ _ _) rfl ?_
  rintro _ rfl
  refine SOps.un rfl rfl ?_
  refine SOps.nil ?_
  refine SCode.cond rfl (fun hc1 => ?_) (fun hc1 => ?_)
  · try simp only [nmL] at hc1
    refine SCode.seqR ?_
    refine SOps.assign rfl ?_
    refine SOps.assign rfl ?_
    refine SOps.nil ?_
    refine SCode.nilIsl (t := 6) (sz := 1) rfl ?_
    refine SCode.drop ?_
    refine SCode.ret ?_
    exact ⟨_, Res.two (.tmp rfl) (.tmp rfl), (by unfold traceQ traceX; rw [if_neg (by simp_all)]; rfl), rfl⟩
  · try simp only [nmL] at hc1
    refine SCode.skip ?_
    show SCode _ _ _ _
    refine SCode.seqR ?_
    refine SOps.move rfl ?_
    refine SOps.litO sliceB_35_9_1 zeroIs_9 rfl (fun b0 hb_0 => ?_)
    refine SOps.assign rfl ?_
    refine SOps.nil ?_
    refine SCode.seq ?_
    refine SCode.seqR ?_
    refine SOps.assign rfl ?_
    refine SOps.nil ?_
    refine SCode.block ?_
    have h64 : l.length ≤ 64 := by have hok := hc1; simp only [okT, Bool.and_eq_true, decide_eq_true_eq] at hok; exact hok.1.1.1
    refine SCode.loop3 (fun (j : Nat) (out : List ByteArray) (k : Nat) => (⟨46, [(0, DLs a), (1, DRs l), (8, .sl k 1 0 out.length), (9, .v (.int .i64 (j : Int)))], [(k, .row 9 1 (out.map encS))]⟩ : St)) (fun (j : Nat) (out : List ByteArray) (k : Nat) => j ≤ l.length ∧ ∃ (ho : out.length = j + 1), (out[j]'(by omega)).size ≤ 1048576 ∧ trF (applyQ a) (l.drop j) out (out[j]'(by omega)) = trF (applyQ a) l [s] s) (fun (j : Nat) (out : List ByteArray) (k : Nat) => l.length - j) (0) ([s]) (b0) (by exact ⟨Nat.zero_le _, rfl, hs, rfl⟩) (St.Le.of ⟨(by first | rfl | (show some _ = some _; simp)), (by first | rfl | (show some _ = some _; simp)), (by first | rfl | (show some _ = some _; simp)), (by first | rfl | (show some _ = some _; simp)), trivial⟩ rfl (by first | rfl | (simp))) ?_
    rintro j out k ⟨hj, ho, hz, ht⟩
    refine SCode.seq ?_
    refine SCode.seqR ?_
    refine SOps.move rfl ?_
    refine SOps.move rfl ?_
    refine SOps.lenM rfl sliceB_23_47_6 ?_
    refine SOps.bin rfl rfl rfl ?_
    refine SOps.nil ?_
    refine SCode.cond rfl (fun hc2 => ?_) (fun hc2 => ?_)
    · try simp only [nmL] at hc2
      refine SCode.skip ?_
      show SCode _ _ _ _
      refine SCode.seq ?_
      refine SCode.block ?_
      refine SCode.seq ?_
      have hjl : j < l.length := by omega
      have hjo : j < out.length := by omega
      have hr13 := hr _ (List.getElem_mem hjl)
      refine SCode.drawPure mixed_ [(26, DLs a), (27, DRs l), (28, .v (.int .i64 (j : Int))), (29, .ipin (encR (l[j]))), (30, .agg (encR (l[j]))), (31, .sl k 1 0 out.length), (32, .v (.int .i64 (j : Int))), (33, .ref k ((0 + j) * 1)), (34, .v (.string (out[j]))), (35, tupA (applyQ a (l[j]) (out[j]))), (25, tupA (applyQ a (l[j]) (out[j]))), (36, .v (.string (applyQ a (l[j]) (out[j])).1)), (37, .v (.int .i64 (applyQ a (l[j]) (out[j])).2)), (10, .v (.string (applyQ a (l[j]) (out[j])).1)), (11, .v (.int .i64 (applyQ a (l[j]) (out[j])).2))] [26, 27, 28, 29, 30, 31, 32, 33, 34, 35, 25, 36, 37, 10, 11] [[.inr 0], [.inr 1], [.inr 9], [.inl 1, .inl 2], [.inl 3], [.inr 8], [.inr 9], [.inl 5, .inl 6], [.inl 7], [.inl 0, .inl 4, .inl 8], [.inl 9], [.inl 10], [.inl 10], [.inl 11], [.inl 12]] [[(0, DLs a)], [(1, DRs l)], [(9, .v (.int .i64 (j : Int)))], [(27, DRs l), (28, .v (.int .i64 (j : Int)))], [(29, .ipin (encR (l[j])))], [(8, .sl k 1 0 out.length)], [(9, .v (.int .i64 (j : Int)))], [(31, .sl k 1 0 out.length), (32, .v (.int .i64 (j : Int)))], [(33, .ref k ((0 + j) * 1))], [(26, DLs a), (30, .agg (encR (l[j]))), (34, .v (.string (out[j])))], [(35, tupA (applyQ a (l[j]) (out[j])))], [(25, tupA (applyQ a (l[j]) (out[j])))], [(25, tupA (applyQ a (l[j]) (out[j])))], [(36, .v (.string (applyQ a (l[j]) (out[j])).1))], [(37, .v (.int .i64 (applyQ a (l[j]) (out[j])).2))]] rfl (by kernel_rfl) (by kernel_rfl) rfl ?_ ?_
      · refine OpsOk.cons (fun rest => ?_) ?_
        · refine SOps.move rfl ?_
          exact SOps.nil (by first | rfl | simp_all)
        refine OpsOk.cons (fun rest => ?_) ?_
        · refine SOps.move rfl ?_
          exact SOps.nil (by first | rfl | simp_all)
        refine OpsOk.cons (fun rest => ?_) ?_
        · refine SOps.move rfl ?_
          exact SOps.nil (by first | rfl | simp_all)
        refine OpsOk.cons (fun rest => ?_) ?_
        · refine SOps.indexM (j) rfl rfl sliceB_23_47_6 (by first | omega | (simp only [lenB]; omega)) (by first | omega | (simp only [lenB]; omega)) ?_
          exact SOps.nil (by first | rfl | simp_all)
        refine OpsOk.cons (fun rest => ?_) ?_
        · refine SOps.loadPinA rfl aggB_47_6 (Nat.le_of_ble_eq_true rfl) ?_
          exact SOps.nil (by first | rfl | simp_all)
        refine OpsOk.cons (fun rest => ?_) ?_
        · refine SOps.move rfl ?_
          exact SOps.nil (by first | rfl | simp_all)
        refine OpsOk.cons (fun rest => ?_) ?_
        · refine SOps.move rfl ?_
          exact SOps.nil (by first | rfl | simp_all)
        refine OpsOk.cons (fun rest => ?_) ?_
        · refine SOps.indexS (j) rfl rfl sliceB_35_9_1 (by first | omega | (simp only [lenB]; omega)) (by first | omega | (simp only [lenB]; omega)) ?_
          exact SOps.nil (by first | rfl | simp_all)
        refine OpsOk.cons (fun rest => ?_) ?_
        · refine SOps.loadK 0 (j) rfl flatB_9 rfl (by first | omega | (simp only [lenB]; omega)) (by first | omega | (simp; done) | (simp; omega)) rfl ?_
          exact SOps.nil (by first | rfl | simp_all)
        refine OpsOk.cons (fun rest => ?_) ?_
        · refine SOps.callP (qApply hV _ _ _ hr13 hz) rfl ?_
          rintro _ rfl
          exact SOps.nil (by first | rfl | simp_all)
        refine OpsOk.cons (fun rest => ?_) ?_
        · refine SOps.move rfl ?_
          exact SOps.nil (by first | rfl | simp_all)
        refine OpsOk.cons (fun rest => ?_) ?_
        · refine SOps.extract rfl rfl ?_
          exact SOps.nil (by first | rfl | simp_all)
        refine OpsOk.cons (fun rest => ?_) ?_
        · refine SOps.extract rfl rfl ?_
          exact SOps.nil (by first | rfl | simp_all)
        refine OpsOk.cons (fun rest => ?_) ?_
        · refine SOps.assign rfl ?_
          exact SOps.nil (by first | rfl | simp_all)
        refine OpsOk.cons (fun rest => ?_) ?_
        · refine SOps.assign rfl ?_
          exact SOps.nil (by first | rfl | simp_all)
        exact OpsOk.nil
      · show SCode _ _ _ _
        refine SCode.seq ?_
        refine SCode.seqR ?_
        refine SOps.move rfl ?_
        refine SOps.bin rfl rfl rfl ?_
        refine SOps.nil ?_
        refine SCode.cond rfl (fun hc3 => ?_) (fun hc3 => ?_)
        · try simp only [nmL] at hc3
          refine SCode.seqR ?_
          refine SOps.move rfl ?_
          refine SOps.assign rfl ?_
          refine SOps.assign rfl ?_
          refine SOps.nil ?_
          refine SCode.nilIsl (t := 6) (sz := 1) rfl ?_
          refine SCode.drop ?_
          refine SCode.ret ?_
          exact ⟨_, Res.two (.tmp rfl) (.tmp rfl), (by unfold traceQ traceX; rw [if_pos hc1, ← ht, List.drop_eq_getElem_cons hjl, trF_cons, if_neg hc3]; rfl), rfl⟩
        · try simp only [nmL] at hc3
          refine SCode.skip ?_
          show SCode _ _ _ _
          refine SCode.region ?_
          refine SOps.move rfl ?_
          refine SOps.move rfl ?_
          refine SOps.litF rfl sliceB_35_9_1 zeroIs_9 rfl ?_
          refine SOps.appendOwn 0 sliceB_35_9_1 elemB_9_1_16 rfl rfl rfl (by simp) SrcD.isl (by simp) (by first | (simp [lenB] <;> (first | omega | (simp only [lenB]; omega))) | (simp only [lenB]; (first | omega | (simp only [lenB]; omega)))) (by first | (simp <;> (first | omega | (simp only [lenB]; omega))) | (first | omega | (simp only [lenB]; omega))) (fun b1 hb_1 => ?_)
          refine SOps.assign rfl ?_
          refine SOps.nil ?_
          show SCode _ _ _ _
          refine SCode.region ?_
          refine SOps.move rfl ?_
          refine SOps.addI rfl rfl (by first | omega | (simp only [lenB]; omega)) (by first | omega | (simp only [lenB]; omega)) ?_
          refine SOps.assign rfl ?_
          refine SOps.nil ?_
          exact ⟨j + 1, out ++ [(applyQ a (l[j]) (out[j])).1], b1, ⟨by omega, by simp; omega, by rw [List.getElem_append_right (by omega)]; simp [ho]; exact resX_size _ _ _ _, by rw [← ht, List.drop_eq_getElem_cons hjl, trF_cons, if_pos hc3, List.getElem_append_right (by omega)]; simp [ho]⟩, by omega, St.Le.of ⟨rfl, rfl, (by show some _ = some _; simp), rfl, trivial⟩ rfl (by rw [List.map_append]; rfl)⟩
    · try simp only [nmL] at hc2
      refine SCode.exit ?_
      show SCode _ _ _ _
      refine SCode.seqR ?_
      refine SOps.freezeS (t := 8) 0 rfl rfl rfl (by simp) ?_
      refine SOps.move rfl ?_
      refine SOps.assign rfl ?_
      refine SOps.assign rfl ?_
      refine SOps.nil ?_
      refine SCode.drop ?_
      refine SCode.ret ?_
      exact ⟨_, Res.two (.tmp rfl) (.tmp rfl), (by unfold traceQ traceX; rw [if_pos hc1, ← ht, List.drop_eq_nil_of_le (by omega), trF_nil]; rfl), rfl⟩
theorem trF_len (ap : Rule → ByteArray → ByteArray × Int) : ∀ (l : List Rule) (out : List ByteArray) (last : ByteArray), out ≠ [] → (trF ap l out last).2 = 0 → (trF ap l out last).1 ≠ []
  | [], out, last, h, _ => h
  | r :: rs, out, last, h, h2 => by
    rw [trF_cons] at h2 ⊢
    by_cases h3 : (ap r last).2 = 0
    · rw [if_pos h3] at h2 ⊢
      exact trF_len ap rs _ _ (by simp) h2
    · rw [if_neg h3] at h2
      exact absurd h2 h3
theorem traceX_ne {a : List Letter} {l : List Rule} {s : ByteArray} {ap : Rule → ByteArray → ByteArray × Int} (h : (traceX a l s ap).2 = 0) : (traceX a l s ap).1 ≠ [] := by
  unfold traceX at h ⊢
  split at h
  · rename_i h1
    rw [if_pos h1]
    exact trF_len ap _ _ _ (by simp) h
  · cases h
def cascX (x : List ByteArray × Int) : ByteArray × Int := if x.2 = 0 then (x.1.getLastD ⟨#[]⟩, 0) else (⟨#[]⟩, x.2)
theorem last_at {x : List ByteArray} (h : x ≠ []) (h2 : x.length - 1 < x.length) : x[x.length - 1] = x.getLastD ⟨#[]⟩ := by
  rw [List.getLastD_eq_getLast?, List.getLast?_eq_getElem?, List.getElem?_eq_getElem h2]; rfl
theorem rCascade (hV : VS E) (a : List Letter) (l : List Rule) (s : ByteArray) (hr : ∀ r ∈ l, SmR r) (hs : s.size ≤ 1048576) : GCall Tryd.prog E 69 [DLs a, DRs l, .v (.string s)] [] (fun d H => d = tupA (cascX (traceR a l s)) ∧ H = []) := by
  refine GCall.body (C := ⟨Tryd.prog, E, true⟩) Tryd.func69 rfl (fun _ => rfl) (by kernel_rfl) rfl ?_
  refine SCode.seqR ?_
  refine SOps.assign rfl ?_
  refine SOps.assign rfl ?_
  refine SOps.nil ?_
  refine SCode.seqR ?_
  refine SOps.move rfl ?_
  refine SOps.move rfl ?_
  refine SOps.move rfl ?_
  refine SOps.callP (rTrace hV _ _ _ hr hs) rfl ?_
  rintro _ rfl
  refine SOps.move rfl ?_
  refine SOps.extract rfl rfl ?_
  refine SOps.extract rfl rfl ?_
  refine SOps.assign rfl ?_
  refine SOps.assign rfl ?_
  refine SOps.nil ?_
  refine SCode.seq ?_
  refine SCode.seqR ?_
  refine SOps.move rfl ?_
  refine SOps.bin rfl rfl rfl ?_
  refine SOps.nil ?_
  refine SCode.cond rfl (fun hc1 => ?_) (fun hc1 => ?_)
  · try simp only [nmL] at hc1
    refine SCode.seqR ?_
    refine SOps.move rfl ?_
    refine SOps.assign rfl ?_
    refine SOps.assign rfl ?_
    refine SOps.nil ?_
    refine SCode.ret ?_
    exact ⟨_, Res.two (.tmp rfl) (.tmp rfl), (by unfold cascX; rw [if_neg hc1]; rfl), rfl⟩
  · try simp only [nmL] at hc1
    refine SCode.skip ?_
    show SCode _ _ _ _
    refine SCode.seqR ?_
    have hne : (traceR a l s).1 ≠ [] := traceX_ne (show (traceR a l s).2 = 0 from hc1)
    have hnl : 0 < (traceR a l s).1.length := List.length_pos_iff.2 hne
    refine SOps.fact (isl_len (t := 8) rfl) (fun hB => ?_)
    simp only [List.length_map, lenB] at hB
    refine SOps.move rfl ?_
    refine SOps.move rfl ?_
    refine SOps.lenM rfl sliceB_35_9_1 ?_
    refine SOps.subI rfl rfl (by first | omega | (simp only [lenB]; omega)) (by first | omega | (simp only [lenB]; omega)) ?_
    refine SOps.indexM ((traceR a l s).1.length - 1) rfl rfl sliceB_35_9_1 (by first | omega | (simp only [lenB]; omega)) (by first | omega | (simp only [lenB]; omega)) ?_
    refine SOps.loadPin rfl flatB_9 ?_
    refine SOps.assign rfl ?_
    refine SOps.assign rfl ?_
    refine SOps.nil ?_
    refine SCode.ret ?_
    exact ⟨_, Res.two (.tmp rfl) (.tmp rfl), (by unfold cascX; rw [if_pos hc1, last_at hne]; rfl), rfl⟩
theorem qCascade (hV : VS E) (a : List Letter) (l : List Rule) (s : ByteArray) (hr : ∀ r ∈ l, SmR r) (hs : s.size ≤ 1048576) : GCall Tryd.prog E 43 [DLs a, DRs l, .v (.string s)] [] (fun d H => d = tupA (cascX (traceQ a l s)) ∧ H = []) := by
  refine GCall.body (C := ⟨Tryd.prog, E, true⟩) Tryd.func43 rfl (fun _ => rfl) (by kernel_rfl) rfl ?_
  refine SCode.seqR ?_
  refine SOps.assign rfl ?_
  refine SOps.assign rfl ?_
  refine SOps.nil ?_
  refine SCode.seqR ?_
  refine SOps.move rfl ?_
  refine SOps.move rfl ?_
  refine SOps.move rfl ?_
  refine SOps.callP (qTrace hV _ _ _ hr hs) rfl ?_
  rintro _ rfl
  refine SOps.move rfl ?_
  refine SOps.extract rfl rfl ?_
  refine SOps.extract rfl rfl ?_
  refine SOps.assign rfl ?_
  refine SOps.assign rfl ?_
  refine SOps.nil ?_
  refine SCode.seq ?_
  refine SCode.seqR ?_
  refine SOps.move rfl ?_
  refine SOps.bin rfl rfl rfl ?_
  refine SOps.nil ?_
  refine SCode.cond rfl (fun hc1 => ?_) (fun hc1 => ?_)
  · try simp only [nmL] at hc1
    refine SCode.seqR ?_
    refine SOps.move rfl ?_
    refine SOps.assign rfl ?_
    refine SOps.assign rfl ?_
    refine SOps.nil ?_
    refine SCode.ret ?_
    exact ⟨_, Res.two (.tmp rfl) (.tmp rfl), (by unfold cascX; rw [if_neg hc1]; rfl), rfl⟩
  · try simp only [nmL] at hc1
    refine SCode.skip ?_
    show SCode _ _ _ _
    refine SCode.seqR ?_
    have hne : (traceQ a l s).1 ≠ [] := traceX_ne (show (traceQ a l s).2 = 0 from hc1)
    have hnl : 0 < (traceQ a l s).1.length := List.length_pos_iff.2 hne
    refine SOps.fact (isl_len (t := 8) rfl) (fun hB => ?_)
    simp only [List.length_map, lenB] at hB
    refine SOps.move rfl ?_
    refine SOps.move rfl ?_
    refine SOps.lenM rfl sliceB_35_9_1 ?_
    refine SOps.subI rfl rfl (by first | omega | (simp only [lenB]; omega)) (by first | omega | (simp only [lenB]; omega)) ?_
    refine SOps.indexM ((traceQ a l s).1.length - 1) rfl rfl sliceB_35_9_1 (by first | omega | (simp only [lenB]; omega)) (by first | omega | (simp only [lenB]; omega)) ?_
    refine SOps.loadPin rfl flatB_9 ?_
    refine SOps.assign rfl ?_
    refine SOps.assign rfl ?_
    refine SOps.nil ?_
    refine SCode.ret ?_
    exact ⟨_, Res.two (.tmp rfl) (.tmp rfl), (by unfold cascX; rw [if_pos hc1, last_at hne]; rfl), rfl⟩
end Go.GH
namespace Go.GH
open Go Go.Lib

theorem utf8R_encs : ∀ {rs : List Int}, (∀ r ∈ rs, Utf8.valid r = true) → utf8R (encs rs) = true
  | [], _ => rfl
  | r :: rs, h => by
    have hv := h r (List.mem_cons_self ..)
    have ih := utf8R_encs (fun x hx => h x (List.mem_cons_of_mem _ hx))
    rw [utf8R_valid] at ih ⊢
    have hd := decodeL_drop (encs (r :: rs)) 0
    rw [List.drop_zero] at hd
    have hdec : Utf8.decode (encs (r :: rs)) 0 = (r.toNat, (Utf8.encode r).size) := decode_encode hv (encs rs)
    rw [hdec] at hd
    have hp := encode_pos r
    have hdata : (encs (r :: rs)).data.toList = (Utf8.encode r).data.toList ++ (encs rs).data.toList := by
      rw [encs_cons, data_app2]
    have hlen : (Utf8.encode r).data.toList.length = (Utf8.encode r).size := by simp
    have hne : (encs (r :: rs)).data.toList ≠ [] := by
      intro h0
      rw [hdata] at h0
      have := congrArg List.length h0
      simp only [List.length_append, List.length_nil] at this
      omega
    rw [validD_step _ hne, hd]
    have hno : ¬ (r.toNat = 65533 ∧ (Utf8.encode r).size = 1) := by
      rintro ⟨h1, h2⟩
      have hr : r = 65533 := by
        simp only [Utf8.valid, Bool.or_eq_true, Bool.and_eq_true, decide_eq_true_eq] at hv
        omega
      subst hr
      have h3 : (Utf8.encode 65533).size = 3 := by decide
      omega
    rw [if_neg hno, hdata, List.drop_left' hlen]
    exact ih

section
variable {β γ : Type}
theorem starM_congr {g g' : List β → Bool} {h h' : β → Bool} : ∀ (w : List β), (∀ v, v <:+ w → g v = g' v) → (∀ c ∈ w, h c = h' c) → starM g h w = starM g' h' w
  | [], hg, _ => hg [] (List.suffix_refl _)
  | c :: w, hg, hh => by
    simp only [starM]
    rw [hg _ (List.suffix_refl _), hh c (List.mem_cons_self ..), starM_congr w (fun v hv => hg v (hv.trans (List.suffix_cons c w))) (fun x hx => hh x (List.mem_cons_of_mem _ hx))]
theorem M_congr {f g : Item → β → Bool} : ∀ (p : List Item) (w : List β), (∀ c ∈ w, ∀ x, f x c = g x c) → M f p w = M g p w
  | [], _, _ => rfl
  | x :: p, w, h => by
    simp only [M]
    split
    · exact starM_congr w (fun v hv => M_congr p v (fun c hc => h c (hv.subset hc))) (fun c hc => h c hc x)
    · cases w with
      | nil => rfl
      | cons c w => simp only; rw [h c (List.mem_cons_self ..), M_congr p w (fun d hd => h d (List.mem_cons_of_mem _ hd))]
theorem starM_map {g : List γ → Bool} {h : γ → Bool} (k : β → γ) : ∀ (w : List β), starM g h (w.map k) = starM (fun v => g (v.map k)) (fun c => h (k c)) w
  | [] => rfl
  | c :: w => by simp only [List.map_cons, starM, starM_map k w]
theorem M_map (f : Item → γ → Bool) (k : β → γ) : ∀ (p : List Item) (w : List β), M f p (w.map k) = M (fun x c => f x (k c)) p w
  | [], w => by cases w <;> rfl
  | x :: p, w => by
    simp only [M]
    split
    · rw [starM_map]
      congr 1
      funext v
      exact M_map f k p v
    · cases w with
      | nil => rfl
      | cons c w => simp only [List.map_cons]; rw [M_map f k p w]
end

/-- Words of letters, from their runes. -/
structure Lw (a : List Letter) (w : List Int) : Prop where
  some : ∀ c ∈ w, (idx a c).isSome = true
  valid : ∀ c ∈ w, Utf8.valid c = true
theorem Lw.over {a : List Letter} {w : List Int} (h : Lw a w) : overA a (encs w) = true := by
  rw [overA_eq, utf8R_encs h.valid, allL, runes_encs h.valid, Bool.true_and]
  exact List.all_eq_true.2 h.some
theorem Lw.idxs {a : List Letter} {w : List Int} (h : Lw a w) : idxs a (encs w) = w.map (fun c => (idx a c).getD 0) := by
  unfold Go.GH.idxs
  rw [runes_encs h.valid]
theorem Lw.M {a : List Letter} {w : List Int} (h : Lw a w) (p : List Item) : M (admF a) p (w.map (fun c => (idx a c).getD 0)) = Mr a p w := by
  rw [M_map]
  refine M_congr p w (fun c hc x => ?_)
  obtain ⟨k, hk⟩ := Option.isSome_iff_exists.1 (h.some c hc)
  simp only [rAdm, hk, Option.getD_some, admF]
theorem Lw.sub {a : List Letter} {w v : List Int} (h : Lw a w) (hv : ∀ c ∈ v, c ∈ w) : Lw a v := ⟨fun c hc => h.some c (hv c hc), fun c hc => h.valid c (hv c hc)⟩
theorem Lw.take {a : List Letter} {w : List Int} (h : Lw a w) (n : Nat) : Lw a (w.take n) := h.sub (fun c hc => List.mem_of_mem_take hc)
theorem Lw.drop {a : List Letter} {w : List Int} (h : Lw a w) (n : Nat) : Lw a (w.drop n) := h.sub (fun c hc => List.mem_of_mem_drop hc)
theorem okR_lw {a : List Letter} {s : ByteArray} (h : consS a 40 s = true) : Lw a (runes s) := by
  rw [consS_eq, Bool.and_eq_true] at h
  exact ⟨fun c hc => List.all_eq_true.1 h.2 c hc, fun c hc => runes_valid hc⟩
theorem any_filter {p : Nat → Bool} {l : List Nat} : decide (0 < (l.filter p).length) = l.any p := by
  rw [Bool.eq_iff_iff, decide_eq_true_eq, List.length_pos_iff_exists_mem, List.any_eq_true]
  constructor
  · rintro ⟨x, hx⟩; exact ⟨x, (List.mem_filter.1 hx).1, (List.mem_filter.1 hx).2⟩
  · rintro ⟨x, h1, h2⟩; exact ⟨x, List.mem_filter.2 ⟨h1, h2⟩⟩
theorem any_rev {p : Nat → Bool} {n : Nat} : (List.range (n + 1)).any (fun i => p (n - i)) = (List.range (n + 1)).any p := by
  rw [Bool.eq_iff_iff, List.any_eq_true, List.any_eq_true]
  constructor
  · rintro ⟨i, h1, h2⟩; exact ⟨n - i, List.mem_range.2 (by omega), h2⟩
  · rintro ⟨i, h1, h2⟩
    have := List.mem_range.1 h1
    exact ⟨n - i, List.mem_range.2 (by omega), by rw [show n - (n - i) = i by omega]; exact h2⟩
theorem Lw.matches {a : List Letter} {w : List Int} (h : Lw a w) {p : List Item} (hp : validPat a p = true) : matchesP a p (encs w) = Mr a p w := by
  rw [matchesP, hp, h.over, h.idxs, h.M]; rfl
theorem Lw.prefixes {a : List Letter} {w : List Int} (h : Lw a w) {p : List Item} (hp : validPat a p = true) : decide (0 < (prefixesP a p (encs w)).length) = (List.range (w.length + 1)).any (fun i => Mr a p (w.take i)) := by
  rw [prefixesP, hp, h.over, h.idxs, Bool.true_and, if_pos rfl, lens_eq, any_filter, List.length_map]
  congr 1
  funext n
  rw [← List.map_take, (h.take n).M]
theorem Lw.suffixes {a : List Letter} {w : List Int} (h : Lw a w) {p : List Item} (hp : validPat a p = true) : decide (0 < (suffixesP a p (encs w)).length) = (List.range (w.length + 1)).any (fun i => Mr a p (w.drop i)) := by
  rw [suffixesP, hp, h.over, h.idxs, Bool.true_and, if_pos rfl, lens_eq, any_filter, List.length_reverse, List.length_map, ← any_rev]
  congr 1
  funext n
  rw [List.take_reverse, M_reverse, List.length_map, ← List.map_drop, (h.drop _).M]
  by_cases hn : n ≤ w.length
  · rw [show w.length - (w.length - n) = n by omega]
  · rw [List.drop_eq_nil_of_le (show w.length ≤ w.length - (w.length - n) by omega), List.drop_eq_nil_of_le (show w.length ≤ n by omega)]
theorem follows_eq {a : List Letter} {r : Rule} {w : List Int} (h : Lw a w) (hp : validPat a r.left = true) : followsR a r (encs w) = leftR a r w := by
  unfold followsR leftR
  rw [h.matches hp, h.suffixes hp]
theorem precedes_eq {a : List Letter} {r : Rule} {w : List Int} (h : Lw a w) (hp : validPat a r.right = true) : precedesR a r (encs w) = rightR a r w := by
  unfold precedesR rightR
  rw [h.matches hp, h.prefixes hp]
theorem sites_eq (a : List Letter) (r : Rule) (s : ByteArray) : sitesR a r s = sitesQ a r s := by
  unfold sitesR sitesQ
  by_cases hok : okR a r s = true
  · rw [if_pos hok, if_pos hok]
    have h1 : validR a r = true ∧ consS a 40 s = true := by simpa [okR] using hok
    have hl := okR_lw h1.2
    have h2 := h1.1
    simp only [validR, Bool.and_eq_true] at h2
    unfold sitesF
    congr 1
    funext i
    unfold siteB siteQ
    rw [follows_eq (hl.take i) h2.1.2, precedes_eq (hl.drop _) h2.2]
  · rw [if_neg hok, if_neg hok]
theorem apply_eq (a : List Letter) (r : Rule) (s : ByteArray) : applyR a r s = applyQ a r s := by
  unfold applyR applyQ
  rw [sites_eq]
end Go.GH
namespace Go.GH
open Go
theorem resF_mem {fr : Int} {tl : List Int} {c : Int} : ∀ (w : List Int) (i : Nat) (ss : List Nat), c ∈ resF fr tl w i ss → c ∈ tl ∨ c ∈ w
  | [], i, ss, h => by
    rw [resF_nil] at h
    split at h
    · exact .inl h
    · cases h
  | d :: w, i, ss, h => by
    rw [resF_cons, List.mem_append, List.mem_append] at h
    rcases h with h | h | h
    · split at h
      · exact .inl h
      · cases h
    · split at h
      · cases h
      · rw [List.mem_singleton] at h; subst h; exact .inr (List.mem_cons_self ..)
    · rcases resF_mem w _ _ h with h | h
      · exact .inl h
      · exact .inr (List.mem_cons_of_mem _ h)
theorem okR_all {a : List Letter} {r : Rule} {s : ByteArray} (h : okR a r s = true) : allL a r.«to» = true ∧ allL a s = true := by
  simp only [okR, validR, consS_eq, Bool.and_eq_true] at h
  exact ⟨h.1.1.1.2.2, h.2.2⟩
/-- A result without error is a word. -/
theorem resX_word {a : List Letter} {r : Rule} {s : ByteArray} {l : List Nat} (h : (resX a r s l).2 = 0) : okR a r s = true ∧ consS a 40 (resX a r s l).1 = true := by
  unfold resX at h ⊢
  by_cases hok : okR a r s = true
  · rw [if_pos hok] at h ⊢
    refine ⟨hok, ?_⟩
    obtain ⟨h1, h2⟩ := okR_all hok
    have hm : ∀ c ∈ resF r.fr (runes r.«to») (runes s) 0 l, (idx a c).isSome = true ∧ Utf8.valid c = true := fun c hc => by
      rcases resF_mem _ _ _ hc with hc | hc
      · exact ⟨List.all_eq_true.1 h1 c hc, runes_valid hc⟩
      · exact ⟨List.all_eq_true.1 h2 c hc, runes_valid hc⟩
    by_cases h40 : 40 < (runes (encs (resF r.fr (runes r.«to») (runes s) 0 l))).length
    · rw [if_pos h40] at h; cases h
    · rw [if_neg h40]
      show consS a 40 (encs _) = true
      rw [consS_eq, utf8R_encs (fun c hc => (hm c hc).2), Bool.true_and, Bool.and_eq_true, decide_eq_true_eq]
      refine ⟨by omega, ?_⟩
      rw [allL, runes_encs (fun c hc => (hm c hc).2)]
      exact List.all_eq_true.2 (fun c hc => (hm c hc).1)
  · rw [if_neg hok] at h; cases h
end Go.GH
namespace Go.GH
open Go
theorem trace_ok {a : List Letter} {l : List Rule} {s : ByteArray} (h : (traceR a l s).2 = 0) : okT a l s = true ∧ (traceR a l s) = trF (applyR a) l [s] s := by
  unfold traceR traceX at h ⊢
  by_cases hok : okT a l s = true
  · rw [if_pos hok]; exact ⟨hok, rfl⟩
  · rw [if_neg hok] at h; cases h
theorem casc_two {x : List ByteArray × Int} : (cascX x).2 = x.2 := by
  unfold cascX
  split
  · rename_i h; exact h.symm
  · rfl
end Go.GH
