/-
  Part 6 of the texts behind the walks of this claim: an own layer over the kit's wp, plain laws, and walks. No conditions.
-/
import Derived.Test.YtkajkpdilinmgaaDoorMa5
set_option linter.unusedVariables false
set_option linter.unusedSimpArgs false
set_option linter.deprecated false
namespace Go.GH
open Go Go.Proofs
variable {E : Env}
def iniT (x : Acc) (m : Nat) : List (List Bool) := (List.range m).map (fun i => (List.range x.nxt.length).map (fun k => finN x i != finN x k))
def iniR (x : Acc) (i : Nat) : List Bool := (List.range x.nxt.length).map (fun k => finN x i != finN x k)
theorem iniT_succ (x : Acc) (m : Nat) : iniT x (m + 1) = iniT x m ++ [iniR x m] := by simp [iniT, iniR, List.range_succ]
theorem iniT_len (x : Acc) (m : Nat) : (iniT x m).length = m := by simp [iniT]
theorem iniR_len (x : Acc) (i : Nat) : (iniR x i).length = x.nxt.length := by simp [iniR]
theorem iniR_at {x : Acc} {i j : Nat} (h : j < (iniR x i).length) : (iniR x i)[j] = (finN x i != finN x j) := by simp [iniR]
theorem ini_shp (x : Acc) : Shp x.nxt.length (iniT x x.nxt.length) := ⟨iniT_len x _, fun i r h => by
  simp only [iniT, List.getElem?_map] at h
  cases e : (List.range x.nxt.length)[i]? with
  | none => rw [e] at h; cases h
  | some v => rw [e] at h; simp only [Option.map_some, Option.some.injEq] at h; subst h; simp⟩
theorem ini_tab {x : Acc} (h : accOK x = true) : TabOK x (tabB (iniT x x.nxt.length)) := by
  have key : ∀ i k, i < x.nxt.length → k < x.nxt.length → tabB (iniT x x.nxt.length) i k = (finN x i != finN x k) := fun i k hi hk => by
    simp [tabB, iniT, hi, hk]
  refine ⟨fun i k hi hk hn => by rw [key i k hi hk]; exact bne_iff_ne.2 hn, fun i k hi hk hT hE => ?_⟩
  rw [key i k hi hk, bne_iff_ne] at hT
  exact hT (hE [] (by simp))
theorem finN_at {x : Acc} {i : Nat} (h : i < x.fin.length) : x.fin[i] = finN x i := by
  rw [finN, ← finA_at (s := ((i : Nat) : Int)) (by rw [Int.toNat_natCast]; exact h)]; rfl
theorem iniR_full (x : Acc) (i : Nat) : rowJ (iniR x i) x.nxt.length = iniR x i := by rw [← iniR_len x i, rowJ_full]
theorem qApart (x : Acc) (hx : accOK x = true) (hw65 : widthA x ≤ 65) : GCall Tryd.prog E 48 [.agg (encAcc x)] [] (fun d H => (∃ T, d = .isl false 1 (T.map encRow) ∧ Shp x.nxt.length T ∧ ∀ i k, i < x.nxt.length → k < x.nxt.length → (tabB T i k = true ↔ ¬ Eqv x i k)) ∧ H = []) := by
  refine GCall.body (C := ⟨Tryd.prog, E, true⟩) Tryd.func48 rfl (fun _ => rfl) (by kernel_rfl) rfl ?_
  refine SCode.seqR ?_
  refine SOps.boxAM rfl rfl ?_
  refine SOps.assign rfl ?_
  refine SOps.nil ?_
  refine SCode.seqR ?_
  refine SOps.fieldPin rfl fieldB_28_2_2 ?_
  refine SOps.loadPin rfl flatB_26 ?_
  refine SOps.lenM rfl sliceB_26_39_1 ?_
  refine SOps.assign rfl ?_
  refine SOps.nil ?_
  refine SCode.seqR ?_
  have hho := headOK_iff.1 (by have h := hx; simp only [accOK, Bool.and_eq_true] at h; exact h.1)
  refine SOps.litO sliceB_66_25_1 zeroIs_25 rfl (fun b0 hb_0 => ?_)
  refine SOps.assign rfl ?_
  refine SOps.nil ?_
  refine SCode.seq ?_
  refine SCode.seqR ?_
  refine SOps.assign rfl ?_
  refine SOps.nil ?_
  refine SCode.block ?_
  refine SCode.loop3 (fun (i : Nat) (bs : List Nat) (ko : Nat) => (⟨105, [(1, .ipin (encAcc x)), (3, .v (.int .i64 ((x.nxt.length : Nat) : Int))), (4, .sl ko 1 0 bs.length), (5, .v (.int .i64 (i : Int)))], (ko, .row 25 1 (bs.map (encBk x.nxt.length))) :: rowsH 4 encB bs (iniT x i)⟩ : St)) (fun (i : Nat) (bs : List Nat) (ko : Nat) => i ≤ x.nxt.length ∧ bs.length = i) (fun (i : Nat) (bs : List Nat) (ko : Nat) => x.nxt.length - i) (0) ([]) (b0) (by exact ⟨Nat.zero_le _, rfl⟩) (St.Le.of ⟨(by first | rfl | (show some _ = some _; simp)), (by first | rfl | (show some _ = some _; simp)), (by first | rfl | (show some _ = some _; simp)), (by first | rfl | (show some _ = some _; simp)), trivial⟩ rfl (by first | rfl | (simp))) ?_
  rintro i bs ko ⟨hi, hbl⟩
  refine SCode.seq ?_
  refine SCode.seqR ?_
  refine SOps.move rfl ?_
  refine SOps.move rfl ?_
  refine SOps.bin rfl rfl rfl ?_
  refine SOps.nil ?_
  refine SCode.cond rfl (fun hc1 => ?_) (fun hc1 => ?_)
  · try simp only [decide_eq_true_eq, decide_eq_false_iff_not, Bool.not_eq_true', Bool.not_eq_false', beq_iff_eq, bne_iff_ne, ne_eq, beq_eq_false_iff_ne, bne_eq_false_iff_eq, Int.not_lt, Int.not_le, Nat.not_lt, Nat.not_le, Int.ofNat_lt, Int.ofNat_le, Bool.not_eq_eq_eq_not, Bool.not_true, Bool.not_false] at hc1
    refine SCode.skip ?_
    show SCode _ _ _ _
    refine SCode.seq ?_
    refine SCode.block ?_
    refine SCode.seqR ?_
    refine SOps.move rfl ?_
    refine SOps.makeK (f := encB) (x.nxt.length) (false) sliceB_25_4_1 elemB_4_1_1 zeroIs_4 rfl rfl (by first | omega | (simp only [lenB]; omega)) (by first | omega | (simp only [lenB]; omega)) rfl (by first | omega | (simp only [lenB]; omega)) (by simp only [lenB]; omega) (fun b1 hb_1 => ?_)
    refine SOps.assign rfl ?_
    refine SOps.nil ?_
    refine SCode.seq ?_
    refine SCode.seqR ?_
    refine SOps.assign rfl ?_
    refine SOps.nil ?_
    refine SCode.block ?_
    refine SCode.loop1 (fun (j : Nat) => (⟨105, [(1, .ipin (encAcc x)), (3, .v (.int .i64 ((x.nxt.length : Nat) : Int))), (4, .sl ko 1 0 bs.length), (5, .v (.int .i64 (i : Int))), (6, .sl b1 1 0 x.nxt.length), (7, .v (.int .i64 (j : Int)))], (b1, .row 4 1 ((rowJ (iniR x i) j).map encB)) :: (ko, .row 25 1 (bs.map (encBk x.nxt.length))) :: rowsH 4 encB bs (iniT x i)⟩ : St)) (fun (j : Nat) => j ≤ x.nxt.length) (fun (j : Nat) => x.nxt.length - j) (0) (by exact Nat.zero_le _) (St.Le.of ⟨(by first | rfl | (show some _ = some _; simp)), (by first | rfl | (show some _ = some _; simp)), (by first | rfl | (show some _ = some _; simp)), (by first | rfl | (show some _ = some _; simp)), (by first | rfl | (show some _ = some _; simp)), (by first | rfl | (show some _ = some _; simp)), trivial⟩ rfl (by first | rfl | ((rw [rowJ_zero, iniR_len]; rfl)))) ?_
    rintro j hj
    refine SCode.seq ?_
    refine SCode.seqR ?_
    refine SOps.move rfl ?_
    refine SOps.move rfl ?_
    refine SOps.bin rfl rfl rfl ?_
    refine SOps.nil ?_
    refine SCode.cond rfl (fun hc2 => ?_) (fun hc2 => ?_)
    · try simp only [decide_eq_true_eq, decide_eq_false_iff_not, Bool.not_eq_true', Bool.not_eq_false', beq_iff_eq, bne_iff_ne, ne_eq, beq_eq_false_iff_ne, bne_eq_false_iff_eq, Int.not_lt, Int.not_le, Nat.not_lt, Nat.not_le, Int.ofNat_lt, Int.ofNat_le, Bool.not_eq_eq_eq_not, Bool.not_true, Bool.not_false] at hc2
      refine SCode.skip ?_
      show SCode _ _ _ _
      refine SCode.seq ?_
      refine SCode.block ?_
      have hif : i < x.fin.length := by omega
      have hjf : j < x.fin.length := by omega
      refine SCode.drawMix 16 [13, 14] mixed_ [fun b => some (28, .sl b1 1 0 x.nxt.length), fun b => some (29, .v (.int .i64 (j : Int))), fun b => some (30, .ipin ((encAcc x).drop 1)), fun b => some (31, DBools x.fin), fun b => some (32, .v (.int .i64 (i : Int))), fun b => some (33, .ipin (encB (x.fin[i]))), fun b => some (34, .v (.bool (x.fin[i]))), fun b => some (35, .ipin ((encAcc x).drop 1)), fun b => some (36, DBools x.fin), fun b => some (37, .v (.int .i64 (j : Int))), fun b => some (38, .ipin (encB (x.fin[j]))), fun b => some (39, .v (.bool (x.fin[j]))), fun b => some (40, .v (.bool (finN x i != finN x j))), fun b => some (41, .ref b1 ((0 + j) * 1)), fun b => none] [some 28, some 29, some 30, some 31, some 32, some 33, some 34, some 35, some 36, some 37, some 38, some 39, some 40, some 41, none] [[.inr 6], [.inr 7], [.inr 1], [.inl 2], [.inr 5], [.inl 3, .inl 4], [.inl 5], [.inr 1], [.inl 7], [.inr 7], [.inl 8, .inl 9], [.inl 10], [.inl 6, .inl 11], [.inl 0, .inl 1], [.inl 13, .inl 12]] [fun b => [(6, .sl b1 1 0 x.nxt.length)], fun b => [(7, .v (.int .i64 (j : Int)))], fun b => [(1, .ipin (encAcc x))], fun b => [(30, .ipin ((encAcc x).drop 1))], fun b => [(5, .v (.int .i64 (i : Int)))], fun b => [(31, DBools x.fin), (32, .v (.int .i64 (i : Int)))], fun b => [(33, .ipin (encB (x.fin[i])))], fun b => [(1, .ipin (encAcc x))], fun b => [(35, .ipin ((encAcc x).drop 1))], fun b => [(7, .v (.int .i64 (j : Int)))], fun b => [(36, DBools x.fin), (37, .v (.int .i64 (j : Int)))], fun b => [(38, .ipin (encB (x.fin[j])))], fun b => [(34, .v (.bool (x.fin[i]))), (39, .v (.bool (x.fin[j])))], fun b => [(28, .sl b1 1 0 x.nxt.length), (29, .v (.int .i64 (j : Int)))], fun b => [(41, .ref b1 ((0 + j) * 1)), (40, .v (.bool (finN x i != finN x j)))]] (fun b c => match c with | 0 => (b1, .row 4 1 ((rowJ (iniR x i) j).map encB)) :: (ko, .row 25 1 (bs.map (encBk x.nxt.length))) :: rowsH 4 encB bs (iniT x i) | 1 => (b1, .row 4 1 ((rowJ (iniR x i) j).map encB)) :: (ko, .row 25 1 (bs.map (encBk x.nxt.length))) :: rowsH 4 encB bs (iniT x i) | _ => (b1, .row 4 1 (((rowJ (iniR x i) j).set j (finN x i != finN x j)).map encB)) :: (ko, .row 25 1 (bs.map (encBk x.nxt.length))) :: rowsH 4 encB bs (iniT x i)) [(false, false, [0]), (false, false, [0]), (false, false, [0]), (false, false, [0]), (false, false, [0]), (false, false, [0]), (false, false, [0]), (false, false, [0]), (false, false, [0]), (false, false, [0]), (false, false, [0]), (false, false, [0]), (false, false, [0]), (true, false, [0]), (true, false, [1])] (by kernel_rfl) (fun _ => rfl) rfl (fun _ => rfl) (fun _ => rfl) (cohNone rfl) ?_ ?_
      · refine MixOk.cons ?_ ?_
        · refine StgOk.cons (fun b rest => ?_) ?_
          · refine SOps.move rfl ?_
            exact SOps.nil ⟨b, fun _ => rfl, by first | rfl | simp_all⟩
          exact StgOk.nil
        refine MixOk.cons ?_ ?_
        · refine StgOk.cons (fun b rest => ?_) ?_
          · refine SOps.move rfl ?_
            exact SOps.nil ⟨b, fun _ => rfl, by first | rfl | simp_all⟩
          exact StgOk.nil
        refine MixOk.cons ?_ ?_
        · refine StgOk.cons (fun b rest => ?_) ?_
          · refine SOps.fieldPin rfl fieldB_28_1_1 ?_
            exact SOps.nil ⟨b, fun _ => rfl, by first | rfl | simp_all⟩
          exact StgOk.nil
        refine MixOk.cons ?_ ?_
        · refine StgOk.cons (fun b rest => ?_) ?_
          · refine SOps.loadPin rfl flatB_25 ?_
            exact SOps.nil ⟨b, fun _ => rfl, by first | rfl | simp_all⟩
          exact StgOk.nil
        refine MixOk.cons ?_ ?_
        · refine StgOk.cons (fun b rest => ?_) ?_
          · refine SOps.move rfl ?_
            exact SOps.nil ⟨b, fun _ => rfl, by first | rfl | simp_all⟩
          exact StgOk.nil
        refine MixOk.cons ?_ ?_
        · refine StgOk.cons (fun b rest => ?_) ?_
          · refine SOps.indexM (i) rfl rfl sliceB_25_4_1 (by first | omega | (simp only [lenB]; omega)) (by first | omega | (simp only [lenB]; omega)) ?_
            exact SOps.nil ⟨b, fun _ => rfl, by first | rfl | simp_all⟩
          exact StgOk.nil
        refine MixOk.cons ?_ ?_
        · refine StgOk.cons (fun b rest => ?_) ?_
          · refine SOps.loadPin rfl flatB_4 ?_
            exact SOps.nil ⟨b, fun _ => rfl, by first | rfl | simp_all⟩
          exact StgOk.nil
        refine MixOk.cons ?_ ?_
        · refine StgOk.cons (fun b rest => ?_) ?_
          · refine SOps.fieldPin rfl fieldB_28_1_1 ?_
            exact SOps.nil ⟨b, fun _ => rfl, by first | rfl | simp_all⟩
          exact StgOk.nil
        refine MixOk.cons ?_ ?_
        · refine StgOk.cons (fun b rest => ?_) ?_
          · refine SOps.loadPin rfl flatB_25 ?_
            exact SOps.nil ⟨b, fun _ => rfl, by first | rfl | simp_all⟩
          exact StgOk.nil
        refine MixOk.cons ?_ ?_
        · refine StgOk.cons (fun b rest => ?_) ?_
          · refine SOps.move rfl ?_
            exact SOps.nil ⟨b, fun _ => rfl, by first | rfl | simp_all⟩
          exact StgOk.nil
        refine MixOk.cons ?_ ?_
        · refine StgOk.cons (fun b rest => ?_) ?_
          · refine SOps.indexM (j) rfl rfl sliceB_25_4_1 (by first | omega | (simp only [lenB]; omega)) (by first | omega | (simp only [lenB]; omega)) ?_
            exact SOps.nil ⟨b, fun _ => rfl, by first | rfl | simp_all⟩
          exact StgOk.nil
        refine MixOk.cons ?_ ?_
        · refine StgOk.cons (fun b rest => ?_) ?_
          · refine SOps.loadPin rfl flatB_4 ?_
            exact SOps.nil ⟨b, fun _ => rfl, by first | rfl | simp_all⟩
          exact StgOk.nil
        refine MixOk.cons ?_ ?_
        · refine StgOk.cons (fun b rest => ?_) ?_
          · refine SOps.boolNe rfl rfl boolTy_4 ?_
            exact SOps.nil ⟨b, fun _ => rfl, (show _ = _ from congrArg (fun b => St.put _ 40 (.v (.bool b))) (by rw [finN_at hif, finN_at hjf]))⟩
          exact StgOk.nil
        refine MixOk.cons ?_ ?_
        · refine StgOk.cons (fun b rest => ?_) ?_
          · refine SOps.indexS (j) rfl rfl sliceB_25_4_1 (by first | omega | (simp only [lenB]; omega)) (by first | omega | (simp only [lenB]; omega)) ?_
            exact SOps.nil ⟨b, fun _ => rfl, by first | rfl | simp_all⟩
          exact StgOk.nil
        refine MixOk.cons ?_ ?_
        · refine StgOk.cons (fun b rest => ?_) ?_
          · refine SOps.storeK 0 (j) rfl rfl oneB_4 rfl (by first | omega | (simp only [lenB]; omega)) (by first | omega | (simp; done) | (simp; omega) | (rw [rowJ_len (by rw [iniR_len]; omega), iniR_len]; omega)) rfl (fun _ => rfl) ?_
            exact SOps.nil ⟨b, fun _ => rfl, by first | rfl | simp_all⟩
          exact StgOk.nil
        exact MixOk.nil
      · intro bU
        show SCode _ _ _ _
        refine SCode.region ?_
        refine SOps.move rfl ?_
        refine SOps.addI rfl rfl (by first | omega | (simp only [lenB]; omega)) (by first | omega | (simp only [lenB]; omega)) ?_
        refine SOps.assign rfl ?_
        refine SOps.nil ?_
        exact ⟨j + 1, by omega, by omega, St.Le.of ⟨rfl, rfl, rfl, rfl, rfl, rfl, trivial⟩ rfl (by rw [← rowJ_set (show j < (iniR x i).length by rw [iniR_len]; omega), iniR_at]; rfl)⟩
    · try simp only [decide_eq_true_eq, decide_eq_false_iff_not, Bool.not_eq_true', Bool.not_eq_false', beq_iff_eq, bne_iff_ne, ne_eq, beq_eq_false_iff_ne, bne_eq_false_iff_eq, Int.not_lt, Int.not_le, Nat.not_lt, Nat.not_le, Int.ofNat_lt, Int.ofNat_le, Bool.not_eq_eq_eq_not, Bool.not_true, Bool.not_false] at hc2
      refine SCode.exit ?_
      show SCode _ _ _ _
      refine SCode.region ?_
      refine SOps.move rfl ?_
      refine SOps.move rfl ?_
      refine SOps.litF rfl sliceB_66_25_1 zeroIs_25 rfl ?_
      refine SOps.appendOwn 1 sliceB_66_25_1 elemB_25_1_24 rfl rfl rfl (by simp) SrcD.isl (by simp) (by first | (simp [lenB] <;> (first | omega | (simp only [lenB]; omega))) | (simp only [lenB]; (first | omega | (simp only [lenB]; omega)))) (by first | (simp <;> (first | omega | (simp only [lenB]; omega))) | (first | omega | (simp only [lenB]; omega))) (fun b2 hb_2 => ?_)
      refine SOps.assign rfl ?_
      refine SOps.nil ?_
      show SCode _ _ _ _
      refine SCode.region ?_
      refine SOps.move rfl ?_
      refine SOps.addI rfl rfl (by first | omega | (simp only [lenB]; omega)) (by first | omega | (simp only [lenB]; omega)) ?_
      refine SOps.assign rfl ?_
      refine SOps.nil ?_
      exact ⟨i + 1, bs ++ [b1], b2, ⟨by omega, by simp [hbl]⟩, by omega, St.Le.ofPerm ⟨rfl, rfl, (by show some _ = some _; simp), rfl, trivial⟩ (by show List.Perm _ ((b1, .row 4 1 ((rowJ (iniR x i) j).map encB)) :: (b2, .row 25 1 (bs.map (encBk x.nxt.length) ++ [[.sl b1 1 0 x.nxt.length]])) :: rowsH 4 encB bs (iniT x i)); rw [List.map_append, iniT_succ, rowsH_snoc _ _ (by rw [iniT_len]; exact hbl), show j = x.nxt.length by omega, iniR_full]; exact (List.Perm.cons _ List.perm_append_comm).trans (List.Perm.swap _ _ _)) (List.Sublist.refl _)⟩
  · try simp only [decide_eq_true_eq, decide_eq_false_iff_not, Bool.not_eq_true', Bool.not_eq_false', beq_iff_eq, bne_iff_ne, ne_eq, beq_eq_false_iff_ne, bne_eq_false_iff_eq, Int.not_lt, Int.not_le, Nat.not_lt, Nat.not_le, Int.ofNat_lt, Int.ofNat_le, Bool.not_eq_eq_eq_not, Bool.not_true, Bool.not_false] at hc1
    refine SCode.exit ?_
    show SCode _ _ _ _
    refine SCode.seq ?_
    refine SCode.seqR ?_
    refine SOps.assign rfl ?_
    refine SOps.nil ?_
    refine SCode.block ?_
    obtain rfl : i = x.nxt.length := by omega
    refine SCode.loop2 (fun (T : List (List Bool)) (ag : Bool) => (⟨105, [(1, .ipin (encAcc x)), (3, .v (.int .i64 ((x.nxt.length : Nat) : Int))), (4, .sl ko 1 0 bs.length), (8, .v (.bool ag))], (ko, .row 25 1 (bs.map (encBk x.nxt.length))) :: rowsH 4 encB bs T⟩ : St)) (fun (T : List (List Bool)) (ag : Bool) => Shp x.nxt.length T ∧ TabOK x (tabB T) ∧ (ag = false → ∀ i, i < x.nxt.length → Cl1 x T i)) (fun (T : List (List Bool)) (ag : Bool) => 2 * cntF T + ag.toNat) (iniT x x.nxt.length) (true) (by exact ⟨ini_shp x, ini_tab hx, fun h => by cases h⟩) (St.Le.of ⟨(by first | rfl | (show some _ = some _; simp)), (by first | rfl | (show some _ = some _; simp)), (by first | rfl | (show some _ = some _; simp)), (by first | rfl | (show some _ = some _; simp)), trivial⟩ rfl (by first | rfl | (simp))) ?_
    rintro T ag ⟨hsh, htb, hcl⟩
    refine SCode.seq ?_
    refine SCode.seqR ?_
    refine SOps.move rfl ?_
    refine SOps.nil ?_
    refine SCode.cond rfl (fun hc3 => ?_) (fun hc3 => ?_)
    · try simp only [decide_eq_true_eq, decide_eq_false_iff_not, Bool.not_eq_true', Bool.not_eq_false', beq_iff_eq, bne_iff_ne, ne_eq, beq_eq_false_iff_ne, bne_eq_false_iff_eq, Int.not_lt, Int.not_le, Nat.not_lt, Nat.not_le, Int.ofNat_lt, Int.ofNat_le, Bool.not_eq_eq_eq_not, Bool.not_true, Bool.not_false] at hc3
      refine SCode.skip ?_
      show SCode _ _ _ _
      refine SCode.block ?_
      refine SCode.seqR ?_
      refine SOps.assign rfl ?_
      refine SOps.nil ?_
      refine SCode.seqR ?_
      refine SOps.assign rfl ?_
      refine SOps.nil ?_
      refine SCode.block ?_
      have hag : ag = true := hc3
      refine SCode.loop3 (fun (i : Nat) (T2 : List (List Bool)) (ag2 : Bool) => (⟨105, [(1, .ipin (encAcc x)), (3, .v (.int .i64 ((x.nxt.length : Nat) : Int))), (4, .sl ko 1 0 bs.length), (8, .v (.bool ag2)), (9, .v (.int .i64 (i : Int)))], (ko, .row 25 1 (bs.map (encBk x.nxt.length))) :: rowsH 4 encB bs T2⟩ : St)) (fun (i : Nat) (T2 : List (List Bool)) (ag2 : Bool) => i ≤ x.nxt.length ∧ Pass x T T2 ag2 ∧ (ag2 = false → ∀ a, a < i → Cl1 x T2 a)) (fun (i : Nat) (T2 : List (List Bool)) (ag2 : Bool) => x.nxt.length - i) (0) (T) (false) (by exact ⟨Nat.zero_le _, Pass.start hsh htb, fun _ a ha => by omega⟩) (St.Le.of ⟨(by first | rfl | (show some _ = some _; simp)), (by first | rfl | (show some _ = some _; simp)), (by first | rfl | (show some _ = some _; simp)), (by first | rfl | (show some _ = some _; simp)), (by first | rfl | (show some _ = some _; simp)), trivial⟩ rfl (by first | rfl | (simp))) ?_
      rintro i T2 ag2 ⟨hi2, hp2, hcl2⟩
      refine SCode.seq ?_
      refine SCode.seqR ?_
      refine SOps.move rfl ?_
      refine SOps.move rfl ?_
      refine SOps.bin rfl rfl rfl ?_
      refine SOps.nil ?_
      refine SCode.cond rfl (fun hc4 => ?_) (fun hc4 => ?_)
      · try simp only [decide_eq_true_eq, decide_eq_false_iff_not, Bool.not_eq_true', Bool.not_eq_false', beq_iff_eq, bne_iff_ne, ne_eq, beq_eq_false_iff_ne, bne_eq_false_iff_eq, Int.not_lt, Int.not_le, Nat.not_lt, Nat.not_le, Int.ofNat_lt, Int.ofNat_le, Bool.not_eq_eq_eq_not, Bool.not_true, Bool.not_false] at hc4
        refine SCode.skip ?_
        show SCode _ _ _ _
        refine SCode.seq ?_
        refine SCode.block ?_
        refine SCode.seqR ?_
        refine SOps.assign rfl ?_
        refine SOps.nil ?_
        refine SCode.block ?_
        have hiN : i < x.nxt.length := by omega
        have hrowi := accOK_row hx hiN
        refine SCode.loop3 (fun (k : Nat) (T3 : List (List Bool)) (ag3 : Bool) => (⟨105, [(1, .ipin (encAcc x)), (3, .v (.int .i64 ((x.nxt.length : Nat) : Int))), (4, .sl ko 1 0 bs.length), (8, .v (.bool ag3)), (9, .v (.int .i64 (i : Int))), (10, .v (.int .i64 (k : Int)))], (ko, .row 25 1 (bs.map (encBk x.nxt.length))) :: rowsH 4 encB bs T3⟩ : St)) (fun (k : Nat) (T3 : List (List Bool)) (ag3 : Bool) => k ≤ x.nxt.length ∧ Pass x T T3 ag3 ∧ (ag3 = false → (∀ a, a < i → Cl1 x T3 a) ∧ ∀ b, b < k → Cl2 x T3 i b)) (fun (k : Nat) (T3 : List (List Bool)) (ag3 : Bool) => x.nxt.length - k) (0) (T2) (ag2) (by exact ⟨Nat.zero_le _, hp2, fun h => ⟨hcl2 h, fun b hb => by omega⟩⟩) (St.Le.of ⟨(by first | rfl | (show some _ = some _; simp)), (by first | rfl | (show some _ = some _; simp)), (by first | rfl | (show some _ = some _; simp)), (by first | rfl | (show some _ = some _; simp)), (by first | rfl | (show some _ = some _; simp)), (by first | rfl | (show some _ = some _; simp)), trivial⟩ rfl (by first | rfl | (simp))) ?_
        rintro k T3 ag3 ⟨hk3, hp3, hcl3⟩
        refine SCode.seq ?_
        refine SCode.seqR ?_
        refine SOps.move rfl ?_
        refine SOps.move rfl ?_
        refine SOps.bin rfl rfl rfl ?_
        refine SOps.nil ?_
        refine SCode.cond rfl (fun hc5 => ?_) (fun hc5 => ?_)
        · try simp only [decide_eq_true_eq, decide_eq_false_iff_not, Bool.not_eq_true', Bool.not_eq_false', beq_iff_eq, bne_iff_ne, ne_eq, beq_eq_false_iff_ne, bne_eq_false_iff_eq, Int.not_lt, Int.not_le, Nat.not_lt, Nat.not_le, Int.ofNat_lt, Int.ofNat_le, Bool.not_eq_eq_eq_not, Bool.not_true, Bool.not_false] at hc5
          refine SCode.skip ?_
          show SCode _ _ _ _
          refine SCode.seq ?_
          refine SCode.block ?_
          refine SCode.seqR ?_
          refine SOps.assign rfl ?_
          refine SOps.nil ?_
          refine SCode.block ?_
          have hkN : k < x.nxt.length := by omega
          have hrowk := accOK_row hx hkN
          have hib : i < bs.length := by omega
          have hbi := List.getElem?_eq_getElem hib
          refine SCode.loop3 (fun (c : Nat) (T4 : List (List Bool)) (ag4 : Bool) => (⟨105, [(1, .ipin (encAcc x)), (3, .v (.int .i64 ((x.nxt.length : Nat) : Int))), (4, .sl ko 1 0 bs.length), (8, .v (.bool ag4)), (9, .v (.int .i64 (i : Int))), (10, .v (.int .i64 (k : Int))), (11, .v (.int .i64 (c : Int)))], (ko, .row 25 1 (bs.map (encBk x.nxt.length))) :: rowsH 4 encB bs T4⟩ : St)) (fun (c : Nat) (T4 : List (List Bool)) (ag4 : Bool) => c ≤ widthA x ∧ Pass x T T4 ag4 ∧ (ag4 = false → (∀ a, a < i → Cl1 x T4 a) ∧ (∀ b, b < k → Cl2 x T4 i b) ∧ ∀ d, d < c → Cl3 x T4 i k d)) (fun (c : Nat) (T4 : List (List Bool)) (ag4 : Bool) => widthA x - c) (0) (T3) (ag3) (by exact ⟨Nat.zero_le _, hp3, fun h => ⟨(hcl3 h).1, (hcl3 h).2, fun d hd => by omega⟩⟩) (St.Le.of ⟨(by first | rfl | (show some _ = some _; simp)), (by first | rfl | (show some _ = some _; simp)), (by first | rfl | (show some _ = some _; simp)), (by first | rfl | (show some _ = some _; simp)), (by first | rfl | (show some _ = some _; simp)), (by first | rfl | (show some _ = some _; simp)), (by first | rfl | (show some _ = some _; simp)), trivial⟩ rfl (by first | rfl | (simp))) ?_
          rintro c T4 ag4 ⟨hc4w, hp4, hcl4⟩
          have hTi : i < T4.length := by rw [hp4.shp.len]; exact hiN
          have hTk : k < (T4[i]).length := by rw [hp4.shp.row hTi]; exact hkN
          refine SCode.seq ?_
          refine SCode.seqR ?_
          refine SOps.move rfl ?_
          refine SOps.fieldPin rfl fieldB_28_2_2 ?_
          refine SOps.loadPin rfl flatB_26 ?_
          refine SOps.move rfl ?_
          refine SOps.indexM (i) rfl rfl sliceB_26_39_1 (by first | omega | (simp only [lenB]; omega)) (by first | omega | (simp only [lenB]; omega)) ?_
          refine SOps.loadPin rfl flatB_39 ?_
          refine SOps.lenM rfl sliceB_39_3_1 ?_
          refine SOps.bin rfl rfl rfl ?_
          refine SOps.move rfl ?_
          refine SOps.caseB 65 rfl (fun hb6 => ?_) (fun hb6 => ?_)
          · try simp only [decide_eq_true_eq, decide_eq_false_iff_not, Bool.not_eq_true', Bool.not_eq_false', beq_iff_eq, bne_iff_ne, ne_eq, beq_eq_false_iff_ne, bne_eq_false_iff_eq, Int.not_lt, Int.not_le, Nat.not_lt, Nat.not_le, Int.ofNat_lt, Int.ofNat_le, Bool.not_eq_eq_eq_not, Bool.not_true, Bool.not_false] at hb6
            refine SOps.move rfl ?_
            refine SOps.move rfl ?_
            refine SOps.indexS (i) rfl rfl sliceB_66_25_1 (by first | omega | (simp only [lenB]; omega)) (by first | omega | (simp only [lenB]; omega)) ?_
            refine SOps.loadK 0 (i) rfl flatB_25 rfl (by first | omega | (simp only [lenB]; omega)) (by first | omega | (simp; done) | (simp; omega) | (rw [rowJ_len (by rw [iniR_len]; omega), iniR_len]; omega)) rfl ?_
            refine SOps.move rfl ?_
            refine SOps.indexS (k) rfl rfl sliceB_25_4_1 (by first | omega | (simp only [lenB]; omega)) (by first | omega | (simp only [lenB]; omega)) ?_
            refine SOps.loadK (i + 1) (k) rfl flatB_4 (show (rowsH 4 encB bs T4)[i]? = _ from rowsH_at hbi (List.getElem?_eq_getElem hTi)) (by omega) hTk rfl ?_
            refine SOps.reSlot (t := 72) rfl (show _ = DV.v (.bool (tabB T4 i k)) from congrArg (fun b => DV.v (.bool b)) (tabB_at hTi hTk)) ?_
            refine SOps.un rfl rfl ?_
            refine SOps.pick rfl rfl ?_
            refine SOps.nil ?_
            refine SCode.cond rfl (fun hc7 => ?_) (fun hc7 => ?_)
            · try simp only [decide_eq_true_eq, decide_eq_false_iff_not, Bool.not_eq_true', Bool.not_eq_false', beq_iff_eq, bne_iff_ne, ne_eq, beq_eq_false_iff_ne, bne_eq_false_iff_eq, Int.not_lt, Int.not_le, Nat.not_lt, Nat.not_le, Int.ofNat_lt, Int.ofNat_le, Bool.not_eq_eq_eq_not, Bool.not_true, Bool.not_false] at hc7
              refine SCode.skip ?_
              show SCode _ _ _ _
              refine SCode.seq ?_
              refine SCode.block ?_
              refine SCode.seq ?_
              have hcw : c < widthA x := by omega
              have hff : tabB T4 i k = false := by simpa using hc7
              have hci : c < (x.nxt[i]).length := by omega
              have hck : c < (x.nxt[k]).length := by omega
              obtain ⟨ti, hti, htil⟩ : ∃ tn : Nat, (x.nxt[i])[c] = (tn : Int) ∧ tn < x.nxt.length := by have := hrowi.2 _ (List.getElem_mem hci); exact ⟨((x.nxt[i])[c]).toNat, by omega, by omega⟩
              obtain ⟨tk, htk, htkl⟩ : ∃ tn : Nat, (x.nxt[k])[c] = (tn : Int) ∧ tn < x.nxt.length := by have := hrowk.2 _ (List.getElem_mem hck); exact ⟨((x.nxt[k])[c]).toNat, by omega, by omega⟩
              have hbti : ti < bs.length := by omega
              have hTti : ti < T4.length := by rw [hp4.shp.len]; exact htil
              have hTtk : tk < (T4[ti]).length := by rw [hp4.shp.row hTti]; exact htkl
              have hnxi : nxA x i c = ti := by rw [nxA, getD_at hiN, getD_at hci, hti, Int.toNat_natCast]
              have hnxk : nxA x k c = tk := by rw [nxA, getD_at hkN, getD_at hck, htk, Int.toNat_natCast]
              apply SCode.drawAuto mixed_ [77, 78, 79, 80, 81, 82, 83, 84, 85, 86, 87, 88, 89, 90, 91, 92, 93, 94, 95, 96, 97] [[.inr 4], [.inr 1], [.inl 1], [.inr 9], [.inl 2, .inl 3], [.inl 4], [.inr 11], [.inl 5, .inl 6], [.inl 7], [.inl 0, .inl 8], [.inl 9], [.inr 1], [.inl 11], [.inr 10], [.inl 12, .inl 13], [.inl 14], [.inr 11], [.inl 15, .inl 16], [.inl 17], [.inl 10, .inl 18], [.inl 19]]
              · kernel_rfl
              · kernel_rfl
              · apply DOk.cons 77 
                · rfl
                · exact (NeedIs.inr _ rfl NeedIs.nil)
                · intro rest
                  refine SOps.move rfl ?_
                  exact SOps.nil rfl
                apply DOk.cons 78 
                · rfl
                · exact (NeedIs.inr _ rfl NeedIs.nil)
                · intro rest
                  refine SOps.fieldPin rfl fieldB_28_2_2 ?_
                  exact SOps.nil rfl
                apply DOk.cons 79 
                · rfl
                · exact (NeedIs.inl 0 _ _ rfl rfl NeedIs.nil)
                · intro rest
                  refine SOps.loadPin rfl flatB_26 ?_
                  exact SOps.nil rfl
                apply DOk.cons 80 
                · rfl
                · exact (NeedIs.inr _ rfl NeedIs.nil)
                · intro rest
                  refine SOps.move rfl ?_
                  exact SOps.nil rfl
                apply DOk.cons 81 
                · rfl
                · exact (NeedIs.inl 1 _ _ rfl rfl (NeedIs.inl 0 _ _ rfl rfl NeedIs.nil))
                · intro rest
                  refine SOps.indexM (i) rfl rfl sliceB_26_39_1 (by first | omega | (simp only [lenB]; omega)) (by first | omega | (simp only [lenB]; omega)) ?_
                  exact SOps.nil rfl
                apply DOk.cons 82 
                · rfl
                · exact (NeedIs.inl 0 _ _ rfl rfl NeedIs.nil)
                · intro rest
                  refine SOps.loadPin rfl flatB_39 ?_
                  exact SOps.nil rfl
                apply DOk.cons 83 
                · rfl
                · exact (NeedIs.inr _ rfl NeedIs.nil)
                · intro rest
                  refine SOps.move rfl ?_
                  exact SOps.nil rfl
                apply DOk.cons 84 
                · rfl
                · exact (NeedIs.inl 1 _ _ rfl rfl (NeedIs.inl 0 _ _ rfl rfl NeedIs.nil))
                · intro rest
                  refine SOps.indexM (c) rfl rfl sliceB_39_3_1 (by first | omega | (simp only [lenB]; omega)) (by first | omega | (simp only [lenB]; omega)) ?_
                  exact SOps.nil rfl
                apply DOk.cons 85 
                · rfl
                · exact (NeedIs.inl 0 _ _ rfl rfl NeedIs.nil)
                · intro rest
                  refine SOps.loadPin rfl flatB_3 ?_
                  exact SOps.nil rfl
                apply DOk.cons 86 
                · rfl
                · exact (NeedIs.inl 8 _ _ rfl rfl (NeedIs.inl 0 _ _ rfl rfl NeedIs.nil))
                · intro rest
                  refine SOps.indexS (ti) rfl rfl sliceB_66_25_1 (by first | omega | (simp only [lenB]; omega)) (by first | omega | (simp only [lenB]; omega)) ?_
                  exact SOps.nil rfl
                apply DOk.cons 87 
                · rfl
                · exact (NeedIs.inl 0 _ _ rfl rfl NeedIs.nil)
                · intro rest
                  refine SOps.loadK 0 (ti) rfl flatB_25 rfl (by first | omega | (simp only [lenB]; omega)) (by first | omega | (simp; done) | (simp; omega) | (rw [rowJ_len (by rw [iniR_len]; omega), iniR_len]; omega)) rfl ?_
                  exact SOps.nil rfl
                apply DOk.cons 88 
                · rfl
                · exact (NeedIs.inr _ rfl NeedIs.nil)
                · intro rest
                  refine SOps.fieldPin rfl fieldB_28_2_2 ?_
                  exact SOps.nil rfl
                apply DOk.cons 89 
                · rfl
                · exact (NeedIs.inl 0 _ _ rfl rfl NeedIs.nil)
                · intro rest
                  refine SOps.loadPin rfl flatB_26 ?_
                  exact SOps.nil rfl
                apply DOk.cons 90 
                · rfl
                · exact (NeedIs.inr _ rfl NeedIs.nil)
                · intro rest
                  refine SOps.move rfl ?_
                  exact SOps.nil rfl
                apply DOk.cons 91 
                · rfl
                · exact (NeedIs.inl 1 _ _ rfl rfl (NeedIs.inl 0 _ _ rfl rfl NeedIs.nil))
                · intro rest
                  refine SOps.indexM (k) rfl rfl sliceB_26_39_1 (by first | omega | (simp only [lenB]; omega)) (by first | omega | (simp only [lenB]; omega)) ?_
                  exact SOps.nil rfl
                apply DOk.cons 92 
                · rfl
                · exact (NeedIs.inl 0 _ _ rfl rfl NeedIs.nil)
                · intro rest
                  refine SOps.loadPin rfl flatB_39 ?_
                  exact SOps.nil rfl
                apply DOk.cons 93 
                · rfl
                · exact (NeedIs.inr _ rfl NeedIs.nil)
                · intro rest
                  refine SOps.move rfl ?_
                  exact SOps.nil rfl
                apply DOk.cons 94 
                · rfl
                · exact (NeedIs.inl 1 _ _ rfl rfl (NeedIs.inl 0 _ _ rfl rfl NeedIs.nil))
                · intro rest
                  refine SOps.indexM (c) rfl rfl sliceB_39_3_1 (by first | omega | (simp only [lenB]; omega)) (by first | omega | (simp only [lenB]; omega)) ?_
                  exact SOps.nil rfl
                apply DOk.cons 95 
                · rfl
                · exact (NeedIs.inl 0 _ _ rfl rfl NeedIs.nil)
                · intro rest
                  refine SOps.loadPin rfl flatB_3 ?_
                  exact SOps.nil rfl
                apply DOk.cons 96 
                · rfl
                · exact (NeedIs.inl 8 _ _ rfl rfl (NeedIs.inl 0 _ _ rfl rfl NeedIs.nil))
                · intro rest
                  refine SOps.indexS (tk) rfl rfl sliceB_25_4_1 (by first | omega | (simp only [lenB]; omega)) (by first | omega | (simp only [lenB]; omega)) ?_
                  exact SOps.nil rfl
                apply DOk.cons 97 
                · rfl
                · exact (NeedIs.inl 0 _ _ rfl rfl NeedIs.nil)
                · intro rest
                  refine SOps.loadK (ti + 1) (tk) rfl flatB_4 (show (rowsH 4 encB bs T4)[ti]? = _ from rowsH_at (List.getElem?_eq_getElem hbti) (List.getElem?_eq_getElem hTti)) (by omega) hTtk rfl ?_
                  exact SOps.nil rfl
                exact DOk.nil
              · rfl
              · show SCode _ _ _ _
                refine SCode.cond rfl (fun hc8 => ?_) (fun hc8 => ?_)
                · try simp only [decide_eq_true_eq, decide_eq_false_iff_not, Bool.not_eq_true', Bool.not_eq_false', beq_iff_eq, bne_iff_ne, ne_eq, beq_eq_false_iff_ne, bne_eq_false_iff_eq, Int.not_lt, Int.not_le, Nat.not_lt, Nat.not_le, Int.ofNat_lt, Int.ofNat_le, Bool.not_eq_eq_eq_not, Bool.not_true, Bool.not_false] at hc8
                  have hte : tabB T4 (nxA x i c) (nxA x k c) = true := by rw [hnxi, hnxk, ← tabB_at hTti hTtk]; exact hc8
                  refine SCode.region ?_
                  refine SOps.move rfl ?_
                  refine SOps.move rfl ?_
                  refine SOps.indexS (i) rfl rfl sliceB_66_25_1 (by first | omega | (simp only [lenB]; omega)) (by first | omega | (simp only [lenB]; omega)) ?_
                  refine SOps.loadK 0 (i) rfl flatB_25 rfl (by first | omega | (simp only [lenB]; omega)) (by first | omega | (simp; done) | (simp; omega) | (rw [rowJ_len (by rw [iniR_len]; omega), iniR_len]; omega)) rfl ?_
                  refine SOps.move rfl ?_
                  refine SOps.indexS (k) rfl rfl sliceB_25_4_1 (by first | omega | (simp only [lenB]; omega)) (by first | omega | (simp only [lenB]; omega)) ?_
                  refine SOps.storeK (i + 1) (k) (v := true) rfl rfl oneB_4 (show (rowsH 4 encB bs T4)[i]? = _ from rowsH_at hbi (List.getElem?_eq_getElem hTi)) (by omega) hTk rfl (fun _ => rfl) ?_
                  refine SOps.assign rfl ?_
                  refine SOps.nil ?_
                  show SCode _ _ _ _
                  refine SCode.region ?_
                  refine SOps.move rfl ?_
                  refine SOps.addI rfl rfl (by first | omega | (simp only [lenB]; omega)) (by first | omega | (simp only [lenB]; omega)) ?_
                  refine SOps.assign rfl ?_
                  refine SOps.nil ?_
                  first
                    | exact ⟨c + 1, setB T4 i k, true, ⟨by omega, hp4.set hx hiN hkN hcw hff hte, fun h => by cases h⟩, by omega, St.Le.of ⟨rfl, rfl, rfl, rfl, rfl, rfl, rfl, trivial⟩ rfl (by rw [setB, getD_at hTi]; exact congrArg (List.cons _) (rowsH_set _ hbi).symm)⟩
                    | exact ⟨c + 1, T4, ag4, ⟨by omega, hp4, fun h => ⟨(hcl4 h).1, (hcl4 h).2.1, fun d hd => by rcases Nat.lt_or_ge d c with h1 | h1; exact (hcl4 h).2.2 d h1; obtain rfl : d = c := (by omega); exact fun h2 => by rw [htf] at h2; cases h2⟩⟩, by omega, St.Le.of ⟨rfl, rfl, rfl, rfl, rfl, rfl, rfl, trivial⟩⟩
                · try simp only [decide_eq_true_eq, decide_eq_false_iff_not, Bool.not_eq_true', Bool.not_eq_false', beq_iff_eq, bne_iff_ne, ne_eq, beq_eq_false_iff_ne, bne_eq_false_iff_eq, Int.not_lt, Int.not_le, Nat.not_lt, Nat.not_le, Int.ofNat_lt, Int.ofNat_le, Bool.not_eq_eq_eq_not, Bool.not_true, Bool.not_false] at hc8
                  have htf : tabB T4 (nxA x i c) (nxA x k c) = false := by rw [hnxi, hnxk, ← tabB_at hTti hTtk]; exact hc8
                  refine SCode.skip ?_
                  show SCode _ _ _ _
                  refine SCode.region ?_
                  refine SOps.move rfl ?_
                  refine SOps.addI rfl rfl (by first | omega | (simp only [lenB]; omega)) (by first | omega | (simp only [lenB]; omega)) ?_
                  refine SOps.assign rfl ?_
                  refine SOps.nil ?_
                  first
                    | exact ⟨c + 1, setB T4 i k, true, ⟨by omega, hp4.set hx hiN hkN hcw hff hte, fun h => by cases h⟩, by omega, St.Le.of ⟨rfl, rfl, rfl, rfl, rfl, rfl, rfl, trivial⟩ rfl (by rw [setB, getD_at hTi]; exact congrArg (List.cons _) (rowsH_set _ hbi).symm)⟩
                    | exact ⟨c + 1, T4, ag4, ⟨by omega, hp4, fun h => ⟨(hcl4 h).1, (hcl4 h).2.1, fun d hd => by rcases Nat.lt_or_ge d c with h1 | h1; exact (hcl4 h).2.2 d h1; obtain rfl : d = c := (by omega); exact fun h2 => by rw [htf] at h2; cases h2⟩⟩, by omega, St.Le.of ⟨rfl, rfl, rfl, rfl, rfl, rfl, rfl, trivial⟩⟩
            · try simp only [decide_eq_true_eq, decide_eq_false_iff_not, Bool.not_eq_true', Bool.not_eq_false', beq_iff_eq, bne_iff_ne, ne_eq, beq_eq_false_iff_ne, bne_eq_false_iff_eq, Int.not_lt, Int.not_le, Nat.not_lt, Nat.not_le, Int.ofNat_lt, Int.ofNat_le, Bool.not_eq_eq_eq_not, Bool.not_true, Bool.not_false] at hc7
              have htt : tabB T4 i k = true := by simpa using hc7
              refine SCode.exit ?_
              show SCode _ _ _ _
              refine SCode.region ?_
              refine SOps.move rfl ?_
              refine SOps.addI rfl rfl (by first | omega | (simp only [lenB]; omega)) (by first | omega | (simp only [lenB]; omega)) ?_
              refine SOps.assign rfl ?_
              refine SOps.nil ?_
              first
                | exact ⟨k + 1, T4, ag4, ⟨by omega, hp4, fun h => ⟨(hcl4 h).1, fun b hb => by rcases Nat.lt_or_ge b k with h1 | h1; exact (hcl4 h).2.1 b h1; obtain rfl : b = k := (by omega); exact fun d hd _ => htt⟩⟩, by omega, St.Le.of ⟨rfl, rfl, rfl, rfl, rfl, rfl, trivial⟩⟩
                | exact ⟨k + 1, T4, ag4, ⟨by omega, hp4, fun h => ⟨(hcl4 h).1, fun b hb => by rcases Nat.lt_or_ge b k with h1 | h1; exact (hcl4 h).2.1 b h1; obtain rfl : b = k := (by omega); exact fun d hd => (hcl4 h).2.2 d (by omega)⟩⟩, by omega, St.Le.of ⟨rfl, rfl, rfl, rfl, rfl, rfl, trivial⟩⟩
          · try simp only [decide_eq_true_eq, decide_eq_false_iff_not, Bool.not_eq_true', Bool.not_eq_false', beq_iff_eq, bne_iff_ne, ne_eq, beq_eq_false_iff_ne, bne_eq_false_iff_eq, Int.not_lt, Int.not_le, Nat.not_lt, Nat.not_le, Int.ofNat_lt, Int.ofNat_le, Bool.not_eq_eq_eq_not, Bool.not_true, Bool.not_false] at hb6
            refine SOps.skip rfl ?_
            refine SOps.skip rfl ?_
            refine SOps.skip rfl ?_
            refine SOps.skip rfl ?_
            refine SOps.skip rfl ?_
            refine SOps.skip rfl ?_
            refine SOps.skip rfl ?_
            refine SOps.skip rfl ?_
            refine SOps.pick rfl rfl ?_
            refine SOps.nil ?_
            refine SCode.cond rfl (fun h => by cases h) (fun _ => ?_)
            refine SCode.exit ?_
            show SCode _ _ _ _
            refine SCode.region ?_
            refine SOps.move rfl ?_
            refine SOps.addI rfl rfl (by first | omega | (simp only [lenB]; omega)) (by first | omega | (simp only [lenB]; omega)) ?_
            refine SOps.assign rfl ?_
            refine SOps.nil ?_
            first
              | exact ⟨k + 1, T4, ag4, ⟨by omega, hp4, fun h => ⟨(hcl4 h).1, fun b hb => by rcases Nat.lt_or_ge b k with h1 | h1; exact (hcl4 h).2.1 b h1; obtain rfl : b = k := (by omega); exact fun d hd _ => htt⟩⟩, by omega, St.Le.of ⟨rfl, rfl, rfl, rfl, rfl, rfl, trivial⟩⟩
              | exact ⟨k + 1, T4, ag4, ⟨by omega, hp4, fun h => ⟨(hcl4 h).1, fun b hb => by rcases Nat.lt_or_ge b k with h1 | h1; exact (hcl4 h).2.1 b h1; obtain rfl : b = k := (by omega); exact fun d hd => (hcl4 h).2.2 d (by omega)⟩⟩, by omega, St.Le.of ⟨rfl, rfl, rfl, rfl, rfl, rfl, trivial⟩⟩
        · try simp only [decide_eq_true_eq, decide_eq_false_iff_not, Bool.not_eq_true', Bool.not_eq_false', beq_iff_eq, bne_iff_ne, ne_eq, beq_eq_false_iff_ne, bne_eq_false_iff_eq, Int.not_lt, Int.not_le, Nat.not_lt, Nat.not_le, Int.ofNat_lt, Int.ofNat_le, Bool.not_eq_eq_eq_not, Bool.not_true, Bool.not_false] at hc5
          refine SCode.exit ?_
          show SCode _ _ _ _
          refine SCode.region ?_
          refine SOps.move rfl ?_
          refine SOps.addI rfl rfl (by first | omega | (simp only [lenB]; omega)) (by first | omega | (simp only [lenB]; omega)) ?_
          refine SOps.assign rfl ?_
          refine SOps.nil ?_
          exact ⟨i + 1, T3, ag3, ⟨by omega, hp3, fun h a ha => by rcases Nat.lt_or_ge a i with h1 | h1; exact (hcl3 h).1 a h1; obtain rfl : a = i := (by omega); exact fun b hb => (hcl3 h).2 b (by omega)⟩, by omega, St.Le.of ⟨rfl, rfl, rfl, rfl, rfl, trivial⟩⟩
      · try simp only [decide_eq_true_eq, decide_eq_false_iff_not, Bool.not_eq_true', Bool.not_eq_false', beq_iff_eq, bne_iff_ne, ne_eq, beq_eq_false_iff_ne, bne_eq_false_iff_eq, Int.not_lt, Int.not_le, Nat.not_lt, Nat.not_le, Int.ofNat_lt, Int.ofNat_le, Bool.not_eq_eq_eq_not, Bool.not_true, Bool.not_false] at hc4
        refine SCode.exit ?_
        exact ⟨T2, ag2, ⟨hp2.shp, hp2.tab, fun h a ha => hcl2 h a (by omega)⟩, by (rw [hag]; have h1 := hp2.cnt; have h2 := hp2.less; cases ag2 <;> simp at h2 ⊢ <;> omega), St.Le.of ⟨rfl, rfl, rfl, rfl, trivial⟩⟩
    · try simp only [decide_eq_true_eq, decide_eq_false_iff_not, Bool.not_eq_true', Bool.not_eq_false', beq_iff_eq, bne_iff_ne, ne_eq, beq_eq_false_iff_ne, bne_eq_false_iff_eq, Int.not_lt, Int.not_le, Nat.not_lt, Nat.not_le, Int.ofNat_lt, Int.ofNat_le, Bool.not_eq_eq_eq_not, Bool.not_true, Bool.not_false] at hc3
      refine SCode.exit ?_
      show SCode _ _ _ _
      refine SCode.seqR ?_
      refine SOps.freezeRows (ko := ko) rfl bs T [] (by rw [hsh.len]; exact hbl) (fun r hr => by obtain ⟨i, hi⟩ := List.mem_iff_getElem?.1 hr; exact hsh.rows i r hi) ?_
      refine SOps.freezeS (t := 4) 0 rfl rfl rfl (by simp; rw [hsh.len]; exact hbl) ?_
      refine SOps.move rfl ?_
      refine SOps.assign rfl ?_
      refine SOps.nil ?_
      refine SCode.drop ?_
      refine SCode.ret ?_
      exact ⟨_, Res.one (.tmp rfl), ⟨T, rfl, hsh, fun i k hi hk => htb.iff hx (fun i k c hi hk hc => hcl hc3 i hi k hk c hc) hi hk⟩, rfl⟩
theorem idxE_at {α : Type} {eq : α → α → Bool} {qs : List α} {t : α} {i : Nat} (h : i < qs.length) (e : eq qs[i] t = true) (hf : ∀ q ∈ qs.take i, eq q t = false) : idxE eq qs t = some i := by
  unfold idxE
  rw [List.findIdx?_eq_some_iff_getElem]
  exact ⟨h, e, fun j hj => by have := hf _ (List.mem_take_iff_getElem.2 ⟨j, by omega, rfl⟩); simpa using this⟩
theorem idxE_no {α : Type} {eq : α → α → Bool} {qs : List α} {t : α} (hf : ∀ q ∈ qs, eq q t = false) : idxE eq qs t = none := by
  unfold idxE
  rw [List.findIdx?_eq_none_iff]
  exact fun q hq => by simpa using hf q hq
theorem idxE_congr {α : Type} {eq eq' : α → α → Bool} {t : α} : ∀ {qs : List α}, (∀ q ∈ qs, eq q t = eq' q t) → idxE eq qs t = idxE eq' qs t
  | [], _ => rfl
  | q :: qs, h => by
    have := idxE_congr (qs := qs) (fun q' hq' => h q' (by simp [hq']))
    simp only [idxE] at this
    simp only [idxE, List.findIdx?_cons, h q (by simp), this]
theorem qClass (x : Acc) (T : List (List Bool)) (qs : List Nat) (bk t : Nat) (hsh : Shp x.nxt.length T) (hqs : ∀ q ∈ qs, q < x.nxt.length) (ht : t < x.nxt.length) (hql : qs.length ≤ 1048576) : GCall Tryd.prog E 49 [.isl false 1 (T.map encRow), .sl bk 1 0 qs.length, .v (.int .i64 ((t : Nat) : Int))] [(bk, .row 3 1 (qs.map encN))] (fun d H => d = .v (.int .i64 (idxO (idxE (fun q t => !tabB T q t) qs t))) ∧ H = [(bk, .row 3 1 (qs.map encN))]) := by
  refine GCall.body (C := ⟨Tryd.prog, E, false⟩) Tryd.func49 rfl (fun h => by cases h) (by kernel_rfl) rfl ?_
  refine SCode.seqR ?_
  refine SOps.assign rfl ?_
  refine SOps.nil ?_
  refine SCode.seq ?_
  refine SCode.seqR ?_
  refine SOps.assign rfl ?_
  refine SOps.nil ?_
  refine SCode.block ?_
  refine SCode.loop1 (fun (i : Nat) => (⟨26, [(0, .isl false 1 (T.map encRow)), (1, .sl bk 1 0 qs.length), (2, .v (.int .i64 ((t : Nat) : Int))), (7, .v (.int .i64 (i : Int)))], [(bk, .row 3 1 (qs.map encN))]⟩ : St)) (fun (i : Nat) => i ≤ qs.length ∧ ∀ q ∈ qs.take i, (fun q t => !tabB T q t) q t = false) (fun (i : Nat) => qs.length - i) (0) (by simp) (St.Le.of ⟨(by first | rfl | (show some _ = some _; simp)), (by first | rfl | (show some _ = some _; simp)), (by first | rfl | (show some _ = some _; simp)), (by first | rfl | (show some _ = some _; simp)), trivial⟩ rfl (by first | rfl | (simp))) ?_
  rintro i ⟨hi, hf⟩
  refine SCode.seq ?_
  refine SCode.seqR ?_
  refine SOps.move rfl ?_
  refine SOps.move rfl ?_
  refine SOps.lenSl rfl sliceB_39_3_1 ?_
  refine SOps.bin rfl rfl rfl ?_
  refine SOps.nil ?_
  refine SCode.cond rfl (fun hc1 => ?_) (fun hc1 => ?_)
  · try simp only [decide_eq_true_eq, decide_eq_false_iff_not, Bool.not_eq_true', Bool.not_eq_false', beq_iff_eq, bne_iff_ne, ne_eq, beq_eq_false_iff_ne, bne_eq_false_iff_eq, Int.not_lt, Int.not_le, Nat.not_lt, Nat.not_le, Int.ofNat_lt, Int.ofNat_le, Bool.not_eq_eq_eq_not, Bool.not_true, Bool.not_false] at hc1
    refine SCode.skip ?_
    show SCode _ _ _ _
    refine SCode.seq ?_
    refine SCode.block ?_
    refine SCode.seqR ?_
    have hx : i < qs.length := by omega
    have hqn := hqs _ (List.getElem_mem hx)
    have hTq : qs[i] < T.length := by rw [hsh.len]; exact hqn
    have hTt : t < (T[qs[i]]).length := by rw [hsh.row hTq]; exact ht
    refine SOps.move rfl ?_
    refine SOps.move rfl ?_
    refine SOps.move rfl ?_
    refine SOps.indexS (i) rfl rfl sliceB_39_3_1 (by first | omega | (simp only [lenB]; omega)) (by first | omega | (simp only [lenB]; omega)) ?_
    refine SOps.loadK 0 (i) rfl flatB_3 rfl (by first | omega | (simp only [lenB]; omega)) (by first | omega | (simp; done) | (simp; omega)) rfl ?_
    refine SOps.indexM (qs[i]) rfl rfl sliceB_66_25_1 (by first | omega | (simp only [lenB]; omega)) (by first | omega | (simp only [lenB]; omega)) ?_
    refine SOps.loadPin rfl flatB_25 ?_
    refine SOps.move rfl ?_
    refine SOps.indexM (t) rfl rfl sliceB_25_4_1 (by first | omega | (simp only [lenB]; omega)) (by first | omega | (simp only [lenB]; omega)) ?_
    refine SOps.loadPin rfl flatB_4 ?_
    refine SOps.un rfl rfl ?_
    refine SOps.nil ?_
    refine SCode.cond rfl (fun hc2 => ?_) (fun hc2 => ?_)
    · try simp only [decide_eq_true_eq, decide_eq_false_iff_not, Bool.not_eq_true', Bool.not_eq_false', beq_iff_eq, bne_iff_ne, ne_eq, beq_eq_false_iff_ne, bne_eq_false_iff_eq, Int.not_lt, Int.not_le, Nat.not_lt, Nat.not_le, Int.ofNat_lt, Int.ofNat_le, Bool.not_eq_eq_eq_not, Bool.not_true, Bool.not_false] at hc2
      refine SCode.seqR ?_
      refine SOps.move rfl ?_
      refine SOps.assign rfl ?_
      refine SOps.nil ?_
      refine SCode.ret ?_
      exact ⟨_, Res.one (.tmp rfl), by rw [idxE_at hx (by rw [← tabB_at hTq hTt]; simpa using hc2) hf]; rfl, rfl⟩
    · try simp only [decide_eq_true_eq, decide_eq_false_iff_not, Bool.not_eq_true', Bool.not_eq_false', beq_iff_eq, bne_iff_ne, ne_eq, beq_eq_false_iff_ne, bne_eq_false_iff_eq, Int.not_lt, Int.not_le, Nat.not_lt, Nat.not_le, Int.ofNat_lt, Int.ofNat_le, Bool.not_eq_eq_eq_not, Bool.not_true, Bool.not_false] at hc2
      refine SCode.skip ?_
      show SCode _ _ _ _
      refine SCode.region ?_
      refine SOps.move rfl ?_
      refine SOps.addI rfl rfl (by first | omega | (simp only [lenB]; omega)) (by first | omega | (simp only [lenB]; omega)) ?_
      refine SOps.assign rfl ?_
      refine SOps.nil ?_
      exact ⟨i + 1, ⟨by omega, take_more hf hx (by show (!tabB T (qs[i]) t) = false; rw [← tabB_at hTq hTt]; simpa using hc2)⟩, by omega, St.Le.of ⟨rfl, rfl, rfl, rfl, trivial⟩⟩
  · try simp only [decide_eq_true_eq, decide_eq_false_iff_not, Bool.not_eq_true', Bool.not_eq_false', beq_iff_eq, bne_iff_ne, ne_eq, beq_eq_false_iff_ne, bne_eq_false_iff_eq, Int.not_lt, Int.not_le, Nat.not_lt, Nat.not_le, Int.ofNat_lt, Int.ofNat_le, Bool.not_eq_eq_eq_not, Bool.not_true, Bool.not_false] at hc1
    refine SCode.exit ?_
    show SCode _ _ _ _
    refine SCode.seqR ?_
    refine SOps.assign rfl ?_
    refine SOps.nil ?_
    refine SCode.ret ?_
    exact ⟨_, Res.one (.tmp rfl), by rw [idxE_no (all_of (by omega) hf)]; rfl, rfl⟩
theorem qMinimal (x : Acc)  : GCall Tryd.prog E 26 [.agg (encAcc x)] [] (fun d H => d = (if accV x then .agg (encAcc (minA x)) else .agg [.v (.int .i64 0), .v (.slice none 0 0), .v (.slice none 0 0)])) := by
  refine GCall.body (C := ⟨Tryd.prog, E, true⟩) Tryd.func26 rfl (fun _ => rfl) (by kernel_rfl) rfl ?_
  refine SCode.seqR ?_
  refine SOps.boxAM rfl rfl ?_
  refine SOps.alloc (sz := 3) zeroIs_28 (fun b0 hb_0 => ?_)
  refine SOps.nil ?_
  refine SCode.seq ?_
  refine SCode.seqR ?_
  refine SOps.loadPinA rfl aggB_28_3 (Nat.le_of_ble_eq_true rfl) ?_
  refine SOps.callP (qValidAcc _) rfl ?_
  rintro _ rfl
  refine SOps.un rfl rfl ?_
  refine SOps.nil ?_
  refine SCode.cond rfl (fun hc1 => ?_) (fun hc1 => ?_)
  · try simp only [decide_eq_true_eq, decide_eq_false_iff_not, Bool.not_eq_true', Bool.not_eq_false', beq_iff_eq, bne_iff_ne, ne_eq, beq_eq_false_iff_ne, bne_eq_false_iff_eq, Int.not_lt, Int.not_le, Nat.not_lt, Nat.not_le, Int.ofNat_lt, Int.ofNat_le, Bool.not_eq_eq_eq_not, Bool.not_true, Bool.not_false] at hc1
    refine SCode.seqR ?_
    refine SOps.buildM placesB_28 zeroIs_28 rfl rfl ?_
    refine SOps.storeAM 0 rfl rfl aggB_28_3 rfl ?_
    refine SOps.nil ?_
    refine SCode.ret ?_
    exact ⟨_, Res.one (.agg (i := 0) (k := 0) (j := 0) rfl aggB_28_3 rfl rfl rfl (Nat.le_of_ble_eq_true rfl)), (by rw [if_neg (by rw [hc1]; simp)]; rfl)⟩
  · try simp only [decide_eq_true_eq, decide_eq_false_iff_not, Bool.not_eq_true', Bool.not_eq_false', beq_iff_eq, bne_iff_ne, ne_eq, beq_eq_false_iff_ne, bne_eq_false_iff_eq, Int.not_lt, Int.not_le, Nat.not_lt, Nat.not_le, Int.ofNat_lt, Int.ofNat_le, Bool.not_eq_eq_eq_not, Bool.not_true, Bool.not_false] at hc1
    refine SCode.skip ?_
    show SCode _ _ _ _
    refine SCode.seqR ?_
    have hv : accV x = true := hc1
    have hax : accOK x = true := by have h := hv; simp only [accV, Bool.and_eq_true] at h; exact h.1
    have h65 : widthA x ≤ 65 := by have h := hv; simp only [accV, Bool.and_eq_true, decide_eq_true_eq] at h; exact h.2
    have hho := headOK_iff.1 (by have h := hax; simp only [accOK, Bool.and_eq_true] at h; exact h.1)
    have hst := start_lt hax
    refine SOps.loadPinA rfl aggB_28_3 (Nat.le_of_ble_eq_true rfl) ?_
    refine SOps.callH [] [] _ (qApart x hax h65) rfl rfl (fun d H hR => ?_)
    obtain ⟨⟨T, rfl, hsh, hTE⟩, rfl⟩ := hR
    have hcl : ∀ q t, q < x.nxt.length → t < x.nxt.length → (!tabB T q t) = eqC (clsR x) q t := fun q t hq ht => by rw [Bool.eq_iff_iff, eqC_iff hax hq ht, Bool.not_eq_true', ← Bool.not_eq_true, hTE q t hq ht, Classical.not_not]
    refine SOps.assign rfl ?_
    refine SOps.nil ?_
    refine SCode.seqR ?_
    refine SOps.fieldPin rfl fieldB_28_0_0 ?_
    refine SOps.loadPin rfl flatB_3 ?_
    refine SOps.reSlot (t := 18) rfl (show _ = DV.v (.int .i64 ((x.start.toNat : Nat) : Int)) from congrArg (fun n => DV.v (.int .i64 n)) hst.2.symm) ?_
    refine SOps.litO sliceB_39_3_1 zeroIs_3 rfl (fun b1 hb_1 => ?_)
    refine SOps.assign rfl ?_
    refine SOps.nil ?_
    refine SCode.seqR ?_
    refine SOps.buildM placesB_28 zeroIs_28 rfl rfl ?_
    refine SOps.alloc (sz := 3) zeroIs_28 (fun b2 hb_2 => ?_)
    refine SOps.storeAM 0 rfl rfl aggB_28_3 rfl ?_
    refine SOps.nil ?_
    refine SCode.seq ?_
    refine SCode.seqR ?_
    refine SOps.assign rfl ?_
    refine SOps.nil ?_
    refine SCode.block ?_
    refine SCode.loop7 (fun (i : Nat) (qs : List Nat) (kq : Nat) (fins : List Bool) (kf : Nat) (nxt : List (List Nat)) (kn : Nat) => (⟨88, [(1, .ipin (encAcc x)), (2, .ref b0 0), (3, .isl false 1 (T.map encRow)), (4, .sl kq 1 0 qs.length), (5, .ref b2 0), (6, .v (.int .i64 (i : Int)))], [(b2, .row 28 3 [[.v (.int .i64 0), accD 1 kf (fins.map encB), accD 1 kn (nxt.map encRN)]]), (kq, .row 3 1 (qs.map encN)), (b0, .row 28 3 [[.v (.int .i64 0), .v (.slice none 0 0), .v (.slice none 0 0)]])] ++ (accH 4 1 kf (fins.map encB) ++ (accH 39 1 kn (nxt.map encRN) ++ []))⟩ : St)) (fun (i : Nat) (qs : List Nat) (kq : Nat) (fins : List Bool) (kf : Nat) (nxt : List (List Nat)) (kn : Nat) => i ≤ qs.length ∧ 0 < qs.length ∧ QsE x qs ∧ fins.length = i ∧ nxt.length = i ∧ minE (eqC (clsR x)) (nxL x) (finN x) (513 - i) i qs fins nxt = minRun x) (fun (i : Nat) (qs : List Nat) (kq : Nat) (fins : List Bool) (kf : Nat) (nxt : List (List Nat)) (kn : Nat) => 512 - i) (0) ([x.start.toNat]) (b1) ([]) (0) ([]) (0) (by exact ⟨Nat.zero_le _, Nat.one_pos, QsE.one hax, rfl, rfl, rfl⟩) (St.Le.of ⟨(by first | rfl | (show some _ = some _; simp)), (by first | rfl | (show some _ = some _; simp)), (by first | rfl | (show some _ = some _; simp)), (by first | rfl | (show some _ = some _; simp)), (by first | rfl | (show some _ = some _; simp)), (by first | rfl | (show some _ = some _; simp)), trivial⟩ rfl (by first | rfl | (simp))) ?_
    rintro i qs kq fins kf nxt kn ⟨hi, hqp, hqo, hfl, hnl, hacc⟩
    have hql := hqo.len hax
    refine SCode.seq ?_
    refine SCode.seqR ?_
    refine SOps.move rfl ?_
    refine SOps.move rfl ?_
    refine SOps.lenSl rfl sliceB_39_3_1 ?_
    refine SOps.bin rfl rfl rfl ?_
    refine SOps.nil ?_
    refine SCode.cond rfl (fun hc2 => ?_) (fun hc2 => ?_)
    · try simp only [decide_eq_true_eq, decide_eq_false_iff_not, Bool.not_eq_true', Bool.not_eq_false', beq_iff_eq, bne_iff_ne, ne_eq, beq_eq_false_iff_ne, bne_eq_false_iff_eq, Int.not_lt, Int.not_le, Nat.not_lt, Nat.not_le, Int.ofNat_lt, Int.ofNat_le, Bool.not_eq_eq_eq_not, Bool.not_true, Bool.not_false] at hc2
      refine SCode.skip ?_
      show SCode _ _ _ _
      refine SCode.seq ?_
      refine SCode.block ?_
      refine SCode.seqR ?_
      refine SOps.litO sliceB_39_3_1 zeroIs_3 rfl (fun b3 hb_3 => ?_)
      refine SOps.assign rfl ?_
      refine SOps.nil ?_
      refine SCode.seq ?_
      refine SCode.seqR ?_
      refine SOps.assign rfl ?_
      refine SOps.nil ?_
      refine SCode.block ?_
      have hi7 : i < qs.length := by omega
      refine SCode.loop5 (fun (j : Nat) (q2 : List Nat) (done : List Nat) (kq2 : Nat) (kr : Nat) => (⟨88, [(1, .ipin (encAcc x)), (2, .ref b0 0), (3, .isl false 1 (T.map encRow)), (4, .sl kq2 1 0 q2.length), (5, .ref b2 0), (6, .v (.int .i64 (i : Int))), (7, .sl kr 1 0 done.length), (8, .v (.int .i64 (j : Int)))], [(kr, .row 3 1 (done.map encN))] ++ ([(b2, .row 28 3 [[.v (.int .i64 0), accD 1 kf (fins.map encB), accD 1 kn (nxt.map encRN)]]), (kq2, .row 3 1 (q2.map encN)), (b0, .row 28 3 [[.v (.int .i64 0), .v (.slice none 0 0), .v (.slice none 0 0)]])] ++ (accH 4 1 kf (fins.map encB) ++ (accH 39 1 kn (nxt.map encRN) ++ [])))⟩ : St)) (fun (j : Nat) (q2 : List Nat) (done : List Nat) (kq2 : Nat) (kr : Nat) => ∃ (hi2 : i < q2.length), q2[i] = qs[i] ∧ j ≤ widthA x ∧ done.length = j ∧ QsE x q2 ∧ rowE (eqC (clsR x)) ((nxL x (qs[i])).drop j) q2 done = rowE (eqC (clsR x)) (nxL x (qs[i])) qs []) (fun (j : Nat) (q2 : List Nat) (done : List Nat) (kq2 : Nat) (kr : Nat) => widthA x - j) (0) (qs) ([]) (kq) (b3) (by exact ⟨hi7, rfl, Nat.zero_le _, rfl, hqo, rfl⟩) (St.Le.of ⟨(by first | rfl | (show some _ = some _; simp)), (by first | rfl | (show some _ = some _; simp)), (by first | rfl | (show some _ = some _; simp)), (by first | rfl | (show some _ = some _; simp)), (by first | rfl | (show some _ = some _; simp)), (by first | rfl | (show some _ = some _; simp)), (by first | rfl | (show some _ = some _; simp)), (by first | rfl | (show some _ = some _; simp)), trivial⟩ rfl (by first | rfl | (simp))) ?_
      rintro j q2 done kq2 kr ⟨hi2, hqe, hj, hdl, hqk, hrw⟩
      have hql2 := hqk.len hax
      have hqi2 : i < q2.length := hi2
      have hqn := hqk.good _ (List.getElem_mem hi2)
      refine SCode.seq ?_
      refine SCode.seq ?_
      apply SCode.drawAuto mixed_ [28, 29, 30, 31, 32, 33, 34, 35, 36, 37, 38] [[.inr 8], [.inr 1], [.inl 1], [.inr 4], [.inr 6], [.inl 3, .inl 4], [.inl 5], [.inl 2, .inl 6], [.inl 7], [.inl 8], [.inl 0, .inl 9]]
      · kernel_rfl
      · kernel_rfl
      · apply DOk.cons 28 
        · rfl
        · exact (NeedIs.inr _ rfl NeedIs.nil)
        · intro rest
          refine SOps.move rfl ?_
          exact SOps.nil rfl
        apply DOk.cons 29 
        · rfl
        · exact (NeedIs.inr _ rfl NeedIs.nil)
        · intro rest
          refine SOps.fieldPin rfl fieldB_28_2_2 ?_
          exact SOps.nil rfl
        apply DOk.cons 30 
        · rfl
        · exact (NeedIs.inl 0 _ _ rfl rfl NeedIs.nil)
        · intro rest
          refine SOps.loadPin rfl flatB_26 ?_
          exact SOps.nil rfl
        apply DOk.cons 31 
        · rfl
        · exact (NeedIs.inr _ rfl NeedIs.nil)
        · intro rest
          refine SOps.move rfl ?_
          exact SOps.nil rfl
        apply DOk.cons 32 
        · rfl
        · exact (NeedIs.inr _ rfl NeedIs.nil)
        · intro rest
          refine SOps.move rfl ?_
          exact SOps.nil rfl
        apply DOk.cons 33 
        · rfl
        · exact (NeedIs.inl 1 _ _ rfl rfl (NeedIs.inl 0 _ _ rfl rfl NeedIs.nil))
        · intro rest
          refine SOps.indexS (i) rfl rfl sliceB_39_3_1 (by first | omega | (simp only [lenB]; omega)) (by first | omega | (simp only [lenB]; omega)) ?_
          exact SOps.nil rfl
        apply DOk.cons 34 
        · rfl
        · exact (NeedIs.inl 0 _ _ rfl rfl NeedIs.nil)
        · intro rest
          refine SOps.loadK 2 (i) rfl flatB_3 rfl (by first | omega | (simp only [lenB]; omega)) (by first | omega | (simp; done) | (simp; omega)) rfl ?_
          exact SOps.nil rfl
        apply DOk.cons 35 
        · rfl
        · exact (NeedIs.inl 4 _ _ rfl rfl (NeedIs.inl 0 _ _ rfl rfl NeedIs.nil))
        · intro rest
          refine SOps.indexM (q2[i]) rfl rfl sliceB_26_39_1 (by first | omega | (simp only [lenB]; omega)) (by first | omega | (simp only [lenB]; omega)) ?_
          exact SOps.nil rfl
        apply DOk.cons 36 
        · rfl
        · exact (NeedIs.inl 0 _ _ rfl rfl NeedIs.nil)
        · intro rest
          refine SOps.loadPin rfl flatB_39 ?_
          exact SOps.nil rfl
        apply DOk.cons 37 
        · rfl
        · exact (NeedIs.inl 0 _ _ rfl rfl NeedIs.nil)
        · intro rest
          refine SOps.lenM rfl sliceB_39_3_1 ?_
          exact SOps.nil rfl
        apply DOk.cons 38 
        · rfl
        · exact (NeedIs.inl 9 _ _ rfl rfl (NeedIs.inl 0 _ _ rfl rfl NeedIs.nil))
        · intro rest
          refine SOps.bin rfl rfl rfl ?_
          exact SOps.nil rfl
        exact DOk.nil
      · rfl
      · show SCode _ _ _ _
        refine SCode.cond rfl (fun hc3 => ?_) (fun hc3 => ?_)
        · try simp only [decide_eq_true_eq, decide_eq_false_iff_not, Bool.not_eq_true', Bool.not_eq_false', beq_iff_eq, bne_iff_ne, ne_eq, beq_eq_false_iff_ne, bne_eq_false_iff_eq, Int.not_lt, Int.not_le, Nat.not_lt, Nat.not_le, Int.ofNat_lt, Int.ofNat_le, Bool.not_eq_eq_eq_not, Bool.not_true, Bool.not_false] at hc3
          refine SCode.skip ?_
          show SCode _ _ _ _
          refine SCode.seq ?_
          refine SCode.block ?_
          refine SCode.seq ?_
          have hjx : j < (x.nxt[q2[i]]).length := by omega
          obtain ⟨tn, htn, htl⟩ : ∃ tn : Nat, (x.nxt[q2[i]])[j] = (tn : Int) ∧ tn < x.nxt.length := by have := (accOK_row hax hqn).2 _ (List.getElem_mem hjx); exact ⟨((x.nxt[q2[i]])[j]).toNat, by omega, by omega⟩
          have hjw : j < widthA x := by have := (accOK_row hax hqn).1; omega
          apply SCode.drawAuto mixed_ [41, 42, 43, 44, 45, 46, 47, 48, 49, 50, 51, 9] [[.inr 1], [.inl 0], [.inr 4], [.inr 6], [.inl 2, .inl 3], [.inl 4], [.inl 1, .inl 5], [.inl 6], [.inr 8], [.inl 7, .inl 8], [.inl 9], [.inl 10]]
          · kernel_rfl
          · kernel_rfl
          · apply DOk.cons 41 
            · rfl
            · exact (NeedIs.inr _ rfl NeedIs.nil)
            · intro rest
              refine SOps.fieldPin rfl fieldB_28_2_2 ?_
              exact SOps.nil rfl
            apply DOk.cons 42 
            · rfl
            · exact (NeedIs.inl 0 _ _ rfl rfl NeedIs.nil)
            · intro rest
              refine SOps.loadPin rfl flatB_26 ?_
              exact SOps.nil rfl
            apply DOk.cons 43 
            · rfl
            · exact (NeedIs.inr _ rfl NeedIs.nil)
            · intro rest
              refine SOps.move rfl ?_
              exact SOps.nil rfl
            apply DOk.cons 44 
            · rfl
            · exact (NeedIs.inr _ rfl NeedIs.nil)
            · intro rest
              refine SOps.move rfl ?_
              exact SOps.nil rfl
            apply DOk.cons 45 
            · rfl
            · exact (NeedIs.inl 1 _ _ rfl rfl (NeedIs.inl 0 _ _ rfl rfl NeedIs.nil))
            · intro rest
              refine SOps.indexS (i) rfl rfl sliceB_39_3_1 (by first | omega | (simp only [lenB]; omega)) (by first | omega | (simp only [lenB]; omega)) ?_
              exact SOps.nil rfl
            apply DOk.cons 46 
            · rfl
            · exact (NeedIs.inl 0 _ _ rfl rfl NeedIs.nil)
            · intro rest
              refine SOps.loadK 2 (i) rfl flatB_3 rfl (by first | omega | (simp only [lenB]; omega)) (by first | omega | (simp; done) | (simp; omega)) rfl ?_
              exact SOps.nil rfl
            apply DOk.cons 47 
            · rfl
            · exact (NeedIs.inl 4 _ _ rfl rfl (NeedIs.inl 0 _ _ rfl rfl NeedIs.nil))
            · intro rest
              refine SOps.indexM (q2[i]) rfl rfl sliceB_26_39_1 (by first | omega | (simp only [lenB]; omega)) (by first | omega | (simp only [lenB]; omega)) ?_
              exact SOps.nil rfl
            apply DOk.cons 48 
            · rfl
            · exact (NeedIs.inl 0 _ _ rfl rfl NeedIs.nil)
            · intro rest
              refine SOps.loadPin rfl flatB_39 ?_
              exact SOps.nil rfl
            apply DOk.cons 49 
            · rfl
            · exact (NeedIs.inr _ rfl NeedIs.nil)
            · intro rest
              refine SOps.move rfl ?_
              exact SOps.nil rfl
            apply DOk.cons 50 
            · rfl
            · exact (NeedIs.inl 1 _ _ rfl rfl (NeedIs.inl 0 _ _ rfl rfl NeedIs.nil))
            · intro rest
              refine SOps.indexM (j) rfl rfl sliceB_39_3_1 (by first | omega | (simp only [lenB]; omega)) (by first | omega | (simp only [lenB]; omega)) ?_
              exact SOps.nil rfl
            apply DOk.cons 51 
            · rfl
            · exact (NeedIs.inl 0 _ _ rfl rfl NeedIs.nil)
            · intro rest
              refine SOps.loadPin rfl flatB_3 ?_
              exact SOps.nil rfl
            apply DOk.cons 9 
            · rfl
            · exact (NeedIs.inl 0 _ _ rfl rfl NeedIs.nil)
            · intro rest
              refine SOps.assign rfl ?_
              exact SOps.nil rfl
            exact DOk.nil
          · rfl
          · show SCode _ _ _ _
            refine SCode.seqR ?_
            refine SOps.reSlot (t := 9) rfl (show _ = DV.v (.int .i64 ((tn : Nat) : Int)) from congrArg (fun n => DV.v (.int .i64 n)) htn) ?_
            have hdr : (nxL x (qs[i])).drop j = tn :: (nxL x (qs[i])).drop (j + 1) := by rw [← hqe]; exact nxL_drop hqn hjx htn
            have hcg : idxE (fun q t => !tabB T q t) q2 tn = idxE (eqC (clsR x)) q2 tn := idxE_congr (fun q hq => hcl q tn (hqk.good q hq) htl)
            refine SOps.move rfl ?_
            refine SOps.move rfl ?_
            refine SOps.move rfl ?_
            refine SOps.callH [_, _] [_] _ (qClass x T q2 kq2 tn hsh hqk.good htl (by omega)) rfl rfl (fun d H hR => ?_)
            obtain ⟨rfl, rfl⟩ := hR
            refine SOps.assign rfl ?_
            refine SOps.nil ?_
            refine SCode.seq ?_
            refine SCode.seqR ?_
            refine SOps.move rfl ?_
            refine SOps.bin rfl rfl rfl ?_
            refine SOps.nil ?_
            refine SCode.cond rfl (fun hc4 => ?_) (fun hc4 => ?_)
            · try simp only [decide_eq_true_eq, decide_eq_false_iff_not, Bool.not_eq_true', Bool.not_eq_false', beq_iff_eq, bne_iff_ne, ne_eq, beq_eq_false_iff_ne, bne_eq_false_iff_eq, Int.not_lt, Int.not_le, Nat.not_lt, Nat.not_le, Int.ofNat_lt, Int.ofNat_le, Bool.not_eq_eq_eq_not, Bool.not_true, Bool.not_false] at hc4
              have hix : idxE (eqC (clsR x)) q2 tn = none := by rw [← hcg]; cases h : idxE (fun q t => !tabB T q t) q2 tn with | none => rfl | some n => rw [h] at hc4; simp only [idxO] at hc4; omega
              refine SCode.seqR ?_
              refine SOps.move rfl ?_
              refine SOps.lenSl rfl sliceB_39_3_1 ?_
              refine SOps.assign rfl ?_
              refine SOps.nil ?_
              refine SCode.region ?_
              refine SOps.move rfl ?_
              refine SOps.move rfl ?_
              refine SOps.litF rfl sliceB_39_3_1 zeroIs_3 rfl ?_
              refine SOps.appendOwn 2 sliceB_39_3_1 elemB_3_1_8 rfl rfl rfl (by simp) SrcD.isl (by simp) (by first | (simp [lenB] <;> (first | omega | (simp only [lenB]; omega))) | (simp only [lenB]; (first | omega | (simp only [lenB]; omega)))) (by first | (simp <;> (first | omega | (simp only [lenB]; omega))) | (first | omega | (simp only [lenB]; omega))) (fun b4 hb_4 => ?_)
              refine SOps.assign rfl ?_
              refine SOps.nil ?_
              show SCode _ _ _ _
              refine SCode.region ?_
              refine SOps.move rfl ?_
              refine SOps.move rfl ?_
              first
                | refine SOps.reSlot (t := 65) rfl (show _ = DV.v (.int .i64 ((nn : Nat) : Int)) from congrArg (fun z => DV.v (.int .i64 z)) (by rw [hcg, hix]; rfl)) ?_
                | skip
              refine SOps.litF rfl sliceB_39_3_1 zeroIs_3 rfl ?_
              refine SOps.appendOwn 0 sliceB_39_3_1 elemB_3_1_8 rfl rfl rfl (by simp) SrcD.isl (by simp) (by first | (simp [lenB] <;> (first | omega | (simp only [lenB]; omega))) | (simp only [lenB]; (first | omega | (simp only [lenB]; omega)))) (by first | (simp <;> (first | omega | (simp only [lenB]; omega))) | (first | omega | (simp only [lenB]; omega))) (fun b5 hb_5 => ?_)
              refine SOps.assign rfl ?_
              refine SOps.nil ?_
              show SCode _ _ _ _
              refine SCode.region ?_
              refine SOps.move rfl ?_
              refine SOps.addI rfl rfl (by first | omega | (simp only [lenB]; omega)) (by first | omega | (simp only [lenB]; omega)) ?_
              refine SOps.assign rfl ?_
              refine SOps.nil ?_
              first
                | exact ⟨j + 1, q2, done ++ [nn], kq2, b6, ⟨hi2, hqe, by omega, by simp [hdl], hqk, by rw [← hrw, hdr, rowE_some hix]⟩, by omega, St.Le.of ⟨rfl, rfl, rfl, rfl, rfl, rfl, (by show some _ = some _; simp), rfl, trivial⟩ rfl (by rw [List.map_append]; rfl)⟩
                | exact ⟨j + 1, q2 ++ [tn], done ++ [q2.length], b4, b5, ⟨by simp; omega, by rw [List.getElem_append_left hi2]; exact hqe, by omega, by simp [hdl], hqk.add hix htl, by rw [← hrw, hdr, rowE_none hix]⟩, by omega, St.Le.of ⟨rfl, rfl, rfl, (by show some _ = some _; simp), rfl, rfl, (by show some _ = some _; simp), rfl, trivial⟩ rfl (by rw [List.map_append, List.map_append]; rfl)⟩
            · try simp only [decide_eq_true_eq, decide_eq_false_iff_not, Bool.not_eq_true', Bool.not_eq_false', beq_iff_eq, bne_iff_ne, ne_eq, beq_eq_false_iff_ne, bne_eq_false_iff_eq, Int.not_lt, Int.not_le, Nat.not_lt, Nat.not_le, Int.ofNat_lt, Int.ofNat_le, Bool.not_eq_eq_eq_not, Bool.not_true, Bool.not_false] at hc4
              obtain ⟨nn, hix⟩ : ∃ n, idxE (eqC (clsR x)) q2 tn = some n := by rw [← hcg]; cases h : idxE (fun q t => !tabB T q t) q2 tn with | none => rw [h] at hc4; simp only [idxO] at hc4; omega | some n => exact ⟨n, rfl⟩
              refine SCode.skip ?_
              show SCode _ _ _ _
              refine SCode.region ?_
              refine SOps.move rfl ?_
              refine SOps.move rfl ?_
              first
                | refine SOps.reSlot (t := 65) rfl (show _ = DV.v (.int .i64 ((nn : Nat) : Int)) from congrArg (fun z => DV.v (.int .i64 z)) (by rw [hcg, hix]; rfl)) ?_
                | skip
              refine SOps.litF rfl sliceB_39_3_1 zeroIs_3 rfl ?_
              refine SOps.appendOwn 0 sliceB_39_3_1 elemB_3_1_8 rfl rfl rfl (by simp) SrcD.isl (by simp) (by first | (simp [lenB] <;> (first | omega | (simp only [lenB]; omega))) | (simp only [lenB]; (first | omega | (simp only [lenB]; omega)))) (by first | (simp <;> (first | omega | (simp only [lenB]; omega))) | (first | omega | (simp only [lenB]; omega))) (fun b6 hb_6 => ?_)
              refine SOps.assign rfl ?_
              refine SOps.nil ?_
              show SCode _ _ _ _
              refine SCode.region ?_
              refine SOps.move rfl ?_
              refine SOps.addI rfl rfl (by first | omega | (simp only [lenB]; omega)) (by first | omega | (simp only [lenB]; omega)) ?_
              refine SOps.assign rfl ?_
              refine SOps.nil ?_
              first
                | exact ⟨j + 1, q2, done ++ [nn], kq2, b6, ⟨hi2, hqe, by omega, by simp [hdl], hqk, by rw [← hrw, hdr, rowE_some hix]⟩, by omega, St.Le.of ⟨rfl, rfl, rfl, rfl, rfl, rfl, (by show some _ = some _; simp), rfl, trivial⟩ rfl (by rw [List.map_append]; rfl)⟩
                | exact ⟨j + 1, q2 ++ [tn], done ++ [q2.length], b4, b5, ⟨by simp; omega, by rw [List.getElem_append_left hi2]; exact hqe, by omega, by simp [hdl], hqk.add hix htl, by rw [← hrw, hdr, rowE_none hix]⟩, by omega, St.Le.of ⟨rfl, rfl, rfl, (by show some _ = some _; simp), rfl, rfl, (by show some _ = some _; simp), rfl, trivial⟩ rfl (by rw [List.map_append, List.map_append]; rfl)⟩
        · try simp only [decide_eq_true_eq, decide_eq_false_iff_not, Bool.not_eq_true', Bool.not_eq_false', beq_iff_eq, bne_iff_ne, ne_eq, beq_eq_false_iff_ne, bne_eq_false_iff_eq, Int.not_lt, Int.not_le, Nat.not_lt, Nat.not_le, Int.ofNat_lt, Int.ofNat_le, Bool.not_eq_eq_eq_not, Bool.not_true, Bool.not_false] at hc3
          refine SCode.exit ?_
          show SCode _ _ _ _
          refine SCode.seqR ?_
          have hrl : (x.nxt[q2[i]]).length = widthA x := (accOK_row hax hqn).1
          obtain rfl : j = widthA x := by omega
          refine SOps.freezeS (t := 7) 0 rfl rfl rfl (by simp) ?_
          refine SOps.fieldRef rfl fieldB_28_2_2 ?_
          refine SOps.loadRef 0 0 2 rfl flatB_26 rfl rfl rfl rfl ?_
          refine SOps.move rfl ?_
          refine SOps.litF rfl sliceB_26_39_1 zeroIs_39 rfl ?_
          refine SOps.appendAcc ([_, _, _] ++ accH 4 1 kf _) [] sliceB_26_39_1 elemB_39_1_24 rfl rfl (by exact (List.append_assoc [_, _, _] _ _).symm) SrcD.isl (by simp) (by first | (simp [lenB] <;> (first | omega | (simp only [lenB]; omega))) | (simp only [lenB]; (first | omega | (simp only [lenB]; omega)))) (by first | (simp <;> (first | omega | (simp only [lenB]; omega))) | (first | omega | (simp only [lenB]; omega))) (fun b7 => ?_)
          refine SOps.fieldRef rfl fieldB_28_2_2 ?_
          refine SOps.store 0 0 2 rfl rfl oneB_26 rfl rfl rfl (by decide) (by first | rfl | exact accD_one _ _ _) ?_
          refine SOps.nil ?_
          have hmN : (nxt ++ [done]).map encRN = nxt.map encRN ++ [[.isl false 1 (done.map encN)]] := by rw [List.map_append]; rfl
          have hqf : q2[i] < x.fin.length := by omega
          refine SCode.weaken (st' := (⟨88, [(1, .ipin (encAcc x)), (2, .ref b0 0), (3, .isl false 1 (T.map encRow)), (4, .sl kq2 1 0 q2.length), (5, .ref b2 0), (6, .v (.int .i64 (i : Int)))], [(b2, .row 28 3 [[.v (.int .i64 0), accD 1 kf (fins.map encB), accD 1 b7 ((nxt ++ [done]).map encRN)]]), (kq2, .row 3 1 (q2.map encN)), (b0, .row 28 3 [[.v (.int .i64 0), .v (.slice none 0 0), .v (.slice none 0 0)]])] ++ (accH 4 1 kf (fins.map encB) ++ (accH 39 1 b7 ((nxt ++ [done]).map encRN) ++ []))⟩ : St)) (St.Le.of ⟨rfl, rfl, rfl, rfl, rfl, rfl, trivial⟩ rfl (by rw [hmN]; exact (List.append_assoc [_, _, _] _ _).symm)) ?_
          refine SCode.drawMix 15 [11, 12, 13] mixed_ [fun b => some (74, .ref b2 (0 + 1)), fun b => some (75, accD 1 kf (fins.map encB)), fun b => some (76, .ipin ((encAcc x).drop 1)), fun b => some (77, DBools x.fin), fun b => some (78, .sl kq2 1 0 q2.length), fun b => some (79, .v (.int .i64 (i : Int))), fun b => some (80, .ref kq2 ((0 + i) * 1)), fun b => some (81, .v (.int .i64 ((q2[i] : Nat) : Int))), fun b => some (82, .ipin (encB (x.fin[q2[i]]))), fun b => some (83, .v (.bool (x.fin[q2[i]]))), fun b => some (84, .isl false 1 [[.v (.bool (x.fin[q2[i]]))]]), fun b => some (85, accD 1 b (fins.map encB ++ [[.v (.bool (x.fin[q2[i]]))]])), fun b => some (86, .ref b2 (0 + 1)), fun b => none] [some 74, some 75, some 76, some 77, some 78, some 79, some 80, some 81, some 82, some 83, some 84, some 85, some 86, none] [[.inr 5], [.inl 0], [.inr 1], [.inl 2], [.inr 4], [.inr 6], [.inl 4, .inl 5], [.inl 6], [.inl 3, .inl 7], [.inl 8], [.inl 9], [.inl 1, .inl 10], [.inr 5], [.inl 12, .inl 11]] [fun b => [(5, .ref b2 0)], fun b => [(74, .ref b2 (0 + 1))], fun b => [(1, .ipin (encAcc x))], fun b => [(76, .ipin ((encAcc x).drop 1))], fun b => [(4, .sl kq2 1 0 q2.length)], fun b => [(6, .v (.int .i64 (i : Int)))], fun b => [(78, .sl kq2 1 0 q2.length), (79, .v (.int .i64 (i : Int)))], fun b => [(80, .ref kq2 ((0 + i) * 1))], fun b => [(77, DBools x.fin), (81, .v (.int .i64 ((q2[i] : Nat) : Int)))], fun b => [(82, .ipin (encB (x.fin[q2[i]])))], fun b => [(83, .v (.bool (x.fin[q2[i]])))], fun b => [(75, accD 1 kf (fins.map encB)), (84, .isl false 1 [[.v (.bool (x.fin[q2[i]]))]])], fun b => [(5, .ref b2 0)], fun b => [(86, .ref b2 (0 + 1)), (85, accD 1 b (fins.map encB ++ [[.v (.bool (x.fin[q2[i]]))]]))]] (fun b c => match c with | 0 => [(b2, .row 28 3 [[.v (.int .i64 0), accD 1 kf (fins.map encB), accD 1 b7 ((nxt ++ [done]).map encRN)]]), (kq2, .row 3 1 (q2.map encN)), (b0, .row 28 3 [[.v (.int .i64 0), .v (.slice none 0 0), .v (.slice none 0 0)]])] ++ (accH 4 1 kf (fins.map encB) ++ (accH 39 1 b7 ((nxt ++ [done]).map encRN) ++ [])) | 1 => [(b2, .row 28 3 [[.v (.int .i64 0), accD 1 kf (fins.map encB), accD 1 b7 ((nxt ++ [done]).map encRN)]]), (kq2, .row 3 1 (q2.map encN)), (b0, .row 28 3 [[.v (.int .i64 0), .v (.slice none 0 0), .v (.slice none 0 0)]])] ++ (accH 4 1 b (fins.map encB ++ [[.v (.bool (x.fin[q2[i]]))]]) ++ (accH 39 1 b7 ((nxt ++ [done]).map encRN) ++ [])) | 2 => [(b2, .row 28 3 [[.v (.int .i64 0), accD 1 kf (fins.map encB), accD 1 b7 ((nxt ++ [done]).map encRN)]]), (kq2, .row 3 1 (q2.map encN)), (b0, .row 28 3 [[.v (.int .i64 0), .v (.slice none 0 0), .v (.slice none 0 0)]])] ++ (accH 4 1 b (fins.map encB ++ [[.v (.bool (x.fin[q2[i]]))]]) ++ (accH 39 1 b7 ((nxt ++ [done]).map encRN) ++ [])) | _ => [(b2, .row 28 3 [[.v (.int .i64 0), accD 1 b (fins.map encB ++ [[.v (.bool (x.fin[q2[i]]))]]), accD 1 b7 ((nxt ++ [done]).map encRN)]]), (kq2, .row 3 1 (q2.map encN)), (b0, .row 28 3 [[.v (.int .i64 0), .v (.slice none 0 0), .v (.slice none 0 0)]])] ++ (accH 4 1 b (fins.map encB ++ [[.v (.bool (x.fin[q2[i]]))]]) ++ (accH 39 1 b7 ((nxt ++ [done]).map encRN) ++ []))) [(false, false, [0]), (false, false, [0]), (false, false, [0]), (false, false, [0]), (false, false, [0]), (false, false, [0]), (false, false, [0]), (false, false, [0]), (false, false, [0]), (false, false, [0]), (false, false, [0]), (true, true, [0]), (true, false, [1]), (true, false, [2])] (by kernel_rfl) (fun _ => rfl) rfl (fun _ => rfl) (fun _ => rfl) (cohOne 11 rfl (fun j r hj => by match j, hj with | 0, hj => exact .inl (by simp at hj; subst hj; intros; rfl) | 1, hj => exact .inl (by simp at hj; subst hj; intros; rfl) | 2, hj => exact .inl (by simp at hj; subst hj; intros; rfl) | 3, hj => exact .inl (by simp at hj; subst hj; intros; rfl) | 4, hj => exact .inl (by simp at hj; subst hj; intros; rfl) | 5, hj => exact .inl (by simp at hj; subst hj; intros; rfl) | 6, hj => exact .inl (by simp at hj; subst hj; intros; rfl) | 7, hj => exact .inl (by simp at hj; subst hj; intros; rfl) | 8, hj => exact .inl (by simp at hj; subst hj; intros; rfl) | 9, hj => exact .inl (by simp at hj; subst hj; intros; rfl) | 10, hj => exact .inl (by simp at hj; subst hj; intros; rfl) | 11, hj => exact .inr (.inl rfl) | 12, hj => exact .inl (by simp at hj; subst hj; intros; rfl) | 13, hj => exact .inl (by simp at hj; subst hj; intros; rfl) | q + 14, hj => simp at hj)) ?_ ?_
          · refine MixOk.cons ?_ ?_
            · refine StgOk.cons (fun b rest => ?_) ?_
              · refine SOps.fieldRef rfl fieldB_28_1_1 ?_
                exact SOps.nil ⟨b, fun _ => rfl, by first | rfl | simp_all⟩
              exact StgOk.nil
            refine MixOk.cons ?_ ?_
            · refine StgOk.cons (fun b rest => ?_) ?_
              · refine SOps.loadRef 0 0 1 rfl flatB_25 rfl rfl rfl rfl ?_
                exact SOps.nil ⟨b, fun _ => rfl, by first | rfl | simp_all⟩
              exact StgOk.nil
            refine MixOk.cons ?_ ?_
            · refine StgOk.cons (fun b rest => ?_) ?_
              · refine SOps.fieldPin rfl fieldB_28_1_1 ?_
                exact SOps.nil ⟨b, fun _ => rfl, by first | rfl | simp_all⟩
              exact StgOk.nil
            refine MixOk.cons ?_ ?_
            · refine StgOk.cons (fun b rest => ?_) ?_
              · refine SOps.loadPin rfl flatB_25 ?_
                exact SOps.nil ⟨b, fun _ => rfl, by first | rfl | simp_all⟩
              exact StgOk.nil
            refine MixOk.cons ?_ ?_
            · refine StgOk.cons (fun b rest => ?_) ?_
              · refine SOps.move rfl ?_
                exact SOps.nil ⟨b, fun _ => rfl, by first | rfl | simp_all⟩
              exact StgOk.nil
            refine MixOk.cons ?_ ?_
            · refine StgOk.cons (fun b rest => ?_) ?_
              · refine SOps.move rfl ?_
                exact SOps.nil ⟨b, fun _ => rfl, by first | rfl | simp_all⟩
              exact StgOk.nil
            refine MixOk.cons ?_ ?_
            · refine StgOk.cons (fun b rest => ?_) ?_
              · refine SOps.indexS (i) rfl rfl sliceB_39_3_1 (by first | omega | (simp only [lenB]; omega)) (by first | omega | (simp only [lenB]; omega)) ?_
                exact SOps.nil ⟨b, fun _ => rfl, by first | rfl | simp_all⟩
              exact StgOk.nil
            refine MixOk.cons ?_ ?_
            · refine StgOk.cons (fun b rest => ?_) ?_
              · refine SOps.loadK 1 (i) rfl flatB_3 rfl (by first | omega | (simp only [lenB]; omega)) (by first | omega | (simp; done) | (simp; omega)) rfl ?_
                exact SOps.nil ⟨b, fun _ => rfl, by first | rfl | simp_all⟩
              exact StgOk.nil
            refine MixOk.cons ?_ ?_
            · refine StgOk.cons (fun b rest => ?_) ?_
              · refine SOps.indexM (q2[i]) rfl rfl sliceB_25_4_1 (by first | omega | (simp only [lenB]; omega)) (by first | omega | (simp only [lenB]; omega)) ?_
                exact SOps.nil ⟨b, fun _ => rfl, by first | rfl | simp_all⟩
              exact StgOk.nil
            refine MixOk.cons ?_ ?_
            · refine StgOk.cons (fun b rest => ?_) ?_
              · refine SOps.loadPin rfl flatB_4 ?_
                exact SOps.nil ⟨b, fun _ => rfl, by first | rfl | simp_all⟩
              exact StgOk.nil
            refine MixOk.cons ?_ ?_
            · refine StgOk.cons (fun b rest => ?_) ?_
              · refine SOps.litF rfl sliceB_25_4_1 zeroIs_4 rfl ?_
                exact SOps.nil ⟨b, fun _ => rfl, by first | rfl | simp_all⟩
              exact StgOk.nil
            refine MixOk.cons ?_ ?_
            · refine StgOk.cons (fun b rest => ?_) ?_
              · refine SOps.appendAcc [_, _, _] _ sliceB_25_4_1 elemB_4_1_1 rfl rfl rfl SrcD.isl (by simp) (by first | (simp [lenB] <;> (first | omega | (simp only [lenB]; omega))) | (simp only [lenB]; (first | omega | (simp only [lenB]; omega)))) (by first | (simp <;> (first | omega | (simp only [lenB]; omega))) | (first | omega | (simp only [lenB]; omega))) (fun b8 => ?_)
                exact SOps.nil ⟨b8, (fun h => by cases h), rfl⟩
              exact StgOk.nil
            refine MixOk.cons ?_ ?_
            · refine StgOk.cons (fun b rest => ?_) ?_
              · refine SOps.fieldRef rfl fieldB_28_1_1 ?_
                exact SOps.nil ⟨b, fun _ => rfl, by first | rfl | simp_all⟩
              exact StgOk.nil
            refine MixOk.cons ?_ ?_
            · refine StgOk.cons (fun b rest => ?_) ?_
              · refine SOps.store 0 0 1 rfl rfl oneB_25 rfl rfl rfl (by decide) (by first | rfl | exact accD_one _ _ _) ?_
                exact SOps.nil ⟨b, fun _ => rfl, by first | rfl | simp_all⟩
              exact StgOk.nil
            exact MixOk.nil
          · intro kf2
            show SCode _ _ _ _
            refine SCode.region ?_
            refine SOps.move rfl ?_
            refine SOps.addI rfl rfl (by first | omega | (simp only [lenB]; omega)) (by first | omega | (simp only [lenB]; omega)) ?_
            refine SOps.assign rfl ?_
            refine SOps.nil ?_
            have hrw3 : rowE (eqC (clsR x)) (nxL x (qs[i])) qs [] = (q2, done) := by rw [← hrw, List.drop_eq_nil_of_le (by rw [nxL_len hax (hqo.good _ (List.getElem_mem hi7))]; exact Nat.le_refl _)]; rfl
            have hmF : (fins ++ [(x.fin[q2[i]])]).map encB = fins.map encB ++ [[.v (.bool (x.fin[q2[i]]))]] := by rw [List.map_append]; rfl
            have hfq : finN x (qs[i]) = (x.fin[q2[i]]) := by rw [← hqe]; exact (finN_at hqf).symm
            exact ⟨i + 1, q2, kq2, fins ++ [(x.fin[q2[i]])], kf2, nxt ++ [done], b7, ⟨by omega, by omega, hqk, by simp [hfl], by simp [hnl], by rw [← hacc, show 513 - i = (513 - (i + 1)) + 1 by omega, minE_some hi7, hrw3, hfq]⟩, by omega, St.Le.of ⟨rfl, rfl, rfl, rfl, rfl, rfl, trivial⟩ rfl (by rw [hmF]; rfl)⟩
    · try simp only [decide_eq_true_eq, decide_eq_false_iff_not, Bool.not_eq_true', Bool.not_eq_false', beq_iff_eq, bne_iff_ne, ne_eq, beq_eq_false_iff_ne, bne_eq_false_iff_eq, Int.not_lt, Int.not_le, Nat.not_lt, Nat.not_le, Int.ofNat_lt, Int.ofNat_le, Bool.not_eq_eq_eq_not, Bool.not_true, Bool.not_false] at hc2
      refine SCode.exit ?_
      show SCode _ _ _ _
      refine SCode.seqR ?_
      obtain ⟨x1, f1, rfl⟩ := List.exists_cons_of_length_pos (l := fins) (by omega)
      obtain ⟨x2, f2, rfl⟩ := List.exists_cons_of_length_pos (l := nxt) (by omega)
      refine SOps.freezeIn 3 0 0 1 rfl rfl rfl rfl rfl ?_
      refine SOps.freezeIn 3 0 0 2 rfl rfl rfl rfl rfl ?_
      refine SOps.loadRefA 0 0 0 rfl aggB_28_3 rfl rfl rfl (Nat.le_of_ble_eq_true rfl) ?_
      refine SOps.storeAM 2 rfl rfl aggB_28_3 rfl ?_
      refine SOps.nil ?_
      refine SCode.ret ?_
      have hacc2 : minA x = ⟨0, x1 :: f1, castT (x2 :: f2)⟩ := by unfold minA; rw [← hacc, minE_none (by omega)]
      exact ⟨_, Res.one (.agg (i := 2) (k := 0) (j := 0) rfl aggB_28_3 rfl rfl rfl (Nat.le_of_ble_eq_true rfl)), (by rw [if_pos hv, hacc2]; show _ = DV.agg [_, _, DTab (castT (x2 :: f2))]; unfold castT; rw [DTab_cast]; rfl)⟩
end Go.GH
namespace Go.GH
open Go Go.Proofs
variable {E : Env}
theorem accV_and {x : Acc} : accV x = true ↔ accOK x = true ∧ widthA x ≤ 65 := by simp [accV]
theorem qMinT (x : Acc) : GCall Tryd.prog E 26 [.agg (encAcc x)] [] (fun d H => d = .agg (encAcc (minX x)) ∧ H = []) :=
  (qMinimal x).clean (fun d H e => by
    subst e
    unfold minX
    by_cases h : accV x = true
    · rw [if_pos h, if_pos (accV_and.1 h)]; exact ⟨_, fun _ _ _ h => h, rfl⟩
    · rw [if_neg h, if_neg (fun k => h (accV_and.2 k))]; exact ⟨_, fun _ _ _ h => zeroA h, rfl⟩)
theorem l6Minimal (hV : VS E) (hA : AW6 E) (x : Acc)  : GCall Tryd.prog E 6 [.agg (encAcc x)] [] (fun d H => d = .v (.bool true) ∧ H = []) := by
  refine GCall.body (C := ⟨Tryd.prog, E, true⟩) Tryd.func6 rfl (fun _ => rfl) (by kernel_rfl) rfl ?_
  refine SCode.seqR ?_
  refine SOps.boxAM rfl rfl ?_
  refine SOps.assign rfl ?_
  refine SOps.nil ?_
  refine SCode.seq ?_
  refine SCode.seqR ?_
  refine SOps.callP hA rfl ?_
  rintro _ rfl
  refine SOps.un rfl rfl ?_
  refine SOps.nil ?_
  refine SCode.cond rfl (fun h => by cases h) (fun _ => ?_)
  refine SCode.skip ?_
  show SCode _ _ _ _
  refine SCode.seq ?_
  refine SCode.seqR ?_
  refine SOps.fieldPin rfl fieldB_28_2_2 ?_
  refine SOps.loadPin rfl flatB_26 ?_
  refine SOps.lenM rfl sliceB_26_39_1 ?_
  refine SOps.bin rfl rfl rfl ?_
  refine SOps.move rfl ?_
  refine SOps.caseB 10 rfl (fun hb1 => ?_) (fun hb1 => ?_)
  · try simp only [decide_eq_true_eq, decide_eq_false_iff_not, Bool.not_eq_true', Bool.not_eq_false', beq_iff_eq, bne_iff_ne, ne_eq, beq_eq_false_iff_ne, bne_eq_false_iff_eq, Int.not_lt, Int.not_le, Nat.not_lt, Nat.not_le, Int.ofNat_lt, Int.ofNat_le, Bool.not_eq_eq_eq_not, Bool.not_true, Bool.not_false] at hb1
    refine SOps.skip rfl ?_
    refine SOps.skip rfl ?_
    refine SOps.skip rfl ?_
    refine SOps.skip rfl ?_
    refine SOps.skip rfl ?_
    refine SOps.skip rfl ?_
    refine SOps.skip rfl ?_
    refine SOps.skip rfl ?_
    refine SOps.skip rfl ?_
    refine SOps.skip rfl ?_
    refine SOps.skip rfl ?_
    refine SOps.skip rfl ?_
    refine SOps.pick rfl rfl ?_
    refine SOps.nil ?_
    refine SCode.cond rfl (fun _ => ?_) (fun h => by cases h)
    refine SCode.seqR ?_
    refine SOps.assign rfl ?_
    refine SOps.nil ?_
    refine SCode.ret ?_
    exact ⟨_, Res.one (.tmp rfl), rfl, rfl⟩
  · try simp only [decide_eq_true_eq, decide_eq_false_iff_not, Bool.not_eq_true', Bool.not_eq_false', beq_iff_eq, bne_iff_ne, ne_eq, beq_eq_false_iff_ne, bne_eq_false_iff_eq, Int.not_lt, Int.not_le, Nat.not_lt, Nat.not_le, Int.ofNat_lt, Int.ofNat_le, Bool.not_eq_eq_eq_not, Bool.not_true, Bool.not_false] at hb1
    refine SOps.fieldPin rfl fieldB_28_2_2 ?_
    refine SOps.loadPin rfl flatB_26 ?_
    refine SOps.lenM rfl sliceB_26_39_1 ?_
    refine SOps.bin rfl rfl rfl ?_
    refine SOps.move rfl ?_
    refine SOps.caseB 15 rfl (fun hb2 => ?_) (fun hb2 => ?_)
    · try simp only [decide_eq_true_eq, decide_eq_false_iff_not, Bool.not_eq_true', Bool.not_eq_false', beq_iff_eq, bne_iff_ne, ne_eq, beq_eq_false_iff_ne, bne_eq_false_iff_eq, Int.not_lt, Int.not_le, Nat.not_lt, Nat.not_le, Int.ofNat_lt, Int.ofNat_le, Bool.not_eq_eq_eq_not, Bool.not_true, Bool.not_false] at hb2
      refine SOps.fieldPin rfl fieldB_28_2_2 ?_
      refine SOps.loadPin rfl flatB_26 ?_
      refine SOps.indexM (0) rfl rfl sliceB_26_39_1 (by omega) (by omega) ?_
      refine SOps.loadPin rfl flatB_39 ?_
      refine SOps.lenM rfl sliceB_39_3_1 ?_
      refine SOps.bin rfl rfl rfl ?_
      refine SOps.pick rfl rfl ?_
      refine SOps.pick rfl rfl ?_
      refine SOps.nil ?_
      refine SCode.cond rfl (fun hc3 => ?_) (fun hc3 => ?_)
      · try simp only [decide_eq_true_eq, decide_eq_false_iff_not, Bool.not_eq_true', Bool.not_eq_false', beq_iff_eq, bne_iff_ne, ne_eq, beq_eq_false_iff_ne, bne_eq_false_iff_eq, Int.not_lt, Int.not_le, Nat.not_lt, Nat.not_le, Int.ofNat_lt, Int.ofNat_le, Bool.not_eq_eq_eq_not, Bool.not_true, Bool.not_false] at hc3
        refine SCode.seqR ?_
        refine SOps.assign rfl ?_
        refine SOps.nil ?_
        refine SCode.ret ?_
        exact ⟨_, Res.one (.tmp rfl), rfl, rfl⟩
      · try simp only [decide_eq_true_eq, decide_eq_false_iff_not, Bool.not_eq_true', Bool.not_eq_false', beq_iff_eq, bne_iff_ne, ne_eq, beq_eq_false_iff_ne, bne_eq_false_iff_eq, Int.not_lt, Int.not_le, Nat.not_lt, Nat.not_le, Int.ofNat_lt, Int.ofNat_le, Bool.not_eq_eq_eq_not, Bool.not_true, Bool.not_false] at hc3
        refine SCode.skip ?_
        show SCode _ _ _ _
        refine SCode.seqR ?_
        refine SOps.loadPinA rfl aggB_28_3 (Nat.le_of_ble_eq_true rfl) ?_
        refine SOps.callP (aMinT _) rfl ?_
        rintro _ rfl
        refine SOps.alloc (sz := 3) zeroIs_28 (fun b0 hb_0 => ?_)
        refine SOps.storeAM 0 rfl rfl aggB_28_3 rfl ?_
        refine SOps.freezeRef (t := 3) 0 0 rfl rfl rfl rfl rfl ?_
        refine SOps.nil ?_
        refine SCode.seq ?_
        apply SCode.drawAuto mixed_ [26, 27, 28, 29, 30, 31, 32, 33, 34, 35, 2] [[.inr 3], [.inr 1], [.inl 1], [.inl 0, .inl 2], [.inl 3], [.inl 4, .inr 3], [.inl 4, .inl 5], [.inl 4, .inr 3], [.inl 4, .inl 6, .inl 7], [.inl 4, .inl 8], [.inl 9]]
        · kernel_rfl
        · kernel_rfl
        · apply DOk.cons 26 
          · rfl
          · exact (NeedIs.inr _ rfl NeedIs.nil)
          · intro rest
            refine SOps.loadPinA rfl aggB_28_3 (Nat.le_of_ble_eq_true rfl) ?_
            exact SOps.nil rfl
          apply DOk.cons 27 
          · rfl
          · exact (NeedIs.inr _ rfl NeedIs.nil)
          · intro rest
            refine SOps.loadPinA rfl aggB_28_3 (Nat.le_of_ble_eq_true rfl) ?_
            exact SOps.nil rfl
          apply DOk.cons 28 
          · rfl
          · exact (NeedIs.inl 0 _ _ rfl rfl NeedIs.nil)
          · intro rest
            refine SOps.callP (qMinT _) rfl ?_
            rintro _ rfl
            exact SOps.nil rfl
          apply DOk.cons 29 (.v (.bool true))
          · rfl
          · exact (NeedIs.inl 2 _ _ rfl rfl (NeedIs.inl 0 _ _ rfl rfl NeedIs.nil))
          · intro rest
            refine SOps.callP (qSameA _ _) rfl ?_
            rintro _ rfl
            exact SOps.nil (congrArg (fun b => St.put _ 29 (.v (.bool b))) (decide_eq_true ⟨rfl, rfl, rfl⟩))
          apply DOk.cons 30 
          · rfl
          · exact (NeedIs.inl 0 _ _ rfl rfl NeedIs.nil)
          · intro rest
            refine SOps.move rfl ?_
            exact SOps.nil rfl
          apply DOk.cons 31 
          · rfl
          · exact (NeedIs.inl 0 _ _ rfl rfl (NeedIs.inr _ rfl NeedIs.nil))
          · intro rest
            refine SOps.loadPinA rfl aggB_28_3 (Nat.le_of_ble_eq_true rfl) ?_
            exact SOps.nil rfl
          apply DOk.cons 32 
          · rfl
          · exact (NeedIs.inl 1 _ _ rfl rfl (NeedIs.inl 0 _ _ rfl rfl NeedIs.nil))
          · intro rest
            refine SOps.callP (aMinT _) rfl ?_
            rintro _ rfl
            exact SOps.nil rfl
          apply DOk.cons 33 
          · rfl
          · exact (NeedIs.inl 2 _ _ rfl rfl (NeedIs.inr _ rfl NeedIs.nil))
          · intro rest
            refine SOps.loadPinA rfl aggB_28_3 (Nat.le_of_ble_eq_true rfl) ?_
            exact SOps.nil rfl
          apply DOk.cons 34 (.v (.bool true))
          · rfl
          · exact (NeedIs.inl 3 _ _ rfl rfl (NeedIs.inl 1 _ _ rfl rfl (NeedIs.inl 0 _ _ rfl rfl NeedIs.nil)))
          · intro rest
            refine SOps.callP (qSameA _ _) rfl ?_
            rintro _ rfl
            exact SOps.nil (congrArg (fun b => St.put _ 34 (.v (.bool b))) (by rw [minX_idem]; exact decide_eq_true ⟨rfl, rfl, rfl⟩))
          apply DOk.cons 35 
          · rfl
          · exact (NeedIs.inl 4 _ _ rfl rfl (NeedIs.inl 0 _ _ rfl rfl NeedIs.nil))
          · intro rest
            refine SOps.pick rfl rfl ?_
            exact SOps.nil rfl
          apply DOk.cons 2 
          · rfl
          · exact (NeedIs.inl 0 _ _ rfl rfl NeedIs.nil)
          · intro rest
            refine SOps.assign rfl ?_
            exact SOps.nil rfl
          exact DOk.nil
        · rfl
        · show SCode _ _ _ _
          refine SCode.ret ?_
          exact ⟨_, Res.one (.tmp rfl), rfl, rfl⟩
    · try simp only [decide_eq_true_eq, decide_eq_false_iff_not, Bool.not_eq_true', Bool.not_eq_false', beq_iff_eq, bne_iff_ne, ne_eq, beq_eq_false_iff_ne, bne_eq_false_iff_eq, Int.not_lt, Int.not_le, Nat.not_lt, Nat.not_le, Int.ofNat_lt, Int.ofNat_le, Bool.not_eq_eq_eq_not, Bool.not_true, Bool.not_false] at hb2
      refine SOps.skip rfl ?_
      refine SOps.skip rfl ?_
      refine SOps.skip rfl ?_
      refine SOps.skip rfl ?_
      refine SOps.skip rfl ?_
      refine SOps.skip rfl ?_
      refine SOps.pick rfl rfl ?_
      refine SOps.pick rfl rfl ?_
      refine SOps.nil ?_
      refine SCode.cond rfl (fun h => by cases h) (fun _ => ?_)
      refine SCode.skip ?_
      show SCode _ _ _ _
      refine SCode.seqR ?_
      refine SOps.loadPinA rfl aggB_28_3 (Nat.le_of_ble_eq_true rfl) ?_
      refine SOps.callP (aMinT _) rfl ?_
      rintro _ rfl
      refine SOps.alloc (sz := 3) zeroIs_28 (fun b1 hb_1 => ?_)
      refine SOps.storeAM 0 rfl rfl aggB_28_3 rfl ?_
      refine SOps.freezeRef (t := 3) 0 0 rfl rfl rfl rfl rfl ?_
      refine SOps.nil ?_
      refine SCode.seq ?_
      apply SCode.drawAuto mixed_ [26, 27, 28, 29, 30, 31, 32, 33, 34, 35, 2] [[.inr 3], [.inr 1], [.inl 1], [.inl 0, .inl 2], [.inl 3], [.inl 4, .inr 3], [.inl 4, .inl 5], [.inl 4, .inr 3], [.inl 4, .inl 6, .inl 7], [.inl 4, .inl 8], [.inl 9]]
      · kernel_rfl
      · kernel_rfl
      · apply DOk.cons 26 
        · rfl
        · exact (NeedIs.inr _ rfl NeedIs.nil)
        · intro rest
          refine SOps.loadPinA rfl aggB_28_3 (Nat.le_of_ble_eq_true rfl) ?_
          exact SOps.nil rfl
        apply DOk.cons 27 
        · rfl
        · exact (NeedIs.inr _ rfl NeedIs.nil)
        · intro rest
          refine SOps.loadPinA rfl aggB_28_3 (Nat.le_of_ble_eq_true rfl) ?_
          exact SOps.nil rfl
        apply DOk.cons 28 
        · rfl
        · exact (NeedIs.inl 0 _ _ rfl rfl NeedIs.nil)
        · intro rest
          refine SOps.callP (qMinT _) rfl ?_
          rintro _ rfl
          exact SOps.nil rfl
        apply DOk.cons 29 (.v (.bool true))
        · rfl
        · exact (NeedIs.inl 2 _ _ rfl rfl (NeedIs.inl 0 _ _ rfl rfl NeedIs.nil))
        · intro rest
          refine SOps.callP (qSameA _ _) rfl ?_
          rintro _ rfl
          exact SOps.nil (congrArg (fun b => St.put _ 29 (.v (.bool b))) (decide_eq_true ⟨rfl, rfl, rfl⟩))
        apply DOk.cons 30 
        · rfl
        · exact (NeedIs.inl 0 _ _ rfl rfl NeedIs.nil)
        · intro rest
          refine SOps.move rfl ?_
          exact SOps.nil rfl
        apply DOk.cons 31 
        · rfl
        · exact (NeedIs.inl 0 _ _ rfl rfl (NeedIs.inr _ rfl NeedIs.nil))
        · intro rest
          refine SOps.loadPinA rfl aggB_28_3 (Nat.le_of_ble_eq_true rfl) ?_
          exact SOps.nil rfl
        apply DOk.cons 32 
        · rfl
        · exact (NeedIs.inl 1 _ _ rfl rfl (NeedIs.inl 0 _ _ rfl rfl NeedIs.nil))
        · intro rest
          refine SOps.callP (aMinT _) rfl ?_
          rintro _ rfl
          exact SOps.nil rfl
        apply DOk.cons 33 
        · rfl
        · exact (NeedIs.inl 2 _ _ rfl rfl (NeedIs.inr _ rfl NeedIs.nil))
        · intro rest
          refine SOps.loadPinA rfl aggB_28_3 (Nat.le_of_ble_eq_true rfl) ?_
          exact SOps.nil rfl
        apply DOk.cons 34 (.v (.bool true))
        · rfl
        · exact (NeedIs.inl 3 _ _ rfl rfl (NeedIs.inl 1 _ _ rfl rfl (NeedIs.inl 0 _ _ rfl rfl NeedIs.nil)))
        · intro rest
          refine SOps.callP (qSameA _ _) rfl ?_
          rintro _ rfl
          exact SOps.nil (congrArg (fun b => St.put _ 34 (.v (.bool b))) (by rw [minX_idem]; exact decide_eq_true ⟨rfl, rfl, rfl⟩))
        apply DOk.cons 35 
        · rfl
        · exact (NeedIs.inl 4 _ _ rfl rfl (NeedIs.inl 0 _ _ rfl rfl NeedIs.nil))
        · intro rest
          refine SOps.pick rfl rfl ?_
          exact SOps.nil rfl
        apply DOk.cons 2 
        · rfl
        · exact (NeedIs.inl 0 _ _ rfl rfl NeedIs.nil)
        · intro rest
          refine SOps.assign rfl ?_
          exact SOps.nil rfl
        exact DOk.nil
      · rfl
      · show SCode _ _ _ _
        refine SCode.ret ?_
        exact ⟨_, Res.one (.tmp rfl), rfl, rfl⟩
end Go.GH
