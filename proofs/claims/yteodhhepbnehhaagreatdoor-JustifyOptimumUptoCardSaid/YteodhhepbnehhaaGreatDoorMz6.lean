/-
  Part 6 of the texts behind the walks of this claim: an own layer over the kit's wp, plain laws, and walks. No conditions.
-/
import Derived.Test.YteodhhepbnehhaaGreatDoorMz5
set_option linter.unusedVariables false
set_option linter.unusedSimpArgs false
set_option linter.deprecated false
namespace Go.GH
open Go Go.Proofs
variable {E : Env}
theorem qLines0 (l : List Bx) (w p : Int) (hb : boxesB l = true) (hw1 : 1 ≤ w) (hw2 : w ≤ 200) (h11 : ptN l ≤ 11) (hp1 : 0 ≤ p) (hp2 : p ≤ 1000000) : GCall Tryz.prog E 57 [DBxs l, .v (.int .i64 w), .v (.int .i64 p)] [] (fun d H => d = (if (keepR w p (divsR l w 0)).2 < 0 then .tup [.v (.slice none 0 0), .v (.int .i64 0), .v (.int .i64 2)] else .tup [DLns (keepR w p (divsR l w 0)).1, .v (.int .i64 (keepR w p (divsR l w 0)).2), .v (.int .i64 0)])) := by
 have hpos := ptN_pos l
 have hdb := divsR_bound (w := w) h11 (Nat.zero_le (ptN l - 1))
 refine GCall.body (C := ⟨Tryz.prog, E, true⟩) Tryz.func57 rfl (fun _ => rfl) (by kernel_rfl) rfl ?_
 refine SCode.seqR (SOps.assign rfl (SOps.assign rfl (SOps.assign rfl (SOps.nil (SCode.seqR (SOps.assign rfl (SOps.nil (SCode.seqR (SOps.relab (t := 9) (d' := DLns []) rfl (fun _ _ _ h => nil_isl h) (SOps.assign rfl (SOps.nil (SCode.seq (SCode.seqR (SOps.move rfl (SOps.move rfl (SOps.callP (qDiv l w hb hw1 hw2 h11 (ptN l) 0 (Nat.zero_le _) (by omega)) rfl ?_))))))))))))))))
 rintro _ rfl
 refine SOps.lenM rfl sliceB_142_36_1 (SOps.move rfl (SOps.nil (SCode.block (SCode.loop2 (fun (q : Nat) (x : List Ln × Int) => (⟨40, [(1, .v (.int .i64 w)), (2, .v (.int .i64 p)), (9, DLns x.1), (10, .v (.int .i64 x.2)), (16, DDs (divsR l w 0)), (17, .v (.int .i64 ((divsR l w 0).length : Int))), (18, .v (.int .i64 (q : Int)))], []⟩ : St)) (fun (q : Nat) (x : List Ln × Int) => q ≤ (divsR l w 0).length ∧ x = pickL (fun d => sumL d w p) ([], -1) ((divsR l w 0).take q)) (fun (q : Nat) (x : List Ln × Int) => (divsR l w 0).length - q) (0) (([], -1)) (by exact ⟨Nat.zero_le _, rfl⟩) (St.Le.of ⟨rfl, rfl, rfl, rfl, rfl, rfl, rfl, trivial⟩ rfl rfl) ?_))))
 rintro q x ⟨hqn, hx⟩
 refine SCode.seqR (SOps.bin rfl rfl rfl (SOps.nil (SCode.seq ?_)))
 refine SCode.cond rfl (fun hc1 => ?_) (fun hc1 => ?_)
 ·try simp only [nmL] at hc1
  refine SCode.skip ?_
  show SCode _ _ _ _
  refine SCode.seq (SCode.block (SCode.seqR (SOps.indexM (q) rfl rfl sliceB_142_36_1 (by omega) (by omega) (SOps.loadPin rfl flatB_36 (SOps.assign rfl (SOps.nil (SCode.seqR ?_)))))))
  have hql : q < (divsR l w 0).length := by omega
  have hxl := hdb.2 _ (List.getElem_mem hql)
  have hlk : ∀ y ∈ ((divsR l w 0)[q]), LnOK y := by have h9 : ((divsR l w 0)[q]) ∈ (divsR l w 0) := List.getElem_mem hql; obtain ⟨z, hz, hz2⟩ := List.mem_map.1 h9; rw [← hz2]; exact way_ok hb (wayF_fit _ _ (Nat.zero_le _) z hz)
  have hxs : pickL (fun d => sumL d w p) ([], -1) ((divsR l w 0).take (q + 1)) = pick1 (fun d => sumL d w p) x ((divsR l w 0)[q]) := by rw [List.take_add_one, List.getElem?_eq_getElem hql, pickL_app, ← hx]; rfl
  refine SOps.move rfl (SOps.move rfl (SOps.move rfl (SOps.callP (qSum _ _ _ hlk (by omega) (by omega) (by omega) hp1 hp2) rfl ?_)))
  rintro _ rfl
  refine SOps.assign rfl (SOps.nil (SCode.seqR (SOps.move rfl (SOps.bin rfl rfl rfl (SOps.move rfl ?_)))))
  refine SOps.caseB 28 rfl (fun hb2 => ?_) (fun hb2 => ?_)
  ·try simp only [nmL] at hb2
   have hpk : pick1 (fun d => sumL d w p) x ((divsR l w 0)[q]) = (((divsR l w 0)[q]), sumL ((divsR l w 0)[q]) w p) := if_pos (.inl (by assumption))
   refine SOps.skip rfl (SOps.skip rfl (SOps.skip rfl (SOps.pick rfl rfl (SOps.nil ?_))))
   refine SCode.cond rfl (fun _ => ?_) (fun h => by cases h)
   refine SCode.region (SOps.move rfl (SOps.move rfl (SOps.assign rfl (SOps.assign rfl (SOps.nil ?_)))))
   show SCode _ _ _ _
   refine SCode.region (SOps.addI rfl rfl (by omega) (by omega) (SOps.move rfl (SOps.nil ?_)))
   exact ⟨q + 1, pick1 (fun d => sumL d w p) x ((divsR l w 0)[q]), ⟨by omega, hxs.symm⟩, by omega, St.Le.of ⟨rfl, rfl, (by show some _ = some _; rw [hpk] <;> rfl), (by show some _ = some _; rw [hpk] <;> rfl), rfl, rfl, rfl, trivial⟩⟩
  ·try simp only [nmL] at hb2
   refine SOps.move rfl (SOps.move rfl (SOps.bin rfl rfl rfl (SOps.pick rfl rfl (SOps.nil ?_))))
   refine SCode.cond rfl (fun hc3 => ?_) (fun hc3 => ?_)
   ·try simp only [nmL] at hc3
    have hpk : pick1 (fun d => sumL d w p) x ((divsR l w 0)[q]) = (((divsR l w 0)[q]), sumL ((divsR l w 0)[q]) w p) := if_pos (.inr (by assumption))
    refine SCode.region (SOps.move rfl (SOps.move rfl (SOps.assign rfl (SOps.assign rfl (SOps.nil ?_)))))
    show SCode _ _ _ _
    refine SCode.region (SOps.addI rfl rfl (by omega) (by omega) (SOps.move rfl (SOps.nil ?_)))
    exact ⟨q + 1, pick1 (fun d => sumL d w p) x ((divsR l w 0)[q]), ⟨by omega, hxs.symm⟩, by omega, St.Le.of ⟨rfl, rfl, (by show some _ = some _; rw [hpk] <;> rfl), (by show some _ = some _; rw [hpk] <;> rfl), rfl, rfl, rfl, trivial⟩⟩
   ·try simp only [nmL] at hc3
    have hpk : pick1 (fun d => sumL d w p) x ((divsR l w 0)[q]) = x := if_neg (by show ¬ (x.2 < 0 ∨ sumL ((divsR l w 0)[q]) w p < x.2); omega)
    refine SCode.skip ?_
    show SCode _ _ _ _
    refine SCode.region (SOps.addI rfl rfl (by omega) (by omega) (SOps.move rfl (SOps.nil ?_)))
    exact ⟨q + 1, pick1 (fun d => sumL d w p) x ((divsR l w 0)[q]), ⟨by omega, hxs.symm⟩, by omega, St.Le.of ⟨rfl, rfl, (by show some _ = some _; rw [hpk] <;> rfl), (by show some _ = some _; rw [hpk] <;> rfl), rfl, rfl, rfl, trivial⟩⟩
 ·try simp only [nmL] at hc1
  have hxe : x = (keepR w p (divsR l w 0)) := by rw [hx, List.take_of_length_le (by omega)]; rfl
  refine SCode.exit ?_
  show SCode _ _ _ _
  refine SCode.seq (SCode.seqR (SOps.move rfl (SOps.bin rfl rfl rfl (SOps.nil ?_))))
  refine SCode.cond rfl (fun hc4 => ?_) (fun hc4 => ?_)
  ·try simp only [nmL] at hc4
   refine SCode.seqR (SOps.assign rfl (SOps.assign rfl (SOps.assign rfl (SOps.nil (SCode.ret ?_)))))
   exact ⟨_, Res.three (.tmp rfl) (.tmp rfl) (.tmp rfl), by rw [← hxe, if_pos (by assumption)] <;> rfl⟩
  ·try simp only [nmL] at hc4
   refine SCode.skip ?_
   show SCode _ _ _ _
   refine SCode.seqR (SOps.move rfl (SOps.move rfl (SOps.assign rfl (SOps.assign rfl (SOps.assign rfl (SOps.nil (SCode.ret ?_)))))))
   exact ⟨_, Res.three (.tmp rfl) (.tmp rfl) (.tmp rfl), by rw [← hxe, if_neg (by omega)] <;> rfl⟩
theorem qLines (l : List Bx) (w p : Int) (hv : validL l w = true) (h11 : ptN l ≤ 11) (hp : penB p = true) : GCall Tryz.prog E 57 [DBxs l, .v (.int .i64 w), .v (.int .i64 p)] [] (fun d H => d = .tup [DLns (linesR l w p).1, .v (.int .i64 (linesR l w p).2.1), .v (.int .i64 (linesR l w p).2.2)] ∧ H = []) :=
  (qLines0 l w p (valid_of hv).2 (valid_of hv).1.1 (valid_of hv).1.2 h11 (penB_iff.1 hp).1 (penB_iff.1 hp).2).clean (fun d H e => by
    have hk := lines_keep hv hp
    subst e
    split
    · rename_i h1
      rw [hk, if_pos h1]
      exact ⟨_, fun _ _ _ h => rep_tup0 (fun _ _ _ h => nil_isl h) h, rfl⟩
    · rename_i h1
      rw [hk, if_neg h1]
      exact ⟨_, fun _ _ _ h => h, rfl⟩)
end Go.GH
namespace Go.GH
open Go Go.Proofs
variable {E : Env}
def sprAt (ls : List Ln) (w : Int) (i : Nat) : ByteArray × Int := spreadR (ls.getD i ⟨[], false⟩) w ((i : Int) == (ls.length : Int) - 1)
def sprs (ls : List Ln) (w : Int) (k : Nat) : List ByteArray := (List.range k).map (fun i => (sprAt ls w i).1)
theorem sprs_next (ls : List Ln) (w : Int) (k : Nat) : sprs ls w (k + 1) = sprs ls w k ++ [(sprAt ls w k).1] := by unfold sprs; rw [List.range_succ, List.map_append]; rfl
theorem sprs_len (ls : List Ln) (w : Int) (k : Nat) : (sprs ls w k).length = k := by simp [sprs]
def paraR (l : List Bx) (w pen : Int) : List ByteArray × Int := (sprs (linesR l w pen).1 w (linesR l w pen).1.length, (linesR l w pen).2.2)
theorem sprAt_eq {ls : List Ln} {w : Int} {i : Nat} (h : i < ls.length) : sprAt ls w i = spreadR ls[i] w ((i : Int) == (ls.length : Int) - 1) := by
  unfold sprAt
  rw [List.getD_eq_getElem?_getD, List.getElem?_eq_getElem h]; rfl
theorem lines_bad {l : List Bx} {w pen : Int} (h : ¬ (linesR l w pen).2.2 = 0) : (linesR l w pen).1 = [] := by
  by_cases hv : validL l w = true
  · by_cases hp : penB pen = true
    · rcases linesR_ok hv hp with ⟨e, _⟩ | ⟨_, _, _, e⟩
      · exact absurd e h
      · exact e
    · unfold linesR
      rw [if_neg (by simp [hp])]
  · unfold linesR
    rw [if_neg (by simp [hv])]
theorem para_bad {l : List Bx} {w pen : Int} (h : ¬ (linesR l w pen).2.2 = 0) : (paraR l w pen).1 = [] := by
  unfold paraR
  rw [lines_bad h]
  rfl
theorem LnOK.fit {ln : Ln} (h : LnOK ln) : (∀ w ∈ ln.words, w.size ≤ 1048576) ∧ ln.words.length ≤ 1048576 := ⟨fun w hw => Nat.le_trans (h.2 w hw) (by decide), Nat.le_trans h.1 (by decide)⟩
theorem linesR_few {l : List Bx} {w pen : Int} : (linesR l w pen).1.length ≤ ptN l := by
  by_cases hv : validL l w = true
  · by_cases hp : penB pen = true
    · rcases linesR_ok hv hp with ⟨_, _, ks, hf, e, _⟩ | ⟨_, _, _, e⟩
      · rw [e, linesOf_len]
        have := hf.len
        omega
      · rw [e]; exact Nat.zero_le _
    · unfold linesR
      rw [if_neg (by simp [hp])]; exact Nat.zero_le _
  · unfold linesR
    rw [if_neg (by simp [hv])]; exact Nat.zero_le _
theorem linesR_small {l : List Bx} {w pen : Int} : (linesR l w pen).1.length ≤ 200201 := by
  by_cases hv : validL l w = true
  · exact Nat.le_trans linesR_few (ptN_le (valid_of hv).2)
  · unfold linesR
    rw [if_neg (by simp [hv])]; exact Nat.zero_le _
theorem jParagraph (hV : VS E) (l : List Bx) (w pen : Int) (hbx : ∀ x ∈ l, x.word.size ≤ 1048576) : GCall Tryz.prog E 17 [DBxs l, .v (.int .i64 w), .v (.int .i64 pen)] [] (fun d H => d = .tup [DStrs (paraR l w pen).1, .v (.int .i64 (paraR l w pen).2)] ∧ H = []) := by
 refine GCall.body (C := ⟨Tryz.prog, E, true⟩) Tryz.func17 rfl (fun _ => rfl) (by kernel_rfl) rfl ?_
 refine SCode.seqR (SOps.assign rfl (SOps.assign rfl (SOps.nil (SCode.seqR (SOps.move rfl (SOps.move rfl (SOps.move rfl (SOps.callP (sLines hV l w pen hbx) rfl ?_))))))))
 rintro _ rfl
 refine SOps.move rfl (SOps.extract rfl rfl (SOps.extract rfl rfl (SOps.extract rfl rfl (SOps.assign rfl (SOps.assign rfl (SOps.assign rfl (SOps.nil (SCode.seq (SCode.seqR (SOps.move rfl (SOps.bin rfl rfl rfl (SOps.nil ?_))))))))))))
 refine SCode.cond rfl (fun hc1 => ?_) (fun hc1 => ?_)
 ·try simp only [nmL] at hc1
  refine SCode.seqR (SOps.move rfl (SOps.assign rfl (SOps.assign rfl (SOps.nil (SCode.nilIsl (t := 6) (sz := 1) rfl (SCode.ret ?_))))))
  exact ⟨_, Res.two (.tmp rfl) (.tmp rfl), by rw [para_bad (by simp_all)]; rfl, rfl⟩
 ·try simp only [nmL] at hc1
  refine SCode.skip ?_
  show SCode _ _ _ _
  refine SCode.seqR (SOps.assign rfl (SOps.nil (SCode.seq (SCode.seqR (SOps.move rfl (SOps.lenM rfl sliceB_36_24_2 (SOps.move rfl (SOps.nil (SCode.block (SCode.loop2 (fun (i : Nat) (k : Nat) => (⟨54, [(1, .v (.int .i64 w)), (8, DLns (linesR l w pen).1), (11, accD 1 k ((sprs (linesR l w pen).1 w i).map encS)), (27, DLns (linesR l w pen).1), (28, .v (.int .i64 ((linesR l w pen).1.length : Int))), (29, .v (.int .i64 (i : Int)))], (accH 9 1 k ((sprs (linesR l w pen).1 w i).map encS) ++ [])⟩ : St)) (fun (i : Nat) (k : Nat) => i ≤ (linesR l w pen).1.length) (fun (i : Nat) (k : Nat) => (linesR l w pen).1.length - i) (0) (0) (by exact Nat.zero_le _) (St.Le.of ⟨rfl, rfl, rfl, rfl, rfl, rfl, trivial⟩ rfl rfl) ?_))))))))))
  rintro i k hi
  refine SCode.fact (isl_len (t := 27) rfl) (fun hB => ?_)
  simp only [List.length_map, lenB] at hB
  have hsl := sprs_len (linesR l w pen).1 w i
  have hfw := linesR_small (l := l) (w := w) (pen := pen)
  refine SCode.seqR (SOps.bin rfl rfl rfl (SOps.nil (SCode.seq ?_)))
  refine SCode.cond rfl (fun hc2 => ?_) (fun hc2 => ?_)
  ·try simp only [nmL] at hc2
   refine SCode.skip ?_
   show SCode _ _ _ _
   refine SCode.seq (SCode.block (SCode.seqR ?_))
   have hil : i < (linesR l w pen).1.length := by omega
   obtain ⟨hwd, hpr, hfit, hok⟩ := lines_good _ (List.getElem_mem hil)
   have hsp := spread_ok (last := ((i : Int) == ((linesR l w pen).1.length : Int) - 1)) hwd hpr hfit
   have hse := sprAt_eq (w := w) hil
   refine SOps.move rfl (SOps.indexM (i) rfl rfl sliceB_36_24_2 (by omega) (by omega) (SOps.loadPinA rfl aggB_24_2 (Nat.le_of_ble_eq_true rfl) ?_))
   refine SOps.alloc (sz := 2) zeroIs_24 (fun b0 hb_0 => ?_)
   refine SOps.assign rfl (SOps.storeAM 0 rfl rfl aggB_24_2 rfl (SOps.freezeRef (t := 13) 0 0 rfl rfl rfl rfl rfl (SOps.nil (SCode.seqR (SOps.loadPinA rfl aggB_24_2 (Nat.le_of_ble_eq_true rfl) (SOps.move rfl (SOps.move rfl (SOps.move rfl (SOps.lenM rfl sliceB_36_24_2 (SOps.subI rfl rfl (by omega) (by omega) (SOps.bin rfl rfl rfl (SOps.callP (jSpread hV _ w _ hok.fit.1 hok.fit.2) rfl ?_))))))))))))
   rintro _ rfl
   refine SOps.move rfl (SOps.extract rfl rfl (SOps.extract rfl rfl (SOps.assign rfl (SOps.assign rfl (SOps.nil (SCode.seq (SCode.seqR (SOps.move rfl (SOps.bin rfl rfl rfl (SOps.reSlot (t := 46) rfl (show _ = DV.v (.bool false) from congrArg (fun b => DV.v (.bool b)) (by rw [hsp.1]; rfl)) (SOps.nil ?_)))))))))))
   refine SCode.cond rfl (fun h => by cases h) (fun _ => ?_)
   refine SCode.skip ?_
   show SCode _ _ _ _
   refine SCode.region (SOps.move rfl (SOps.move rfl (SOps.litF rfl sliceB_22_9_1 zeroIs_9 rfl ?_)))
   refine SOps.appendAcc [] _ sliceB_22_9_1 elemB_9_1_16 rfl rfl rfl SrcD.isl (by simp) (by first | (simp [lenB] <;> (first | omega | (simp only [lenB]; omega) | (simp only [List.length_map, lenB]; omega) | (simp; done))) | (simp only [lenB]; (first | omega | (simp only [lenB]; omega) | (simp only [List.length_map, lenB]; omega) | (simp; done)))) (by first | (simp <;> (first | omega | (simp only [lenB]; omega) | (simp only [List.length_map, lenB]; omega) | (simp; done))) | (first | omega | (simp only [lenB]; omega) | (simp only [List.length_map, lenB]; omega) | (simp; done))) (fun b1 => ?_)
   refine SOps.assign rfl (SOps.nil ?_)
   show SCode _ _ _ _
   refine SCode.region (SOps.addI rfl rfl (by omega) (by omega) (SOps.move rfl (SOps.nil ?_)))
   exact ⟨i + 1, b1, by omega, by omega, St.Le.of ⟨rfl, rfl, (by show some _ = some _; rw [sprs_next, hse, List.map_append]; rfl), rfl, rfl, rfl, trivial⟩ rfl (by rw [sprs_next, hse, List.map_append]; rfl)⟩
  ·try simp only [nmL] at hc2
   refine SCode.exit ?_
   show SCode _ _ _ _
   refine SCode.seqR ?_
   obtain rfl : i = (linesR l w pen).1.length := by omega
   refine SOps.freezeAcc (t := 11) [] [] rfl rfl rfl (SOps.move rfl (SOps.assign rfl (SOps.assign rfl (SOps.nil (SCode.ret ?_)))))
   exact ⟨_, Res.two (.tmp rfl) (.tmp rfl), by unfold paraR; rw [show (linesR l w pen).2.2 = 0 from by simp_all], rfl⟩
end Go.GH
namespace Go.GH
open Go Go.Proofs
variable {E : Env}
theorem qParagraph (l : List Bx) (w pen : Int) (hbx : ∀ x ∈ l, x.word.size ≤ 1048576) (h11 : boxesB l = true → ptN l ≤ 11) : GCall Tryz.prog E 21 [DBxs l, .v (.int .i64 w), .v (.int .i64 pen)] [] (fun d H => d = .tup [DStrs (paraR l w pen).1, .v (.int .i64 (paraR l w pen).2)] ∧ H = []) := by
 refine GCall.body (C := ⟨Tryz.prog, E, true⟩) Tryz.func21 rfl (fun _ => rfl) (by kernel_rfl) rfl ?_
 refine SCode.seqR (SOps.assign rfl (SOps.assign rfl (SOps.nil (SCode.seq (SCode.seqR (SOps.move rfl (SOps.callP (qBoxes l hbx) rfl ?_)))))))
 rintro _ rfl
 refine SOps.un rfl rfl (SOps.move rfl ?_)
 refine SOps.caseB 18 rfl (fun hb1 => ?_) (fun hb1 => ?_)
 ·try simp only [nmL] at hb1
  refine SOps.skip rfl (SOps.skip rfl (SOps.skip rfl (SOps.pick rfl rfl (SOps.move rfl (SOps.skip rfl (SOps.skip rfl (SOps.skip rfl (SOps.pick rfl rfl (SOps.nil ?_)))))))))
  refine SCode.cond rfl (fun _ => ?_) (fun h => by cases h)
  refine SCode.seqR (SOps.assign rfl (SOps.assign rfl (SOps.nil (SCode.nilIsl (t := 6) (sz := 1) rfl (SCode.ret ?_)))))
  have hz : paraR l w pen = ([], 1) := by unfold paraR linesR; rw [if_neg (by unfold validL; simp_all)]; rfl
  exact ⟨_, Res.two (.tmp rfl) (.tmp rfl), by rw [hz]; rfl, rfl⟩
 ·try simp only [nmL] at hb1
  refine SOps.move rfl (SOps.callP (qWidth _) rfl ?_)
  rintro _ rfl
  refine SOps.un rfl rfl (SOps.pick rfl rfl (SOps.move rfl ?_))
  refine SOps.caseB 23 rfl (fun hb2 => ?_) (fun hb2 => ?_)
  ·try simp only [nmL] at hb2
   refine SOps.skip rfl (SOps.skip rfl (SOps.skip rfl (SOps.pick rfl rfl (SOps.nil ?_))))
   refine SCode.cond rfl (fun _ => ?_) (fun h => by cases h)
   refine SCode.seqR (SOps.assign rfl (SOps.assign rfl (SOps.nil (SCode.nilIsl (t := 6) (sz := 1) rfl (SCode.ret ?_)))))
   have hz : paraR l w pen = ([], 1) := by unfold paraR linesR; rw [if_neg (by unfold validL; simp_all)]; rfl
   exact ⟨_, Res.two (.tmp rfl) (.tmp rfl), by rw [hz]; rfl, rfl⟩
  ·try simp only [nmL] at hb2
   refine SOps.move rfl (SOps.callP (qPenalty _) rfl ?_)
   rintro _ rfl
   refine SOps.un rfl rfl (SOps.pick rfl rfl (SOps.nil ?_))
   refine SCode.cond rfl (fun hc3 => ?_) (fun hc3 => ?_)
   ·try simp only [nmL] at hc3
    refine SCode.seqR (SOps.assign rfl (SOps.assign rfl (SOps.nil (SCode.nilIsl (t := 6) (sz := 1) rfl (SCode.ret ?_)))))
    have hz : paraR l w pen = ([], 1) := by unfold paraR linesR; rw [if_neg (by unfold validL; simp_all)]; rfl
    exact ⟨_, Res.two (.tmp rfl) (.tmp rfl), by rw [hz]; rfl, rfl⟩
   ·try simp only [nmL] at hc3
    refine SCode.skip ?_
    show SCode _ _ _ _
    refine SCode.seqR ?_
    have hbo : boxesB l = true := by simp_all
    have hwd0 : wideB w = true := by simp_all
    have hpe : penB pen = true := by simp_all
    have hv : validL l w = true := by unfold validL; rw [hwd0, hbo]; rfl
    refine SOps.move rfl (SOps.move rfl (SOps.move rfl (SOps.callP (qLines l w pen hv (h11 hbo) hpe) rfl ?_)))
    rintro _ rfl
    refine SOps.move rfl (SOps.extract rfl rfl (SOps.extract rfl rfl (SOps.extract rfl rfl (SOps.assign rfl (SOps.assign rfl (SOps.assign rfl (SOps.nil (SCode.seq (SCode.seqR (SOps.move rfl (SOps.bin rfl rfl rfl (SOps.nil ?_))))))))))))
    refine SCode.cond rfl (fun hc4 => ?_) (fun hc4 => ?_)
    ·try simp only [nmL] at hc4
     refine SCode.seqR (SOps.move rfl (SOps.assign rfl (SOps.assign rfl (SOps.nil (SCode.nilIsl (t := 6) (sz := 1) rfl (SCode.ret ?_))))))
     exact ⟨_, Res.two (.tmp rfl) (.tmp rfl), by rw [para_bad (by simp_all)]; rfl, rfl⟩
    ·try simp only [nmL] at hc4
     refine SCode.skip ?_
     show SCode _ _ _ _
     refine SCode.seqR ?_
     refine SOps.litO sliceB_22_9_1 zeroIs_9 rfl (fun b0 hb_0 => ?_)
     refine SOps.assign rfl (SOps.nil (SCode.seq (SCode.seqR (SOps.assign rfl (SOps.nil (SCode.block (SCode.loop2 (fun (i : Nat) (b : Nat) => (⟨65, [(1, .v (.int .i64 w)), (8, DLns (linesR l w pen).1), (11, .sl b 1 0 i), (12, .v (.int .i64 (i : Int)))], [(b, .row 9 1 ((sprs (linesR l w pen).1 w i).map encS))]⟩ : St)) (fun (i : Nat) (b : Nat) => i ≤ (linesR l w pen).1.length) (fun (i : Nat) (b : Nat) => (linesR l w pen).1.length - i) (0) (b0) (by exact Nat.zero_le _) (St.Le.of ⟨rfl, rfl, rfl, rfl, trivial⟩ rfl rfl) ?_)))))))
     rintro i b hi
     have hsl := sprs_len (linesR l w pen).1 w i
     have hfw := linesR_small (l := l) (w := w) (pen := pen)
     refine SCode.seq (SCode.seqR (SOps.move rfl (SOps.move rfl (SOps.lenM rfl sliceB_36_24_2 (SOps.bin rfl rfl rfl (SOps.nil ?_))))))
     refine SCode.cond rfl (fun hc5 => ?_) (fun hc5 => ?_)
     ·try simp only [nmL] at hc5
      refine SCode.skip ?_
      show SCode _ _ _ _
      refine SCode.seq (SCode.block (SCode.seqR ?_))
      have hil : i < (linesR l w pen).1.length := by omega
      obtain ⟨hwd, hpr, hfit, hok⟩ := lines_good _ (List.getElem_mem hil)
      have hsp := spread_ok (last := ((i : Int) == ((linesR l w pen).1.length : Int) - 1)) hwd hpr hfit
      have hse := sprAt_eq (w := w) hil
      refine SOps.move rfl (SOps.move rfl (SOps.indexM (i) rfl rfl sliceB_36_24_2 (by omega) (by omega) (SOps.loadPinA rfl aggB_24_2 (Nat.le_of_ble_eq_true rfl) (SOps.move rfl (SOps.move rfl (SOps.move rfl (SOps.lenM rfl sliceB_36_24_2 (SOps.subI rfl rfl (by omega) (by omega) (SOps.bin rfl rfl rfl (SOps.callP (qSpread _ w _ hok.fit.1 hok.fit.2) rfl ?_))))))))))
      rintro _ rfl
      refine SOps.move rfl (SOps.extract rfl rfl (SOps.extract rfl rfl (SOps.assign rfl (SOps.assign rfl (SOps.nil (SCode.region (SOps.move rfl (SOps.move rfl (SOps.litF rfl sliceB_22_9_1 zeroIs_9 rfl ?_)))))))))
      refine SOps.appendOwnE 0 sliceB_22_9_1 elemB_9_1_16 rfl rfl rfl (by rw [List.length_map]; exact hsl) SrcD.isl (by simp [lenB]; omega) (by simp; omega) (fun b1 => ?_)
      refine SOps.assign rfl (SOps.nil ?_)
      show SCode _ _ _ _
      refine SCode.region (SOps.move rfl (SOps.addI rfl rfl (by omega) (by omega) (SOps.assign rfl (SOps.nil ?_))))
      exact ⟨i + 1, b1, by omega, by omega, St.Le.of ⟨rfl, rfl, (by first | rfl | (show some _ = some _; congr 2; simp; omega)), rfl, trivial⟩ rfl (by rw [sprs_next, hse, List.map_append]; rfl)⟩
     ·try simp only [nmL] at hc5
      refine SCode.exit ?_
      show SCode _ _ _ _
      refine SCode.seqR ?_
      obtain rfl : i = (linesR l w pen).1.length := by omega
      refine SOps.freezeS (t := 11) 0 rfl rfl rfl (by rw [List.length_map]; omega) (SOps.move rfl (SOps.assign rfl (SOps.assign rfl (SOps.nil (SCode.drop (SCode.ret ?_))))))
      exact ⟨_, Res.two (.tmp rfl) (.tmp rfl), by unfold paraR; rw [show (linesR l w pen).2.2 = 0 from by simp_all], rfl⟩
end Go.GH
namespace Go.GH
open Go Go.Lib Go.Proofs Go.RowKit
def unY : List (List DV) → Option (List UInt8)
  | [] => some []
  | [.v (.int .u8 (.ofNat n))] :: l => bif Nat.blt n 256 then (unY l).map (UInt8.ofNat n :: ·) else none
  | _ => none
def unS : List (List DV) → Option (List ByteArray)
  | [] => some []
  | [.v (.string s)] :: l => (unS l).map (s :: ·)
  | _ => none
theorem unY_eq : ∀ {es : List (List DV)} {bs : List UInt8}, unY es = some bs → es = bs.map encY
  | [], bs, h => by unfold unY at h; cases h; rfl
  | e :: l, bs, h => by
    unfold unY at h
    split at h
    · rename_i h0; cases h0
    · rename_i n l' h0
      simp only [List.cons.injEq] at h0
      obtain ⟨rfl, rfl⟩ := h0
      rcases bif_ite h with ⟨hf, h⟩ | ⟨_, h⟩
      · obtain ⟨bs', h1, rfl⟩ := Option.map_eq_some_iff.1 h
        have hn : n < 256 := by simpa using hf
        rw [unY_eq h1]
        show _ = encY (UInt8.ofNat n) :: _
        unfold encY
        rw [show ((UInt8.ofNat n).toNat : Int) = Int.ofNat n by simp; omega]
      · cases h
    · cases h
theorem unS_eq : ∀ {es : List (List DV)} {ws : List ByteArray}, unS es = some ws → es = ws.map encS
  | [], bs, h => by unfold unS at h; cases h; rfl
  | e :: l, bs, h => by
    unfold unS at h
    split at h
    · rename_i h0; cases h0
    · rename_i n l' h0
      simp only [List.cons.injEq] at h0
      obtain ⟨rfl, rfl⟩ := h0
      obtain ⟨bs', h1, rfl⟩ := Option.map_eq_some_iff.1 h
      rw [unS_eq h1]
      rfl
    · cases h
theorem RLL.map_v {ρ : Rn} {α : Type} {f : α → List DV} (hf : ∀ a, ∃ x, f a = [.v x]) : ∀ {l : List α} {es : List (List DV)}, RLL ρ (l.map f) es → es = l.map f
  | [], es, h => h.inv_nil
  | a :: l, es, h => by
    obtain ⟨b, t, rfl, h1, h2⟩ := PWl.inv_cons h
    obtain ⟨x, hx⟩ := hf a
    rw [hx] at h1
    rw [RL1 h1, RLL.map_v hf h2, List.map_cons, hx]
theorem RLL.self_v {ρ : Rn} {α : Type} {f : α → List DV} (hf : ∀ a, ∃ x, f a = [.v x]) (l : List α) : RLL ρ (l.map f) (l.map f) := PWl.refl (fun e he => by
  obtain ⟨a, _, rfl⟩ := List.mem_map.1 he
  obtain ⟨x, hx⟩ := hf a
  rw [hx]
  exact RL.self (fun d hd => ⟨x, by simpa using hd⟩))
theorem encY_v (y : UInt8) : ∃ x, encY y = [.v x] := ⟨_, rfl⟩
theorem encS_v (s : ByteArray) : ∃ x, encS s = [.v x] := ⟨_, rfl⟩

/-! ### a builder -/
def okX (b : Nat) : DV → Bool
  | .v (.pointer none) => true
  | .vref b2 86 2 => Nat.beq b2 b
  | _ => false
def bldE (hp : Nat → Option DO) (b : Nat) : Option (List UInt8 × Option Nat) := match hp b with
  | some (.row 86 2 [[x, acc]]) => bif okX b x then (match acc with
    | .v (.slice none 0 0) => some ([], none)
    | .sl g 1 0 n => (match hp g with
      | some (.row 5 1 es) => (match unY es with
        | some (y :: bs) => bif Nat.beq n (bs.length + 1) then some (y :: bs, some g) else none
        | _ => none)
      | _ => none)
    | _ => none) else none
  | _ => none
theorem okX_rd {ρ : Rn} {b b' : Nat} {x x' : DV} (h : okX b x = true) (hb : ρ b = some b') (hr : RD ρ x x') : ∃ used, x' = adrB b' used := by
  unfold okX at h
  split at h
  · exact ⟨false, hr.inv_v⟩
  · obtain ⟨b2, rfl, h2⟩ := hr.inv_vref
    obtain rfl := Nat.eq_of_beq_eq_true h
    rw [hb] at h2
    obtain rfl := Option.some.inj h2
    exact ⟨true, rfl⟩
  · cases h
/-- What an abstract heap holds where the evaluator's holds a builder. -/
theorem bldE_ok {hp : Nat → Option DO} {b : Nat} {bs : List UInt8} {og : Option Nat} (h : bldE hp b = some (bs, og)) :
    hp b ≠ none ∧ (∀ g, og = some g → hp g ≠ none ∧ g ≠ b) ∧ (og = none → bs = []) ∧ ∀ ρ H b', CovH ρ hp H → ρ b = some b' → ∃ g' used G, (bldH b' g' used bs ++ G).Perm H ∧ (∀ p ∈ bldH b' g' used bs, p.1 = b' ∨ ∃ g, og = some g ∧ ρ g = some p.1) := by
  unfold bldE at h
  split at h
  · rename_i x acc hb
    rcases bif_ite h with ⟨hx, h⟩ | ⟨_, h⟩
    · split at h
      · cases h
        refine ⟨by rw [hb]; simp, (fun g h => by cases h), (fun _ => rfl), fun ρ H b' hc hbb => ?_⟩
        obtain ⟨b2, o', e1, e2, e3⟩ := hc.obj b _ hb
        rw [hbb] at e1
        obtain rfl := Option.some.inj e1
        cases e3 with
        | row h =>
          obtain ⟨r, t, rfl, h1, h2⟩ := PWl.inv_cons h
          obtain rfl := PWl.inv_nil h2
          obtain ⟨x', t, rfl, h3, h4⟩ := PWl.inv_cons h1
          obtain ⟨a', t, rfl, h5, h6⟩ := PWl.inv_cons h4
          obtain rfl := PWl.inv_nil h6
          rw [h5.inv_v] at e2
          obtain ⟨used, rfl⟩ := okX_rd hx hbb h3
          obtain ⟨G, hG⟩ := perm_one e2
          exact ⟨0, used, G, hG, fun p hp => .inl (by rw [List.mem_singleton.1 hp])⟩
      · rename_i g n hh
        clear hh
        split at h
        · rename_i es hg
          split at h
          · rename_i y bs0 hu
            rcases bif_ite h with ⟨hn, h⟩ | ⟨_, h⟩
            · cases h
              have hgb : g ≠ b := fun e => by rw [e, hb] at hg; cases hg
              refine ⟨by rw [hb]; simp, (fun g2 h2 => by cases h2; exact ⟨by rw [hg]; simp, hgb⟩), (fun h => by cases h), fun ρ H b' hc hbb => ?_⟩
              obtain rfl := Nat.eq_of_beq_eq_true hn
              obtain ⟨b2, o', e1, e2, e3⟩ := hc.obj b _ hb
              rw [hbb] at e1
              obtain rfl := Option.some.inj e1
              obtain ⟨g', og', k1, k2, k3⟩ := hc.obj g _ hg
              cases e3 with
              | row h =>
                obtain ⟨r, t, rfl, h1, h2⟩ := PWl.inv_cons h
                obtain rfl := PWl.inv_nil h2
                obtain ⟨x', t, rfl, h3, h4⟩ := PWl.inv_cons h1
                obtain ⟨a', t, rfl, h5, h6⟩ := PWl.inv_cons h4
                obtain rfl := PWl.inv_nil h6
                obtain ⟨g2, rfl, h7⟩ := h5.inv_sl
                rw [k1] at h7
                obtain rfl := Option.some.inj h7
                obtain ⟨used, rfl⟩ := okX_rd hx hbb h3
                cases k3 with
                | row hk =>
                  rw [unY_eq hu] at hk
                  obtain rfl := RLL.map_v encY_v hk
                  obtain ⟨G, hG⟩ := perm_two e2 k2 (fun e => by
                    have := congrArg Prod.fst e
                    simp only at this
                    subst this
                    exact hgb (hc.inj g b _ _ _ hg hb k1 hbb))
                  refine ⟨g', used, G, ?_, fun p hp => ?_⟩
                  · refine (List.Perm.of_eq ?_).trans hG
                    show [_, _] ++ G = _
                    simp [bldH, accD, List.length_map]
                  · rcases List.mem_cons.1 hp with h | h
                    · exact .inl (by rw [h])
                    · rw [List.mem_singleton.1 h]; exact .inr ⟨g, rfl, k1⟩
            · cases h
          · cases h
        · cases h
      · cases h
    · cases h
  · cases h
end Go.GH
namespace Go.GH
open Go Go.Lib Go.Proofs Go.RowKit
def newB (nx b : Nat) (bs : List UInt8) (og : Option Nat) : List (Nat × Option DO) := match bs with
  | [] => [(b, some (.row 86 2 [[.vref b 86 2, .v (.slice none 0 0)]]))]
  | y :: l => (nx, some (.row 5 1 ((y :: l).map encY))) :: ((match og with | some g => [(g, none)] | none => []) ++ [(b, some (.row 86 2 [[.vref b 86 2, .sl nx 1 0 (l.length + 1)]]))])
theorem blt_of {a c : Nat} (h : a < c) : Nat.blt a c = true := by simpa using h
theorem newB_facts {hp : Tr DO} {nx b : Nat} {bs : List UInt8} {og : Option Nat} (hcap : Nat.blt nx capE = true) (hb : b < nx) (hg : ∀ g, og = some g → g < nx ∧ g ≠ b ∧ bs ≠ []) :
    (upsE hp (newB nx b bs og)).get b = some (.row 86 2 [[.vref b 86 2, accD 1 nx (bs.map encY)]]) ∧ (bs ≠ [] → (upsE hp (newB nx b bs og)).get nx = some (.row 5 1 (bs.map encY)) ∧ nx ∈ (newB nx b bs og).map (·.1)) ∧ (∀ g, og = some g → (upsE hp (newB nx b bs og)).get g = none ∧ g ∈ (newB nx b bs og).map (·.1)) ∧
    b ∈ (newB nx b bs og).map (·.1) ∧ (∀ k ∈ (newB nx b bs og).map (·.1), k = b ∨ (k = nx ∧ bs ≠ []) ∨ og = some k) ∧ ∀ k, k ∉ (newB nx b bs og).map (·.1) → (upsE hp (newB nx b bs og)).get k = hp.get k := by
  have hnc : nx < capE := by simpa using hcap
  have cb : Nat.blt b capE = true := blt_of (by omega)
  cases bs with
  | nil =>
    cases og with
    | some g => exact absurd rfl (hg g rfl).2.2
    | none =>
      have key : ∀ j, (upsE hp (newB nx b [] none)).get j = if j = b then some (.row 86 2 [[.vref b 86 2, .v (.slice none 0 0)]]) else hp.get j := fun j => put_get _ _ _ cb
      refine ⟨by rw [key, if_pos rfl]; rfl, fun h => absurd rfl h, (fun g h => by cases h), List.mem_singleton.2 rfl, fun k hk => .inl (List.mem_singleton.1 hk), fun k hk => ?_⟩
      rw [key, if_neg (fun e => hk (List.mem_singleton.2 e))]
  | cons y l =>
    cases og with
    | none =>
      have key : ∀ j, (upsE hp (newB nx b (y :: l) none)).get j = if j = b then some (.row 86 2 [[.vref b 86 2, .sl nx 1 0 (l.length + 1)]]) else if j = nx then some (.row 5 1 ((y :: l).map encY)) else hp.get j := fun j => (put_get _ _ _ cb).trans (by rw [put_get _ _ _ hcap])
      refine ⟨by rw [key, if_pos rfl]; simp [accD], fun _ => ⟨by rw [key, if_neg (by omega), if_pos rfl], List.mem_cons_self ..⟩, (fun g h => by cases h), List.mem_cons_of_mem _ (List.mem_singleton.2 rfl), fun k hk => ?_, fun k hk => ?_⟩
      · rcases List.mem_cons.1 hk with h | h
        · exact .inr (.inl ⟨h, by simp⟩)
        · exact .inl (List.mem_singleton.1 h)
      · rw [key, if_neg (fun e => hk (by rw [e]; exact List.mem_cons_of_mem _ (List.mem_singleton.2 rfl))), if_neg (fun e => hk (by rw [e]; exact List.mem_cons_self ..))]
    | some g =>
      obtain ⟨g1, g2, _⟩ := hg g rfl
      have cg : Nat.blt g capE = true := blt_of (by omega)
      have key : ∀ j, (upsE hp (newB nx b (y :: l) (some g))).get j = if j = b then some (.row 86 2 [[.vref b 86 2, .sl nx 1 0 (l.length + 1)]]) else if j = g then none else if j = nx then some (.row 5 1 ((y :: l).map encY)) else hp.get j := fun j => (put_get _ _ _ cb).trans (by rw [put_get _ _ _ cg, put_get _ _ _ hcap])
      have hm : ∀ k, k ∈ (newB nx b (y :: l) (some g)).map (·.1) ↔ k = nx ∨ k = g ∨ k = b := fun k => by simp [newB]
      refine ⟨by rw [key, if_pos rfl]; simp [accD], fun _ => ⟨by rw [key, if_neg (by omega), if_neg (by omega), if_pos rfl], (hm _).2 (.inl rfl)⟩, fun g' h => ?_, (hm _).2 (.inr (.inr rfl)), fun k hk => ?_, fun k hk => ?_⟩
      · cases h
        exact ⟨by rw [key, if_neg g2, if_pos rfl], (hm _).2 (.inr (.inl rfl))⟩
      · rcases (hm k).1 hk with h | h | h
        · exact .inr (.inl ⟨h, by simp⟩)
        · exact .inr (.inr (by rw [h]))
        · exact .inl h
      · have := fun x => hk ((hm k).2 x)
        rw [key, if_neg (fun e => this (.inr (.inr e))), if_neg (fun e => this (.inr (.inl e))), if_neg (fun e => this (.inl e))]
theorem bldStep {f : FuncId} {xs : List DV} {d : DV} {hp : Tr DO} {nx b : Nat} {bs bs2 : List UInt8} {og : Option Nat} (hxs : ∀ ρ ys, RL ρ xs ys → ys = xs) (hd : ∀ ρ, RD ρ d d)
    (hcon : ∀ b g used, GCall Tryz.prog E50 f (.vref b 86 2 :: xs) (bldH b g used bs) (fun d' H => ∃ g', d' = d ∧ H = bldH b g' true bs2)) (h0 : bs2 = [] → bs = []) (hb : bldE hp.get b = some (bs, og)) (hcap : Nat.blt nx capE = true) (wf : WF hp.get nx) :
    OkH f (.vref b 86 2 :: xs) hp nx d (newB nx b bs2 og) (nx + 1) := by
  obtain ⟨k1, k2, k3, k4⟩ := bldE_ok hb
  have hbn := wf b k1
  have hgs : ∀ g, og = some g → g < nx ∧ g ≠ b ∧ bs2 ≠ [] := fun g e => ⟨wf g (k2 g e).1, (k2 g e).2, fun e2 => by
    have hbs := h0 e2
    subst hbs
    unfold bldE at hb
    split at hb
    · rcases bif_ite hb with ⟨_, hb⟩ | ⟨_, hb⟩
      · split at hb
        · cases hb; cases e
        · split at hb
          · split at hb
            · rcases bif_ite hb with ⟨_, hb⟩ | ⟨_, hb⟩
              · cases hb
              · cases hb
            · cases hb
          · cases hb
        · cases hb
      · cases hb
    · cases hb⟩
  obtain ⟨f1, f2, f3, f4, f5, f6⟩ := newB_facts (hp := hp) hcap hbn hgs
  refine ⟨⟨by omega, fun k hk hlt => ?_, fun k hk => ?_, f6⟩, fun ρ dsA H hc hf hR => ?_⟩
  · rcases f5 k hk with h | ⟨h, _⟩ | h
    · rw [h]; exact k1
    · omega
    · exact (k2 k h).1
  · rcases f5 k hk with h | ⟨h, _⟩ | h
    · omega
    · omega
    · have := (hgs k h).1; omega
  · obtain ⟨b1, t, rfl, h1, h2⟩ := hR.inv_cons
    obtain ⟨b', rfl, hbb⟩ := h1.inv_vref
    obtain rfl := hxs _ _ h2
    obtain ⟨g', used, G, hperm, hkeys⟩ := k4 ρ H b' hc hbb
    refine (GCall.frameP hperm (hcon b' g' used)).mono ?_
    rintro d' H' ⟨_, ⟨g2, rfl, rfl⟩, rfl, hnd⟩
    simp only at hf
    refine ⟨fun k => if k = nx then (if bs2 = [] then none else some g2) else ρ k, ⟨fun k hk => if_neg (fun e => hk ⟨by omega, by rw [e]; exact Nat.lt_succ_self _⟩), fun p hp hun => ?_, fun k hk o ho => ?_, ?_⟩, hd _⟩
    · have hpG : p ∈ G := by
        rcases List.mem_append.1 (hperm.mem_iff.2 hp) with h | h
        · rcases hkeys p h with h9 | ⟨g, hg, h9⟩
          · exact absurd (by rw [h9]; exact hbb) (hun b f4 hbn)
          · exact absurd h9 (hun g (f3 g hg).2 (hgs g hg).1)
        · exact h
      refine ⟨List.mem_append_right _ hpG, fun k c q1 q2 e => ?_⟩
      have e' : k = nx := by have : k < nx + 1 := q2; omega
      rw [if_pos e'] at e
      split at e
      · cases e
      · rename_i hne
        obtain rfl := Option.some.inj e
        intro e9
        rw [List.map_append, List.nodup_append] at hnd
        exact hnd.2.2 g2 (by
          unfold bldH
          rw [accH_ne (by rw [List.length_map]; exact List.length_pos_iff.2 hne)]
          simp) p.1 (List.mem_map.2 ⟨p, hpG, rfl⟩) e9
    · rcases f5 k hk with h | ⟨h, hne⟩ | h
      · subst h
        simp only at ho
        rw [f1] at ho
        obtain rfl := Option.some.inj ho
        refine ⟨b', .row 86 2 [[.vref b' 86 2, accD 1 g2 (bs2.map encY)]], by rw [if_neg (by omega)]; exact hbb, List.mem_append_left _ (List.mem_cons_self ..), .row (PWl.cons (PWl.cons (RD.vref (by show (if k = nx then _ else ρ k) = some b'; rw [if_neg (by omega)]; exact hbb)) (PWl.cons ?_ PWl.nil)) PWl.nil)⟩
        cases bs2 with
        | nil => exact .v _
        | cons y l => exact RD.sl (by simp)
      · subst h
        simp only at ho
        rw [(f2 hne).1] at ho
        obtain rfl := Option.some.inj ho
        refine ⟨g2, .row 5 1 (bs2.map encY), by rw [if_pos rfl, if_neg hne], List.mem_append_left _ ?_, .row (RLL.self_v encY_v _)⟩
        unfold bldH
        rw [accH_ne (by rw [List.length_map]; exact List.length_pos_iff.2 hne)]
        simp
      · simp only at ho
        rw [(f3 k h).1] at ho
        cases ho
    · have key : ∀ c, bs2 ≠ [] → b' = c → g2 = c → False := fun c hne e1 e2 => by
        subst e1; subst e2
        rw [List.map_append, List.nodup_append] at hnd
        have := hnd.1
        unfold bldH at this
        rw [accH_ne (by rw [List.length_map]; exact List.length_pos_iff.2 hne)] at this
        simp at this
      intro q1 hq1 q2 hq2 o1 o2 c e1 e2 e3 e4
      simp only at e1 e2
      rcases f5 q1 hq1 with h | ⟨h, hne⟩ | h
      · rcases f5 q2 hq2 with h' | ⟨h', hne⟩ | h'
        · rw [h, h']
        · subst h; subst h'
          rw [if_neg (by omega), hbb] at e3
          rw [if_pos rfl, if_neg hne] at e4
          exact (key c hne (Option.some.inj e3) (Option.some.inj e4)).elim
        · rw [(f3 _ h').1] at e2; cases e2
      · rcases f5 q2 hq2 with h' | ⟨h', _⟩ | h'
        · subst h; subst h'
          rw [if_neg (by omega), hbb] at e4
          rw [if_pos rfl, if_neg hne] at e3
          exact (key c hne (Option.some.inj e4) (Option.some.inj e3)).elim
        · rw [h, h']
        · rw [(f3 _ h').1] at e2; cases e2
      · rw [(f3 _ h).1] at e1; cases e1
end Go.GH
namespace Go.GH
open Go Go.Lib Go.Proofs Go.RowKit
/-- The builder's string: the builder is let go. -/
theorem bldStr {hp : Tr DO} {nx b : Nat} {bs : List UInt8} {og : Option Nat} (hl : bs.length ≤ 70368744177664) (hb : bldE hp.get b = some (bs, og)) (hcap : Nat.blt nx capE = true) (wf : WF hp.get nx) :
    OkH 43 [.vref b 86 2] hp nx (.v (.string ⟨bs.toArray⟩)) ((match og with | some g => [(g, none)] | none => []) ++ [(b, none)]) nx := by
  obtain ⟨k1, k2, k3, k4⟩ := bldE_ok hb
  have hbn := wf b k1
  have hnc : nx < capE := by simpa using hcap
  have cb : Nat.blt b capE = true := blt_of (by omega)
  obtain ⟨up, hup⟩ : ∃ up, up = ((match og with | some g => [(g, none)] | none => []) ++ [(b, none)] : List (Nat × Option DO)) := ⟨_, rfl⟩
  rw [← hup]
  have hm : ∀ k, k ∈ up.map (·.1) ↔ k = b ∨ og = some k := fun k => by
    rw [hup]
    cases og with
    | none => simp
    | some g => simp [eq_comm, or_comm]
  have key : ∀ j, (upsE hp up).get j = if j = b ∨ og = some j then none else hp.get j := fun j => by
    rw [hup]
    cases og with
    | none => exact (put_get _ _ _ cb).trans (by simp)
    | some g =>
      have cg : Nat.blt g capE = true := blt_of (by have := wf g (k2 g rfl).1; omega)
      refine (put_get _ _ _ cb).trans ?_
      rw [put_get _ _ _ cg]
      by_cases h1 : j = b
      · rw [if_pos h1, if_pos (.inl h1)]
      · rw [if_neg h1]
        by_cases h2 : j = g
        · rw [if_pos h2, if_pos (.inr (by rw [h2]))]
        · rw [if_neg h2, if_neg (by rintro (h | h); exact h1 h; exact h2 (Option.some.inj h).symm)]
  have hlive : ∀ k ∈ up.map (·.1), hp.get k ≠ none := fun k hk => by
    rcases (hm k).1 hk with h | h
    · rw [h]; exact k1
    · exact (k2 k h).1
  refine ⟨⟨Nat.le_refl _, fun k hk _ => hlive k hk, fun k hk => wf k (hlive k hk), fun k hk => by rw [key, if_neg (fun h => hk ((hm k).2 h))]⟩, fun ρ dsA H hc hf hR => ?_⟩
  obtain ⟨b1, t, rfl, h1, h2⟩ := hR.inv_cons
  obtain ⟨b', rfl, hbb⟩ := h1.inv_vref
  obtain rfl := h2.inv_nil
  obtain ⟨g', used, G, hperm, hkeys⟩ := k4 ρ H b' hc hbb
  refine (GCall.frameP hperm (bString (E := E50) b' g' used bs hl)).mono ?_
  rintro d' H' ⟨_, ⟨rfl, rfl⟩, rfl, hnd⟩
  refine ⟨ρ, ⟨fun _ _ => rfl, fun p hp hun => ⟨?_, fun k c q1 q2 => absurd q2 (Nat.not_lt.2 q1)⟩, fun k hk o ho => ?_, fun q1 hq1 q2 hq2 o1 o2 c e1 => ?_⟩, .v _⟩
  · rcases List.mem_append.1 (hperm.mem_iff.2 hp) with h | h
    · rcases hkeys p h with h9 | ⟨g, hg, h9⟩
      · exact absurd (by rw [h9]; exact hbb) (hun b ((hm b).2 (.inl rfl)) hbn)
      · exact absurd h9 (hun g ((hm g).2 (.inr hg)) (wf g (k2 g hg).1))
    · exact h
  · simp only at ho
    rw [key, if_pos ((hm k).1 hk)] at ho
    cases ho
  · simp only at e1
    rw [key, if_pos ((hm q1).1 hq1)] at e1
    cases e1
/-- strings.Join of a list that lies in a row of its own. -/
theorem joinStep {hp : Tr DO} {nx b el n : Nat} {es : List (List DV)} {ws : List ByteArray} (hb : hp.get b = some (.row el 1 es)) (hu : unS es = some ws) (hn : n = es.length) (h1 : ws.length ≤ 1048576) (h2 : ∀ w ∈ ws, w.size ≤ 1048576) :
    OkH 74 [.sl b 1 0 n, .v (.string sp1)] hp nx (.v (.string (catW ws))) [] nx := by
  refine ⟨Pure'.refl _ _, fun ρ dsA H hc hf hR => ?_⟩
  obtain ⟨b1, t, rfl, h3, h4⟩ := hR.inv_cons
  obtain ⟨b', rfl, hbb⟩ := h3.inv_sl
  obtain rfl := RL1 h4
  obtain ⟨b2, o', e1, e2, e3⟩ := hc.obj b _ hb
  rw [hbb] at e1
  obtain rfl := Option.some.inj e1
  cases e3 with
  | row h =>
    rw [unS_eq hu] at h
    obtain rfl := RLL.map_v encS_v h
    refine (GCall.thaw (ds := [.sl b' 1 0 n, .v (.string sp1)]) (H := H) (sJoin (E := E50) ws h1 h2) rfl (fun w F hH j d d' v hd hd' hr => ?_)).mono (fun d' H' ⟨e1, e2⟩ => ?_)
    · cases j with
      | zero =>
        simp only [List.getElem?_cons_zero, Option.some.injEq] at hd hd'
        subst hd; subst hd'
        rw [hn, unS_eq hu] at hr
        exact (rep_row (hH _ e2) hr).mono (fun _ _ => rfl) (fun _ _ h => h) (fun c hc => hc.imp id (fun e => by subst e; exact List.mem_map.2 ⟨_, e2, rfl⟩))
      | succ j =>
        simp only [List.getElem?_cons_succ] at hd hd'
        rw [hd] at hd'
        obtain rfl := Option.some.inj hd'
        exact hr.mono (fun _ _ => rfl) (fun _ _ h => h) (fun _ h => .inl h)
    · subst e1; subst e2
      exact ⟨ρ, Post.id (fun p hp => hp), .v _⟩
def hook50 (f : FuncId) (ds : List DV) (hp : Nat → Option DO) (nx : Nat) : Option (Option (DV × List (Nat × Option DO) × Nat)) := match ds with
  | [.vref b 86 2] => bif Nat.beq f 43 then some (match bldE hp b with
    | some (bs, og) => onE (Nat.ble bs.length 70368744177664 && Nat.blt nx capE) (.v (.string ⟨bs.toArray⟩), (match og with | some g => [(g, none)] | none => []) ++ [(b, none)], nx)
    | none => none) else none
  | [.vref b 86 2, .v (.string s)] => bif Nat.beq f 41 then some (match bldE hp b with
    | some (bs, og) => onE (Nat.ble (bs.length + s.size) 70368744177664 && Nat.blt nx capE) (.tup [.v (.int .i64 s.size), .v .nilIface], newB nx b (bs ++ s.data.toList) og, nx + 1)
    | none => none) else none
  | [.vref b 86 2, .v (.int .u8 (.ofNat n))] => bif Nat.beq f 42 then some (match bldE hp b with
    | some (bs, og) => onE (Nat.blt n 256 && (Nat.ble bs.length 70368744177664 && Nat.blt nx capE)) (.v .nilIface, newB nx b (bs ++ [UInt8.ofNat n]) og, nx + 1)
    | none => none) else none
  | [.sl b 1 0 n, .v (.string s)] => bif Nat.beq f 74 then some (match hp b with
    | some (.row _ 1 es) => (match unS es with
      | some ws => onE (isS s sp1 && (Nat.beq n es.length && (Nat.ble ws.length 1048576 && ws.all (fun w => Nat.ble w.size 1048576)))) (.v (.string (catW ws)), [], nx)
      | none => none)
    | _ => none) else none
  | _ => match hkP f ds with
    | some (some d) => some (some (d, [], nx))
    | some none => some none
    | none => none
noncomputable def K50 : Cfg := ⟨Tryz.prog, 86, hook50, fun f => Nat.beq f 99⟩
theorem hook50_ok : HookOk Tryz.prog E50 K50 := by
  intro g ds hp nx d up nx' h wf
  change hook50 g ds hp.get nx = _ at h
  unfold hook50 at h
  split at h
  · rename_i b
    rcases bif_ite h with ⟨hf, h⟩ | ⟨_, h⟩
    · obtain rfl := Nat.eq_of_beq_eq_true hf
      have h := Option.some.inj h
      split at h
      · rename_i bs og hb
        obtain ⟨hc, h⟩ := onE_some h
        cases h
        simp only [Bool.and_eq_true] at hc
        exact bldStr (Nat.le_of_ble_eq_true hc.1) hb hc.2 wf
      · cases h
    · cases h
  · rename_i b s
    rcases bif_ite h with ⟨hf, h⟩ | ⟨_, h⟩
    · obtain rfl := Nat.eq_of_beq_eq_true hf
      have h := Option.some.inj h
      split at h
      · rename_i bs og hb
        obtain ⟨hc, h⟩ := onE_some h
        cases h
        simp only [Bool.and_eq_true] at hc
        exact bldStep (xs := [.v (.string s)]) (fun ρ ys hR => RL1 hR) (fun ρ => RD.tup' (PWl.cons (.v _) (PWl.cons (.v _) PWl.nil))) (fun b g used => bWriteString b g used bs s (Nat.le_of_ble_eq_true hc.1)) (fun e => (List.append_eq_nil_iff.1 e).1) hb hc.2 wf
      · cases h
    · cases h
  · rename_i b n
    rcases bif_ite h with ⟨hf, h⟩ | ⟨_, h⟩
    · obtain rfl := Nat.eq_of_beq_eq_true hf
      have h := Option.some.inj h
      split at h
      · rename_i bs og hb
        obtain ⟨hc, h⟩ := onE_some h
        cases h
        simp only [Bool.and_eq_true] at hc
        have hn : n < 256 := by simpa using hc.1
        have hy : ((UInt8.ofNat n).toNat : Int) = Int.ofNat n := by simp; omega
        exact bldStep (xs := [.v (.int .u8 (.ofNat n))]) (fun ρ ys hR => RL1 hR) (fun ρ => .v _) (fun b g used => by have := bWriteByte (E := E50) b g used bs (UInt8.ofNat n) (Nat.le_of_ble_eq_true hc.2.1); rw [hy] at this; exact this) (fun e => (List.append_eq_nil_iff.1 e).1) hb hc.2.2 wf
      · cases h
    · cases h
  · rename_i b n s
    rcases bif_ite h with ⟨hf, h⟩ | ⟨_, h⟩
    · obtain rfl := Nat.eq_of_beq_eq_true hf
      have h := Option.some.inj h
      split at h
      · rename_i el es hb
        split at h
        · rename_i ws hu
          obtain ⟨hc, h⟩ := onE_some h
          cases h
          simp only [Bool.and_eq_true, List.all_eq_true] at hc
          obtain ⟨c1, c2, c3, c4⟩ := hc
          obtain rfl := isS_eq c1
          exact joinStep hb hu (Nat.eq_of_beq_eq_true c2) (Nat.le_of_ble_eq_true c3) (fun w hw => Nat.le_of_ble_eq_true (c4 w hw))
        · cases h
      · cases h
    · cases h
  · split at h
    · rename_i d0 hd
      cases h
      exact hkP_ok hd
    · cases h
    · cases h
end Go.GH
namespace Go.GH
open Go Go.RowKit
def optAll {α : Type} : List (Option α) → Option (List α)
  | [] => some []
  | some a :: l => (optAll l).map (a :: ·)
  | none :: _ => none
theorem optAll_map {α β : Type} {f : α → Option β} : ∀ {l : List α} {r : List β}, optAll (l.map f) = some r → PWl (fun a b => f a = some b) l r
  | [], r, h => by cases h; exact PWl.nil
  | a :: l, r, h => by
    rw [List.map_cons] at h
    cases hf : f a with
    | none => rw [hf] at h; cases h
    | some b =>
      rw [hf] at h
      obtain ⟨r', h1, rfl⟩ := Option.map_eq_some_iff.1 h
      exact PWl.cons hf (optAll_map h1)
/-- What a value reads as when all that it reaches is let go. -/
def fzE (hp : Nat → Option DO) : Nat → DV → Option DV
  | 0, _ => none
  | n + 1, d => match d with
    | .v x => some (.v x)
    | .agg ds => (optAll (ds.map (fzE hp n))).map DV.agg
    | .tup ds => (optAll (ds.map (fzE hp n))).map DV.tup
    | .isl nn sz es => (optAll (es.map (fun e => optAll (e.map (fzE hp n))))).map (DV.isl nn sz)
    | .sl b sz 0 len => (match hp b with
      | some (.row _ sz2 es) => bif Nat.beq sz sz2 && Nat.beq len es.length then (optAll (es.map (fun e => optAll (e.map (fzE hp n))))).map (DV.isl false sz) else none
      | _ => none)
    | _ => none
def noBlk : Nat → DV → Bool
  | 0, _ => false
  | n + 1, d => match d with
    | .v _ => true
    | .agg ds => ds.all (noBlk n)
    | .isl _ _ es => es.all (fun e => e.all (noBlk n))
    | _ => false
theorem noBlk_rd {ρ : Rn} : ∀ {n : Nat} {d : DV}, noBlk n d = true → RD ρ d d
  | 0, d, h => by cases h
  | n + 1, d, h => by
    unfold noBlk at h
    split at h
    · exact .v _
    · rw [List.all_eq_true] at h
      exact RD.agg' (PWl.refl (fun a ha => noBlk_rd (h a ha)))
    · rw [List.all_eq_true] at h
      exact RD.isl' (PWl.refl (fun e he => PWl.refl (fun a ha => noBlk_rd (List.all_eq_true.1 (h e he) a ha))))
    · cases h
theorem Rep.islMap {w : World} {F : Nat → Prop} {v : Value} {nn : Bool} {sz : Nat} {es es2 : List (List DV)} (h : Rep w F v (.isl nn sz es)) (hp : PWl (PWl (fun d d2 => ∀ x, Rep w F x d → Rep w F x d2)) es es2) : Rep w F v (.isl nn sz es2) := by
  have back : ∀ (i : Nat) e2, es2[i]? = some e2 → ∃ e, es[i]? = some e ∧ PWl (fun d d2 => ∀ x, Rep w F x d → Rep w F x d2) e e2 := fun i e2 h2 => by
    have hlt : i < es.length := hp.1 ▸ (List.getElem?_eq_some_iff.1 h2).1
    exact ⟨es[i], List.getElem?_eq_getElem hlt, hp.2 i _ _ (List.getElem?_eq_getElem hlt) h2⟩
  have back2 : ∀ {e e2 : List DV} (j : Nat) d2, PWl (fun d d2 => ∀ x, Rep w F x d → Rep w F x d2) e e2 → e2[j]? = some d2 → ∃ d, e[j]? = some d ∧ ∀ x, Rep w F x d → Rep w F x d2 := fun {e e2} j d2 q h2 => by
    have hlt : j < e.length := q.1 ▸ (List.getElem?_eq_some_iff.1 h2).1
    exact ⟨e[j], List.getElem?_eq_getElem hlt, q.2 j _ _ (List.getElem?_eq_getElem hlt) h2⟩
  cases h with
  | @isl A len cap nn sz es b o xs hlen hcap hB hnn hA hsz hc hr =>
    refine .isl (b := b) (o := o) xs (by rw [← hp.1]; exact hlen) hcap (by rw [← hp.1]; exact hB) hnn (fun hne => hA (fun e => hne ?_)) (fun i e2 h2 => ?_) (fun i e2 j d2 h2 h3 => ?_) (fun i e2 j d2 h2 h3 => ?_)
    · have := hp.1
      rw [e] at this
      exact List.eq_nil_of_length_eq_zero this.symm
    · obtain ⟨e, h1, q⟩ := back i e2 h2
      rw [← q.1]; exact hsz i e h1
    · obtain ⟨e, h1, q⟩ := back i e2 h2
      obtain ⟨d, h4, _⟩ := back2 j d2 q h3
      exact hc i e j d h1 h4
    · obtain ⟨e, h1, q⟩ := back i e2 h2
      obtain ⟨d, h4, h5⟩ := back2 j d2 q h3
      exact h5 _ (hr i e j d h1 h4)
theorem fzE_ok {ρ : Rn} {hp : Nat → Option DO} {H : DHeap} {w : World} {F : Nat → Prop} (hc : CovH ρ hp H) (hH : ∀ p ∈ H, F p.1 ∧ ObjRep w F p.1 p.2) :
    ∀ (n : Nat) {d d' dF : DV} {v : Value}, fzE hp n d = some dF → RD ρ d d' → Rep w F v d' → Rep w F v dF
  | 0, d, d', dF, v, h, _, _ => by cases h
  | n + 1, d, d', dF, v, h, hR, hv => by
    have lst : ∀ {ds ds' dsF : List DV}, optAll (ds.map (fzE hp n)) = some dsF → RL ρ ds ds' → PWl (fun d d2 => ∀ x, Rep w F x d → Rep w F x d2) ds' dsF := fun {ds ds' dsF} h1 h2 => by
      have h3 := optAll_map h1
      refine ⟨by rw [← h2.1, h3.1], fun i a b ha hb x hx => ?_⟩
      have hlt : i < ds.length := h2.1 ▸ (List.getElem?_eq_some_iff.1 ha).1
      exact fzE_ok hc hH n (h3.2 i _ _ (List.getElem?_eq_getElem hlt) hb) (h2.2 i _ _ (List.getElem?_eq_getElem hlt) ha) hx
    have lst2 : ∀ {es es' : List (List DV)} {esF : List (List DV)}, optAll (es.map (fun e => optAll (e.map (fzE hp n)))) = some esF → RLL ρ es es' → PWl (PWl (fun d d2 => ∀ x, Rep w F x d → Rep w F x d2)) es' esF := fun {es es' esF} h1 h2 => by
      have h3 := optAll_map h1
      refine ⟨by rw [← h2.1, h3.1], fun i a b ha hb => ?_⟩
      have hlt : i < es.length := h2.1 ▸ (List.getElem?_eq_some_iff.1 ha).1
      exact lst (h3.2 i _ _ (List.getElem?_eq_getElem hlt) hb) (h2.2 i _ _ (List.getElem?_eq_getElem hlt) ha)
    unfold fzE at h
    split at h
    · cases h
      rw [hR.inv_v] at hv
      exact hv
    · obtain ⟨dsF, h1, rfl⟩ := Option.map_eq_some_iff.1 h
      obtain ⟨ds', rfl, h2⟩ := hR.inv_agg
      have q := lst h1 h2
      cases hv with
      | agg hl hr =>
        refine .agg (by rw [hl, q.1]) (fun j x d2 hx hd2 => ?_)
        have hlt := q.1 ▸ (List.getElem?_eq_some_iff.1 hd2).1
        exact q.2 j _ _ (List.getElem?_eq_getElem hlt) hd2 x (hr j x _ hx (List.getElem?_eq_getElem hlt))
    · obtain ⟨dsF, h1, rfl⟩ := Option.map_eq_some_iff.1 h
      obtain ⟨ds', rfl, h2⟩ := hR.inv_tup
      have q := lst h1 h2
      cases hv with
      | tup hl hr =>
        refine .tup (by rw [hl, q.1]) (fun j x d2 hx hd2 => ?_)
        have hlt := q.1 ▸ (List.getElem?_eq_some_iff.1 hd2).1
        exact q.2 j _ _ (List.getElem?_eq_getElem hlt) hd2 x (hr j x _ hx (List.getElem?_eq_getElem hlt))
    · obtain ⟨esF, h1, rfl⟩ := Option.map_eq_some_iff.1 h
      obtain ⟨es', rfl, h2⟩ := hR.inv_isl
      exact hv.islMap (lst2 h1 h2)
    · rename_i b sz len
      obtain ⟨b', rfl, hb⟩ := hR.inv_sl
      split at h
      · rename_i el sz2 es ho
        cases hq : (Nat.beq sz sz2 && Nat.beq len es.length) with
        | false => rw [hq] at h; cases h
        | true =>
          rw [hq] at h
          rw [Bool.and_eq_true] at hq
          obtain rfl := Nat.eq_of_beq_eq_true hq.1
          obtain rfl := Nat.eq_of_beq_eq_true hq.2
          obtain ⟨esF, h1, rfl⟩ := Option.map_eq_some_iff.1 h
          obtain ⟨b2, o', e1, e2, e3⟩ := hc.obj b _ ho
          rw [hb] at e1
          obtain rfl := Option.some.inj e1
          cases e3 with
          | row h2 =>
            obtain ⟨hF, hO⟩ := hH _ e2
            rw [h2.1] at hv
            have := (rep_row hO hv).mono (F' := F) (fun _ _ => rfl) (fun _ _ h => h) (fun c hc => hc.elim id (fun e => by rw [e]; exact hF))
            exact this.islMap (lst2 h1 h2)
      · cases h
    · cases h
/-- The result of a closed call, as plain data. -/
def evF (K : Cfg) (fuel n : Nat) (g : FuncId) (ds : List DV) (m : Nat) : Option DV := match callE K fuel n g ds .lf 0 with
  | some (d, hp, _, _) => fzE hp.get m d
  | none => none
theorem ev_top {P : Program} {E : Env} {K : Cfg} (hok : ∀ fuel n, CallsOk P E (callE K fuel n)) {fuel n m m2 : Nat} {g : FuncId} {ds : List DV} {dF : DV} (hd : ds.all (noBlk m2) = true) (h : evF K fuel n g ds m = some dF) :
    GCall P E g ds [] (fun d' H => d' = dF ∧ H = []) := by
  unfold evF at h
  split at h
  · rename_i d hp nx lg hcall
    have wf0 : WF (Tr.lf : Tr DO).get 0 := fun b hb => absurd rfl hb
    obtain ⟨hpu, hco⟩ := hok fuel n g ds .lf 0 _ hcall wf0
    have hc0 : CovH (fun _ => none) (Tr.lf : Tr DO).get [] := ⟨(fun b o ho => by cases ho), (fun b1 b2 o1 o2 c h1 => by cases h1)⟩
    have hf0 : Free (fun _ => none) 0 nx := fun _ _ _ => rfl
    have hg := hco (fun _ => none) ds [] hc0 hf0 (PWl.refl (fun a ha => noBlk_rd (List.all_eq_true.1 hd a ha)))
    refine ⟨hg.1, fun w F vs hE hF hvs hr hH hk => (hg.2 w F vs hE hF hvs hr hH hk).mono ?_⟩
    rintro e w' ⟨u, d', H', F', rfl, ⟨ρ', hpost, hrd⟩, h3, h4, h5, h6, h7, h8⟩
    have hcv := hpost.cov hc0 hf0 hpu
    have hnew : ∀ p ∈ H', w.heap.size ≤ p.1 ∧ p.1 < w'.heap.size := fun p hp => ⟨(h6 p hp).1.resolve_left (fun hm => by cases hm), (h6 p hp).2.2.lt⟩
    refine ⟨u, dF, [], fun c => F' c ∨ c ∈ H'.map (·.1), rfl, ⟨rfl, rfl⟩, fun b hb => .inl (h3 b hb), fun b hb => ?_, ?_, (fun p hp => by cases hp), List.nodup_nil, h8⟩
    · rcases hb with hb | hb
      · exact h4 b hb
      · obtain ⟨p, hp, rfl⟩ := List.mem_map.1 hb
        exact ⟨(hnew p hp).2, .inr (hnew p hp).1⟩
    · refine fzE_ok hcv (fun p hp => ⟨.inr (List.mem_map.2 ⟨p, hp, rfl⟩), (h6 p hp).2.2.mono rfl (fun _ _ => rfl) (fun _ _ h => h) (fun _ h => .inl h)⟩) m h hrd (h5.mono (fun _ _ => rfl) (fun _ _ h => h) (fun _ h => .inl h))
  · cases h
end Go.GH
namespace Go.GH
open Go Go.Lib Go.Proofs Go.RowKit
theorem dfr50 : DfrOk Tryz.prog E50 K50.dfr := fun f hf => by
  obtain rfl := Nat.eq_of_beq_eq_true hf
  exact ⟨_, _, _, _, _, _, _, _, _, _, _, _, _, _, _, Tryz.func99, rfl, by kernel_rfl, fun b4 b5 H => recRet Tryz.func136 rfl rfl rfl Tryz.underlying20⟩
theorem calls50 (fuel n : Nat) : CallsOk Tryz.prog E50 (callE K50 fuel n) := ev_sound (C := ⟨Tryz.prog, E50, false⟩) rfl rfl (by kernel_rfl) dfr50 hook50_ok fuel n
def zc62 : List Value := [.string .empty, .bool false, .slice none 0 0, .slice none 0 0, .slice none 0 0, .slice none 0 0, .slice none 0 0, .int .i64 0, .int .i64 0, .slice none 0 0, .int .i64 0, .slice none 0 0, .slice none 0 0, .bool false, .string .empty, .int .i64 0, .string .empty, .bool false, .int .i64 0, .int .i64 0, .slice none 0 0, .slice none 0 0, .slice none 0 0, .slice none 0 0, .slice none 0 0, .bool false, .slice none 0 0, .slice none 0 0, .slice none 0 0, .string .empty]
theorem zc62_one : ∀ x ∈ zc62, x.oneCell' = true := by decide
def lng0 : Lng where
  o := fun k => .v (zc62.getD k (.int .i64 0))
  ho := fun k => by
    show (zc62.getD k (.int .i64 0)).oneCell' = true
    rw [List.getD_eq_getElem?_getD]
    cases h : zc62[k]? with
    | none => rfl
    | some x => exact zc62_one x (List.mem_of_getElem? h)
  rtl := false
  alph := [⟨97, 1⟩, ⟨116, 2⟩]
  ons := [[2]]
  ml := 2
  mr := 2
  san := []
  stop := ⟨#[46]⟩
def encG0 : List DV := (encG lng0).set 9 (.v (.slice none 0 0))
set_option maxRecDepth 100000 in
theorem ev35 : evF K50 1000 20 35 [] 12 = some (.agg encG0) := by kernel_rfl
theorem c35 : GCall Tryz.prog E50 35 [] [] (fun d H => d = .agg (encG lng0) ∧ H = []) :=
  GCall.clean (ev_top (m2 := 1) calls50 rfl ev35) (fun d H ⟨e, _⟩ => ⟨.agg (encG lng0), fun w F v hv => by rw [e] at hv; exact rep_aggNil (sz := 6) 9 hv rfl, rfl⟩)
end Go.GH
namespace Go.GH
open Go Go.Lib Go.Proofs Go.RowKit
def txt0 : ByteArray := ⟨#[116,97,116,97,32,116,97,46,32,97,116,97,116,97,46]⟩
def pg0 : List ByteArray := [⟨#[116,97,116,97,32]⟩, ⟨#[116,97,46,32,32]⟩, ⟨#[97,116,97,45,32]⟩, ⟨#[116,97,46,32,32]⟩]
set_option maxRecDepth 100000 in
theorem ev64 : evF K50 1000 20 64 [.agg (encG lng0)] 12 = some (.v (.bool true)) := by kernel_rfl
def snt0 : List ByteArray := [⟨#[116,97,116,97,32,116,97,46]⟩, ⟨#[97,116,97,116,97,46]⟩]
set_option maxRecDepth 100000 in
theorem ev65 : evF K50 1000 20 65 [.agg (encG lng0), .v (.string txt0)] 12 = some (.tup [DStrs snt0, .v (.int .i64 0)]) := by kernel_rfl
set_option maxRecDepth 100000 in
theorem ev26 : evF K50 1000 20 26 [.agg (encG lng0), .v (.string txt0), .v (.int .i64 5), .v (.int .i64 10)] 12 = some (.tup [DStrs pg0, .v (.int .i64 0)]) := by kernel_rfl
theorem c64 : GCall Tryz.prog E50 64 [.agg (encG lng0)] [] (fun d H => d = .v (.bool true) ∧ H = []) := ev_top (m2 := 8) calls50 (by decide) ev64
theorem c65 : GCall Tryz.prog E50 65 [.agg (encG lng0), .v (.string txt0)] [] (fun d H => d = .tup [DStrs snt0, .v (.int .i64 0)] ∧ H = []) := ev_top (m2 := 8) calls50 (by decide) ev65
theorem c26 : GCall Tryz.prog E50 26 [.agg (encG lng0), .v (.string txt0), .v (.int .i64 5), .v (.int .i64 10)] [] (fun d H => d = .tup [DStrs pg0, .v (.int .i64 0)] ∧ H = []) := ev_top (m2 := 8) calls50 (by decide) ev26
theorem plain0 : plainR true 0 (fun w => fldR w) pg0 = (txt0, 0) := by kernel_rfl
set_option maxRecDepth 100000 in
theorem ev28 : pg0.all (fun w => match evF K50 1000 20 28 [.v (.int .i64 0), .v (.string w)] 12 with | some (.v (.string s)) => isS s w | _ => false) = true := by kernel_rfl
theorem c28 {w : ByteArray} (hw : w ∈ pg0) : GCall Tryz.prog E50 28 [.v (.int .i64 0), .v (.string w)] [] (fun d H => d = .v (.string w) ∧ H = []) := by
  have h := List.all_eq_true.1 ev28 w hw
  split at h
  · rename_i s e
    rw [isS_eq h] at e
    exact ev_top (m2 := 2) calls50 rfl e
  · cases h
end Go.GH
namespace Go.GH
open Go Go.Lib Go.Proofs Go.RowKit
abbrev fl0 : ByteArray → List ByteArray := fun w => fldR w
theorem xs0_small : (wrdA fl0 pg0).all (fun x => Nat.ble x.1.size 100) = true := by kernel_rfl
theorem xs0_few : Nat.beq (wrdA fl0 pg0).length 4 = true := by kernel_rfl
theorem pg0_small : pg0.all (fun w => Nat.ble w.size 100) = true := by kernel_rfl
theorem txt0_eq : catW (plR (wrdA fl0 pg0) (wrdA fl0 pg0).length).1 = txt0 := by kernel_rfl
theorem c30 : GCall Tryz.prog E50 30 [.agg (encG lng0), DStrs pg0] [] (fun d H => d = .tup [.v (.string txt0), .v (.int .i64 0)] ∧ H = []) := by
  have hl := Nat.eq_of_beq_eq_true xs0_few
  have hs : ∀ w ∈ pg0, w.size ≤ 100 := fun w hw => Nat.le_of_ble_eq_true (List.all_eq_true.1 pg0_small w hw)
  have h := cPlain (E := E50) vs50 lng0 pg0 (fun w => w) fl0 true 0 100 (fun x hx => Nat.le_of_ble_eq_true (List.all_eq_true.1 xs0_small x hx)) (by omega) (by omega) (fun w hw => c28 hw) (fun w hw => sFields _ (by have := hs w hw; omega)) c64 (by rw [txt0_eq]; exact c65.mono (fun d H h => ⟨⟨_, h.1⟩, h.2⟩))
  rw [plain0] at h
  exact h
def sp0 : ByteArray := ⟨#[97,97,32,32,32,98,32,32,99,99]⟩
set_option maxRecDepth 100000 in
theorem ev13 : evF K50 1000 20 13 [.agg [DStrs [⟨#[97,97]⟩, ⟨#[98]⟩, ⟨#[99,99]⟩], .v (.bool false)], .v (.int .i64 10), .v (.bool false)] 12 = some (.tup [.v (.string sp0), .v (.int .i64 0)]) := by kernel_rfl
theorem c13 : GCall Tryz.prog E50 13 [.agg [DStrs [⟨#[97,97]⟩, ⟨#[98]⟩, ⟨#[99,99]⟩], .v (.bool false)], .v (.int .i64 10), .v (.bool false)] [] (fun d H => d = .tup [.v (.string sp0), .v (.int .i64 0)] ∧ H = []) := ev_top (m2 := 8) calls50 (by decide) ev13
set_option maxRecDepth 100000 in
theorem ev22 : evF K50 1000 20 22 [DStrs pg0, DStrs pg0] 12 = some (.v (.bool true)) := by kernel_rfl
theorem c22 : GCall Tryz.prog E50 22 [DStrs pg0, DStrs pg0] [] (fun d H => d = .v (.bool true) ∧ H = []) := ev_top (m2 := 8) calls50 (by decide) ev22
theorem sheets0 : Nat.beq (sheetsR [⟨#[97]⟩, ⟨#[98]⟩, ⟨#[99]⟩] 2).1.length 2 = true := by kernel_rfl
end Go.GH
namespace Go.GH
open Go Go.Proofs
variable {E : Env}
theorem placesB_24 : placesB Tryz.prog 24 [(0, 1), (1, 1)] = true := by kernel_rfl
theorem aAwake   : GCall Tryz.prog E50 12 [] [] (fun d H => d = .v (.bool true) ∧ H = []) := by
 refine GCall.body (C := ⟨Tryz.prog, E50, true⟩) Tryz.func12 rfl (fun _ => rfl) (by kernel_rfl) rfl ?_
 refine SCode.seqR (SOps.assign rfl (SOps.nil (SCode.seqR (SOps.litF rfl sliceB_22_9_1 zeroIs_9 rfl (SOps.buildM placesB_24 zeroIs_24 rfl rfl (SOps.callP c13 rfl ?_))))))
 rintro _ rfl
 refine SOps.move rfl (SOps.extract rfl rfl (SOps.extract rfl rfl (SOps.assign rfl (SOps.assign rfl (SOps.nil (SCode.seqR (SOps.callP c35 rfl ?_)))))))
 rintro _ rfl
 refine SOps.callP c26 rfl ?_
 rintro _ rfl
 refine SOps.move rfl (SOps.extract rfl rfl (SOps.extract rfl rfl (SOps.assign rfl (SOps.assign rfl (SOps.nil (SCode.seqR (SOps.callP c35 rfl ?_)))))))
 rintro _ rfl
 refine SOps.move rfl (SOps.callP c30 rfl ?_)
 rintro _ rfl
 refine SOps.move rfl (SOps.extract rfl rfl (SOps.extract rfl rfl (SOps.assign rfl (SOps.assign rfl (SOps.nil (SCode.seqR (SOps.litF rfl sliceB_22_9_1 zeroIs_9 rfl (SOps.callP (cSheets [⟨#[97]⟩, ⟨#[98]⟩, ⟨#[99]⟩] 2 (by decide)) rfl ?_))))))))
 rintro _ rfl
 refine SOps.move rfl (SOps.extract rfl rfl (SOps.extract rfl rfl (SOps.assign rfl (SOps.assign rfl (SOps.nil (SCode.seqR (SOps.move rfl (SOps.bin rfl rfl rfl (SOps.reSlot (t := 32) (d' := .v (.bool true)) rfl (by first | rfl | (congr 2; kernel_rfl)) (SOps.move rfl (SOps.move rfl (SOps.bin rfl rfl rfl (SOps.reSlot (t := 35) (d' := .v (.bool true)) rfl (by first | rfl | (congr 2; kernel_rfl)) (SOps.pick rfl rfl (SOps.move rfl (SOps.move rfl (SOps.litF rfl sliceB_22_9_1 zeroIs_9 rfl (SOps.callP c22 rfl ?_))))))))))))))))))
 rintro _ rfl
 refine SOps.pick rfl rfl (SOps.move rfl (SOps.move rfl (SOps.bin rfl rfl rfl (SOps.reSlot (t := 44) (d' := .v (.bool true)) rfl (by first | rfl | (congr 2; kernel_rfl)) (SOps.pick rfl rfl (SOps.move rfl (SOps.move rfl (SOps.bin rfl rfl rfl (SOps.reSlot (t := 48) (d' := .v (.bool true)) rfl (by first | rfl | (congr 2; kernel_rfl)) (SOps.pick rfl rfl (SOps.move rfl (SOps.move rfl (SOps.bin rfl rfl rfl (SOps.reSlot (t := 52) (d' := .v (.bool true)) rfl (by first | rfl | (congr 2; kernel_rfl)) (SOps.pick rfl rfl (SOps.move rfl (SOps.move rfl (SOps.lenM rfl sliceB_73_22_1 (SOps.bin rfl rfl rfl (SOps.reSlot (t := 57) (d' := .v (.bool true)) rfl (congrArg (fun n : Nat => DV.v (.bool (decide (((n : Nat) : Int) = 2)))) (Nat.eq_of_beq_eq_true sheets0)) (SOps.pick rfl rfl (SOps.move rfl (SOps.move rfl (SOps.bin rfl rfl rfl (SOps.reSlot (t := 61) (d' := .v (.bool true)) rfl (by first | rfl | (congr 2; kernel_rfl)) (SOps.pick rfl rfl (SOps.assign rfl (SOps.nil (SCode.ret ?_)))))))))))))))))))))))))))))
 exact ⟨_, Res.one (.tmp rfl), rfl, rfl⟩
end Go.GH
namespace Go.GH
open Go Go.Proofs
variable {E : Env}
theorem l50Optimum (l : List Bx) (w pen : Int) (hbx : ∀ x ∈ l, x.word.size ≤ 1048576) : GCall Tryz.prog E50 6 [DBxs l, .v (.int .i64 w), .v (.int .i64 pen)] [] (fun d H => d = .v (.bool true) ∧ H = []) := by
 have hpt := ptN_eq l
 refine GCall.body (C := ⟨Tryz.prog, E50, true⟩) Tryz.func6 rfl (fun _ => rfl) (by kernel_rfl) rfl ?_
 refine SCode.seqR (SOps.assign rfl (SOps.nil (SCode.seq (SCode.seqR (SOps.callP aAwake rfl ?_)))))
 rintro _ rfl
 refine SOps.un rfl rfl (SOps.nil ?_)
 refine SCode.cond rfl (fun h => by cases h) (fun _ => ?_)
 refine SCode.skip ?_
 show SCode _ _ _ _
 refine SCode.seq (SCode.seqR (SOps.move rfl (SOps.lenM rfl sliceB_33_111_2 (SOps.bin rfl rfl rfl (SOps.move rfl ?_)))))
 refine SOps.caseB 16 rfl (fun hb1 => ?_) (fun hb1 => ?_)
 ·try simp only [nmL] at hb1
  refine SOps.skip rfl (SOps.skip rfl (SOps.skip rfl (SOps.skip rfl (SOps.skip rfl (SOps.skip rfl (SOps.skip rfl (SOps.skip rfl (SOps.pick rfl rfl (SOps.nil ?_)))))))))
  refine SCode.cond rfl (fun _ => ?_) (fun h => by cases h)
  refine SCode.seqR (SOps.assign rfl (SOps.nil (SCode.ret ?_)))
  exact ⟨_, Res.one (.tmp rfl), rfl, rfl⟩
 ·try simp only [nmL] at hb1
  refine SOps.move rfl (SOps.callP (qBoxes l hbx) rfl ?_)
  rintro _ rfl
  refine SOps.move rfl ?_
  refine SOps.caseB 19 rfl (fun hb2 => ?_) (fun hb2 => ?_)
  ·try simp only [nmL] at hb2
   have hbo : boxesB l = true := by assumption
   refine SOps.move rfl (SOps.callP (qPoints l (fun b h => by have := (bnds_of hbo).pts b h; omega) (by omega)) rfl ?_)
   rintro _ rfl
   refine SOps.lenM rfl sliceB_41_113_2 (SOps.bin rfl rfl rfl (SOps.pick rfl rfl (SOps.pick rfl rfl (SOps.nil ?_))))
   refine SCode.cond rfl (fun hc3 => ?_) (fun hc3 => ?_)
   ·try simp only [nmL] at hc3
    refine SCode.seqR (SOps.assign rfl (SOps.nil (SCode.ret ?_)))
    exact ⟨_, Res.one (.tmp rfl), rfl, rfl⟩
   ·try simp only [nmL] at hc3
    refine SCode.skip ?_
    show SCode _ _ _ _
    refine SCode.seqR ?_
    have h11 : boxesB l = true → ptN l ≤ 11 := by first | (intro hb9; omega) | (intro hb9; simp_all; done)
    refine SOps.move rfl (SOps.move rfl (SOps.move rfl (SOps.callP (jParagraph vs50 l w pen hbx) rfl ?_)))
    rintro _ rfl
    refine SOps.move rfl (SOps.extract rfl rfl (SOps.extract rfl rfl (SOps.assign rfl (SOps.assign rfl (SOps.nil (SCode.seqR (SOps.move rfl (SOps.move rfl (SOps.move rfl (SOps.callP (qParagraph l w pen hbx h11) rfl ?_))))))))))
    rintro _ rfl
    refine SOps.move rfl (SOps.extract rfl rfl (SOps.extract rfl rfl (SOps.assign rfl (SOps.assign rfl (SOps.nil (SCode.seqR (SOps.move rfl (SOps.move rfl (SOps.bin rfl rfl rfl (SOps.reSlot (t := 42) rfl (show _ = DV.v (.bool true) from congrArg (fun b => DV.v (.bool b)) (decide_eq_true rfl)) (SOps.move rfl (SOps.move rfl (SOps.move rfl (SOps.callP (q42Same _ _ (by show (sprs _ _ _).length ≤ _; rw [sprs_len]; have := linesR_small (l := l) (w := w) (pen := pen); omega)) rfl ?_))))))))))))))
    rintro _ rfl; refine SOps.reSlot (t := 46) (d' := .v (.bool true)) rfl (congrArg (fun b => DV.v (.bool b)) (decide_eq_true rfl)) ?_
    refine SOps.pick rfl rfl (SOps.assign rfl (SOps.nil (SCode.ret ?_)))
    exact ⟨_, Res.one (.tmp rfl), rfl, rfl⟩
  ·try simp only [nmL] at hb2
   refine SOps.skip rfl (SOps.skip rfl (SOps.skip rfl (SOps.skip rfl (SOps.pick rfl rfl (SOps.pick rfl rfl (SOps.nil ?_))))))
   refine SCode.cond rfl (fun h => by cases h) (fun _ => ?_)
   refine SCode.skip ?_
   show SCode _ _ _ _
   refine SCode.seqR ?_
   have h11 : boxesB l = true → ptN l ≤ 11 := by first | (intro hb9; omega) | (intro hb9; simp_all; done)
   refine SOps.move rfl (SOps.move rfl (SOps.move rfl (SOps.callP (jParagraph vs50 l w pen hbx) rfl ?_)))
   rintro _ rfl
   refine SOps.move rfl (SOps.extract rfl rfl (SOps.extract rfl rfl (SOps.assign rfl (SOps.assign rfl (SOps.nil (SCode.seqR (SOps.move rfl (SOps.move rfl (SOps.move rfl (SOps.callP (qParagraph l w pen hbx h11) rfl ?_))))))))))
   rintro _ rfl
   refine SOps.move rfl (SOps.extract rfl rfl (SOps.extract rfl rfl (SOps.assign rfl (SOps.assign rfl (SOps.nil (SCode.seqR (SOps.move rfl (SOps.move rfl (SOps.bin rfl rfl rfl (SOps.reSlot (t := 42) rfl (show _ = DV.v (.bool true) from congrArg (fun b => DV.v (.bool b)) (decide_eq_true rfl)) (SOps.move rfl (SOps.move rfl (SOps.move rfl (SOps.callP (q42Same _ _ (by show (sprs _ _ _).length ≤ _; rw [sprs_len]; have := linesR_small (l := l) (w := w) (pen := pen); omega)) rfl ?_))))))))))))))
   rintro _ rfl; refine SOps.reSlot (t := 46) (d' := .v (.bool true)) rfl (congrArg (fun b => DV.v (.bool b)) (decide_eq_true rfl)) ?_
   refine SOps.pick rfl rfl (SOps.assign rfl (SOps.nil (SCode.ret ?_)))
   exact ⟨_, Res.one (.tmp rfl), rfl, rfl⟩
end Go.GH
