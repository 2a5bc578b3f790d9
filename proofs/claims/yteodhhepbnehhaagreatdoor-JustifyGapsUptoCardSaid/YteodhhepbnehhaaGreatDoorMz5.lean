/-
  Part 5 of the texts behind the walks of this claim: an own layer over the kit's wp, plain laws, and walks. No conditions.
-/
import Derived.Test.YteodhhepbnehhaaGreatDoorMz4
set_option linter.unusedVariables false
set_option linter.unusedSimpArgs false
set_option linter.deprecated false
namespace Go.GH
open Go Go.Proofs
variable {E : Env}
theorem isl_in {w : World} {F : Nat → Prop} {v : Value} {nn : Bool} {sz : Nat} {es : List (List DV)} (h : Rep w F v (.isl nn sz es)) : es.length ≤ lenB := by
  cases h with
  | isl xs hlen hcap hB hnn hA hsz hc hr => exact hB
theorem pin_len {st : St} {C : Ctx} {t : Tmp} {ln : Ln} (hd : st.get t = some (.ipin (encLn ln))) : ∀ base a w F, SimF C.E base F st a w → ln.words.length ≤ lenB := fun base a w F hs => by
  have h := (hs.slots t _ hd).2
  generalize a.tmps.getD t undef = v at h
  cases h with
  | ipin xs hF hc hr =>
    have h2 := isl_in (hr 0 (DStrs ln.words) rfl)
    rwa [List.length_map] at h2
def pv (m g : Nat) (i : Nat) : Nat := if i = 0 then 0 else gp m g (i - 1)
def fi (m g : Nat) (i : Nat) : Nat := if i ≤ 1 then 0 else gp m g 1
theorem rst_size {m g : Nat} {ws : List ByteArray} (hm : m ≤ 200) (hw : ∀ w ∈ ws, w.size ≤ 1048576) : ∀ i, (rst m g ws i).size ≤ (1048576 + 202) * ws.length := by
  induction ws with
  | nil => intro i; exact Nat.zero_le _
  | cons w l ih =>
    intro i
    have h1 := ih (fun x hx => hw x (List.mem_cons_of_mem _ hx)) (i + 1)
    have h2 := hw w (List.mem_cons_self ..)
    have h3 : gp m g i ≤ 202 := by
      cases i with
      | zero => exact Nat.zero_le _
      | succ k => exact gapN_le hm
    rw [rst, ByteArray.size_append, ByteArray.size_append, blB_size, List.length_cons, Nat.mul_add]
    omega
theorem gap_down {m g i : Nat} (h : 1 < i) : gp m g i ≤ pv m g i := by
  obtain ⟨k, rfl⟩ : ∃ k, i = k + 2 := ⟨i - 2, by omega⟩
  show gapN m g (k + 1) ≤ pv m g (k + 2)
  unfold pv
  rw [if_neg (by omega)]
  exact gapN_mono.1
theorem gap_first {m g i : Nat} (h : 1 < i) : fi m g i ≤ gp m g i + 1 := by
  obtain ⟨k, rfl⟩ : ∃ k, i = k + 2 := ⟨i - 2, by omega⟩
  unfold fi
  rw [if_neg (by omega)]
  exact gapN_mono.2.1
theorem fi_next {m g i : Nat} (h : ¬ i = 1) : fi m g (i + 1) = fi m g i := by
  unfold fi
  by_cases h1 : i = 0
  · subst h1; rfl
  · rw [if_neg (by omega), if_neg (by omega)]
theorem l50Gaps (ln : Ln) (w : Int) (hw : ∀ s ∈ ln.words, s.size ≤ 1048576) : GCall Tryz.prog E50 4 [.agg (encLn ln), .v (.int .i64 w)] [] (fun d H => d = .v (.bool true) ∧ H = []) := by
 refine GCall.body (C := ⟨Tryz.prog, E50, true⟩) Tryz.func4 rfl (fun _ => rfl) (by kernel_rfl) rfl ?_
 refine SCode.seqR (SOps.boxAM rfl rfl (SOps.assign rfl (SOps.nil (SCode.seq (SCode.seqR (SOps.callP aAwake rfl ?_))))))
 rintro _ rfl
 refine SOps.un rfl rfl (SOps.nil ?_)
 refine SCode.cond rfl (fun h => by cases h) (fun _ => ?_)
 refine SCode.skip ?_
 show SCode _ _ _ _
 refine SCode.seq (SCode.seqR ?_)
 refine SOps.fact (pin_len (t := 2) (ln := ln) rfl) (fun hB => ?_)
 simp only [lenB] at hB
 refine SOps.fieldPin rfl fieldB_24_0_0 (SOps.loadPin rfl flatB_22 (SOps.lenM rfl sliceB_22_9_1 (SOps.bin rfl rfl rfl (SOps.move rfl ?_))))
 refine SOps.caseB 18 rfl (fun hb1 => ?_) (fun hb1 => ?_)
 ·try simp only [nmL] at hb1
  refine SOps.skip rfl (SOps.skip rfl (SOps.skip rfl (SOps.skip rfl (SOps.pick rfl rfl (SOps.move rfl (SOps.skip rfl (SOps.skip rfl (SOps.skip rfl (SOps.pick rfl rfl (SOps.nil ?_))))))))))
  refine SCode.cond rfl (fun _ => ?_) (fun h => by cases h)
  refine SCode.seqR (SOps.assign rfl (SOps.nil (SCode.ret ?_)))
  exact ⟨_, Res.one (.tmp rfl), rfl, rfl⟩
 ·try simp only [nmL] at hb1
  refine SOps.fieldPin rfl fieldB_24_0_0 (SOps.loadPin rfl flatB_22 (SOps.lenM rfl sliceB_22_9_1 (SOps.bin rfl rfl rfl (SOps.pick rfl rfl (SOps.move rfl ?_)))))
  refine SOps.caseB 24 rfl (fun hb2 => ?_) (fun hb2 => ?_)
  ·try simp only [nmL] at hb2
   refine SOps.skip rfl (SOps.skip rfl (SOps.skip rfl (SOps.pick rfl rfl (SOps.nil ?_))))
   refine SCode.cond rfl (fun _ => ?_) (fun h => by cases h)
   refine SCode.seqR (SOps.assign rfl (SOps.nil (SCode.ret ?_)))
   exact ⟨_, Res.one (.tmp rfl), rfl, rfl⟩
  ·try simp only [nmL] at hb2
   refine SOps.loadPinA rfl aggB_24_2 (Nat.le_of_ble_eq_true rfl) (SOps.callP (q50Printable ln hw (by omega)) rfl ?_)
   rintro _ rfl
   refine SOps.un rfl rfl (SOps.pick rfl rfl (SOps.nil ?_))
   refine SCode.cond rfl (fun hc3 => ?_) (fun hc3 => ?_)
   ·try simp only [nmL] at hc3
    refine SCode.seqR (SOps.assign rfl (SOps.nil (SCode.ret ?_)))
    exact ⟨_, Res.one (.tmp rfl), rfl, rfl⟩
   ·try simp only [nmL] at hc3
    refine SCode.skip ?_
    show SCode _ _ _ _
    refine SCode.seqR ?_
    have hpr : prB ln = true := by simp_all
    have hl : ln.words.length ≤ 1048576 := by omega
    have hl2 : 2 ≤ ln.words.length := by omega
    refine SOps.loadPinA rfl aggB_24_2 (Nat.le_of_ble_eq_true rfl) (SOps.move rfl (SOps.callP (jSpread vs50 ln w false hw hl) rfl ?_))
    rintro _ rfl
    refine SOps.move rfl (SOps.extract rfl rfl (SOps.extract rfl rfl (SOps.assign rfl (SOps.assign rfl (SOps.nil (SCode.seq (SCode.seqR (SOps.move rfl (SOps.bin rfl rfl rfl (SOps.nil ?_))))))))))
    refine SCode.cond rfl (fun hc4 => ?_) (fun hc4 => ?_)
    ·try simp only [nmL] at hc4
     refine SCode.seqR ?_
     have hse := spread_err (ln := ln) (w := w) (last := false) (by simp_all)
     refine SOps.move rfl (SOps.bin rfl rfl rfl (SOps.reSlot (t := 38) rfl (show _ = DV.v (.bool true) from congrArg (fun b => DV.v (.bool b)) (by rw [hse]; rfl)) (SOps.assign rfl (SOps.nil (SCode.ret ?_)))))
     exact ⟨_, Res.one (.tmp rfl), rfl, rfl⟩
    ·try simp only [nmL] at hc4
     refine SCode.skip ?_
     show SCode _ _ _ _
     refine SCode.seq (SCode.seqR ?_)
     obtain ⟨hwd, -, hfit⟩ := spread_zero (ln := ln) (w := w) (last := false) (by simp_all)
     have hsp := (spread_ok (last := false) hwd hpr hfit).2
     have hw12 := wideX_iff.1 hwd
     obtain ⟨m, hm⟩ : ∃ m : Nat, w - (wlen (textL ln) : Int) = (m : Int) := ⟨(w - (wlen (textL ln) : Int)).toNat, by omega⟩
     have hgood : (wideB w && prB ln) = true := by rw [hwd, hpr]; rfl
     have hsl := spread_gaps hgood hm (last := false) rfl (by omega)
     obtain ⟨g, hg⟩ : ∃ g, ln.words.length = g + 1 := ⟨ln.words.length - 1, by omega⟩
     have hK := sprK_rst (m := m) hg
     have hg1 : ln.words.length - 1 = g := by omega
     have hwds := (prB_iff.1 hpr).2
     have hr0 := rst_size (g := g) (show m ≤ 200 by omega) hw 0
     refine SOps.move rfl (SOps.callP (q50Length _) rfl ?_)
     rintro _ rfl
     refine SOps.move rfl (SOps.bin rfl rfl rfl (SOps.reSlot (t := 42) rfl (show _ = DV.v (.bool false) from congrArg (fun b => DV.v (.bool b)) (by rw [show ((runes (spreadR ln w false).1).length : Int) = w from hsp]; exact bne_self_eq_false _)) (SOps.nil ?_)))
     refine SCode.cond rfl (fun h => by cases h) (fun _ => ?_)
     refine SCode.skip ?_
     show SCode _ _ _ _
     refine SCode.seqJ (fun (_ : Nat) => (⟨141, [(1, .v (.int .i64 w)), (2, .ipin (encLn ln)), (5, .v (.string (rst m g (ln.words.drop 0) 0)))], []⟩ : St)) ?_ ?_
     ·refine SCode.seqR (SOps.fieldPin rfl fieldB_24_1_1 (SOps.loadPin rfl flatB_4 (SOps.nil ?_)))
      refine SCode.cond rfl (fun hc5 => ?_) (fun hc5 => ?_)
      ·try simp only [nmL] at hc5
       refine SCode.seq (SCode.seqR ?_)
       have hyp := @hy_last (rst m g (ln.words.drop 0) 0)
       refine SOps.reSlot (t := 5) (d' := .v (.string ((rst m g (ln.words.drop 0) 0) ++ hy1))) rfl (by congr 2; rw [hsl]; show sprL ln m = _; unfold sprL; rw [if_pos (by assumption), hg1, hK]; rfl) ?_
       have hyp0 : (rst m g (ln.words.drop 0) 0).size ≤ (1048576 + 202) * ln.words.length := hr0
       refine SOps.move rfl (SOps.move rfl (SOps.lenStr rfl strB_9 (SOps.subI rfl rfl (by first | omega | (simp only [lenB]; omega) | (simp only [List.length_map, lenB]; omega) | (simp; done)) (by first | omega | (simp only [lenB]; omega) | (simp only [List.length_map, lenB]; omega) | (simp; done)) (SOps.strIndexM ((rst m g (ln.words.drop 0) 0).size) rfl rfl strB_9 (by first | omega | (simp only [lenB]; omega) | (simp only [List.length_map, lenB]; omega) | (simp; done)) (by first | omega | (simp only [lenB]; omega) | (simp only [List.length_map, lenB]; omega) | (simp; done)) (SOps.bin rfl rfl rfl (SOps.reSlot (t := 50) rfl (show _ = DV.v (.bool false) from congrArg (fun b => DV.v (.bool b)) (by rw [hyp.2.1]; rfl)) (SOps.nil ?_)))))))
       refine SCode.cond rfl (fun h => by cases h) (fun _ => ?_)
       refine SCode.skip ?_
       show SCode _ _ _ _
       refine SCode.region (SOps.move rfl (SOps.move rfl (SOps.lenStr rfl strB_9 (SOps.subI rfl rfl (by first | omega | (simp only [lenB]; omega) | (simp only [List.length_map, lenB]; omega) | (simp; done)) (by first | omega | (simp only [lenB]; omega) | (simp only [List.length_map, lenB]; omega) | (simp; done)) (SOps.sliceStr (0) ((rst m g (ln.words.drop 0) 0).size) strB_9 rfl .none (.at ((rst m g (ln.words.drop 0) 0).size) rfl (by first | omega | (simp only [lenB]; omega) | (simp only [List.length_map, lenB]; omega) | (simp; done))) (by first | omega | (simp only [lenB]; omega) | (simp only [List.length_map, lenB]; omega) | (simp; done)) (by first | omega | (simp only [lenB]; omega) | (simp only [List.length_map, lenB]; omega) | (simp; done)) (SOps.assign rfl (SOps.nil ?_)))))))
       first
        | exact ⟨0, St.Le.of ⟨rfl, rfl, (by show some _ = some _; rw [hyp.2.2]), trivial⟩⟩
        | exact ⟨0, St.Le.of ⟨rfl, rfl, (by rw [hsl]; show some (DV.v (.string (sprL ln m))) = _; unfold sprL; rw [if_neg (by simp_all), hg1, hK]; rfl), trivial⟩⟩
      ·try simp only [nmL] at hc5
       refine SCode.skip ?_
       first
        | exact ⟨0, St.Le.of ⟨rfl, rfl, (by show some _ = some _; rw [hyp.2.2]), trivial⟩⟩
        | exact ⟨0, St.Le.of ⟨rfl, rfl, (by rw [hsl]; show some (DV.v (.string (sprL ln m))) = _; unfold sprL; rw [if_neg (by simp_all), hg1, hK]; rfl), trivial⟩⟩
     ·intro _
      refine SCode.seqR (SOps.assign rfl (SOps.assign rfl (SOps.nil (SCode.seq (SCode.seqR (SOps.assign rfl (SOps.nil (SCode.block (SCode.loop1 (fun (i : Nat) => (⟨141, [(1, .v (.int .i64 w)), (2, .ipin (encLn ln)), (5, .v (.string (rst m g (ln.words.drop i) i))), (7, .v (.int .i64 (((pv m g i) : Nat) : Int))), (8, .v (.int .i64 (((fi m g i) : Nat) : Int))), (9, .v (.int .i64 (i : Int)))], []⟩ : St)) (fun (i : Nat) => i ≤ ln.words.length) (fun (i : Nat) => ln.words.length - i) (0) (by exact Nat.zero_le _) (St.Le.of ⟨(by first | rfl | (show some _ = some _; simp)), (by first | rfl | (show some _ = some _; simp)), (by first | rfl | (show some _ = some _; simp)), (by first | rfl | (show some _ = some _; simp)), (by first | rfl | (show some _ = some _; simp)), (by first | rfl | (show some _ = some _; simp)), trivial⟩ rfl (by first | rfl | (simp))) ?_)))))))))
      rintro i hi
      refine SCode.seq (SCode.seqR (SOps.move rfl (SOps.fieldPin rfl fieldB_24_0_0 (SOps.loadPin rfl flatB_22 (SOps.lenM rfl sliceB_22_9_1 (SOps.bin rfl rfl rfl (SOps.nil ?_)))))))
      refine SCode.cond rfl (fun hc6 => ?_) (fun hc6 => ?_)
      ·try simp only [nmL] at hc6
       refine SCode.skip ?_
       show SCode _ _ _ _
       refine SCode.seq (SCode.block (SCode.seqR ?_))
       have hil : i < ln.words.length := by omega
       have hP := prt_of (rst_at (m := m) (g := g) hil) (hwds _ (List.getElem_mem hil))
       have hPs := hP.size
       have hPp := hP.pos
       have hrs := rst_size (g := g) (show m ≤ 200 by omega) (fun s hs => hw s (List.mem_of_mem_drop (i := i) hs)) i
       rw [List.length_drop] at hrs
       have hgp : gp m g i ≤ 202 := by cases i with | zero => exact Nat.zero_le _ | succ k => exact gapN_le (by omega)
       have hwi := hw _ (List.getElem_mem hil)
       have hpvi : pv m g i ≤ 202 := by unfold pv; split; exact Nat.zero_le _; cases hq : i - 1 with | zero => exact Nat.zero_le _ | succ k => exact gapN_le (by omega)
       have hfii : fi m g i ≤ 202 := by unfold fi; split; exact Nat.zero_le _; exact gapN_le (by omega)
       refine SOps.assign rfl (SOps.nil (SCode.seq (SCode.block (SCode.loop1 (fun (j : Nat) => (⟨141, [(1, .v (.int .i64 w)), (2, .ipin (encLn ln)), (5, .v (.string (rst m g (ln.words.drop i) i))), (7, .v (.int .i64 (((pv m g i) : Nat) : Int))), (8, .v (.int .i64 (((fi m g i) : Nat) : Int))), (9, .v (.int .i64 (i : Int))), (10, .v (.int .i64 (j : Int)))], []⟩ : St)) (fun (j : Nat) => j ≤ gp m g i) (fun (j : Nat) => (rst m g (ln.words.drop i) i).size - j) (0) (by exact Nat.zero_le _) (St.Le.of ⟨(by first | rfl | (show some _ = some _; simp)), (by first | rfl | (show some _ = some _; simp)), (by first | rfl | (show some _ = some _; simp)), (by first | rfl | (show some _ = some _; simp)), (by first | rfl | (show some _ = some _; simp)), (by first | rfl | (show some _ = some _; simp)), (by first | rfl | (show some _ = some _; simp)), trivial⟩ rfl (by first | rfl | (simp))) ?_))))
       rintro j hj
       refine SCode.seq (SCode.seqR (SOps.move rfl (SOps.move rfl (SOps.lenStr rfl strB_9 (SOps.bin rfl rfl rfl (SOps.move rfl ?_))))))
       refine SOps.caseB 67 rfl (fun hb7 => ?_) (fun hb7 => ?_)
       ·try simp only [nmL] at hb7
        refine SOps.move rfl (SOps.move rfl (SOps.strIndexM (j) rfl rfl strB_9 (by first | omega | (simp only [lenB]; omega) | (simp only [List.length_map, lenB]; omega) | (simp; done)) (by first | omega | (simp only [lenB]; omega) | (simp only [List.length_map, lenB]; omega) | (simp; done)) (SOps.bin rfl rfl rfl (SOps.pick rfl rfl (SOps.nil ?_)))))
        refine SCode.cond rfl (fun hc8 => ?_) (fun hc8 => ?_)
        ·try simp only [nmL] at hc8
         refine SCode.skip ?_
         show SCode _ _ _ _
         refine SCode.block (SCode.region ?_)
         have hjg : j < gp m g i := by rcases Nat.lt_or_ge j (gp m g i) with h | h; exact h; exfalso; obtain rfl : j = gp m g i := (by omega); exact hP.next (by omega) (by assumption)
         refine SOps.move rfl (SOps.addI rfl rfl (by first | omega | (simp only [lenB]; omega) | (simp only [List.length_map, lenB]; omega) | (simp; done)) (by first | omega | (simp only [lenB]; omega) | (simp only [List.length_map, lenB]; omega) | (simp; done)) (SOps.assign rfl (SOps.nil ?_)))
         exact ⟨j + 1, by omega, by omega, St.Le.of ⟨rfl, rfl, rfl, rfl, rfl, rfl, rfl, trivial⟩⟩
        ·try simp only [nmL] at hc8
         refine SCode.exit ?_
         show SCode _ _ _ _
         refine SCode.seqR ?_
         obtain rfl : j = gp m g i := by rcases Nat.lt_or_ge j (gp m g i) with h | h; exact absurd (hP.front j (by omega) h) (by assumption); omega
         refine SOps.fieldPin rfl fieldB_24_0_0 (SOps.loadPin rfl flatB_22 (SOps.move rfl (SOps.indexM (i) rfl rfl sliceB_22_9_1 (by first | omega | (simp only [lenB]; omega) | (simp only [List.length_map, lenB]; omega) | (simp; done)) (by first | omega | (simp only [lenB]; omega) | (simp only [List.length_map, lenB]; omega) | (simp; done)) (SOps.loadPin rfl flatB_9 (SOps.assign rfl (SOps.nil (SCode.seq (SCode.seqR (SOps.move rfl (SOps.bin rfl rfl rfl (SOps.move rfl ?_)))))))))))
         refine SOps.caseB 82 rfl (fun hb9 => ?_) (fun hb9 => ?_)
         ·try simp only [nmL] at hb9
          refine SOps.move rfl (SOps.bin rfl rfl rfl (SOps.reSlot (t := 84) rfl (show _ = DV.v (.bool false) from congrArg (fun b => DV.v (.bool b)) (by obtain rfl : i = 0 := (by omega); rfl)) (SOps.pick rfl rfl (SOps.move rfl (SOps.move rfl (SOps.bin rfl rfl rfl (SOps.move rfl ?_)))))))
          refine SOps.caseB 89 rfl (fun hb10 => ?_) (fun hb10 => ?_)
          ·try simp only [nmL] at hb10
           exfalso
           omega
          ·try simp only [nmL] at hb10
           refine SOps.skip rfl (SOps.skip rfl (SOps.pick rfl rfl (SOps.pick rfl rfl (SOps.move rfl (SOps.move rfl (SOps.bin rfl rfl rfl (SOps.move rfl ?_)))))))
           refine SOps.caseB 97 rfl (fun hb14 => ?_) (fun hb14 => ?_)
           ·try simp only [nmL] at hb14
            exfalso
            omega
           ·try simp only [nmL] at hb14
            refine SOps.skip rfl (SOps.skip rfl (SOps.skip rfl (SOps.skip rfl (SOps.skip rfl (SOps.skip rfl (SOps.skip rfl (SOps.skip rfl (SOps.skip rfl (SOps.pick rfl rfl (SOps.pick rfl rfl (SOps.move rfl (SOps.move rfl (SOps.lenStr rfl strB_9 (SOps.move rfl (SOps.subI rfl rfl (by first | omega | (simp only [lenB]; omega) | (simp only [List.length_map, lenB]; omega) | (simp; done)) (by first | omega | (simp only [lenB]; omega) | (simp only [List.length_map, lenB]; omega) | (simp; done)) (SOps.move rfl (SOps.lenStr rfl strB_9 (SOps.bin rfl rfl rfl (SOps.reSlot (t := 116) rfl (show _ = DV.v (.bool false) from congrArg (fun b => DV.v (.bool b)) (by exact decide_eq_false (by omega))) (SOps.pick rfl rfl (SOps.move rfl (SOps.move rfl (SOps.move rfl (SOps.move rfl (SOps.move rfl (SOps.lenStr rfl strB_9 (SOps.addI rfl rfl (by first | omega | (simp only [lenB]; omega) | (simp only [List.length_map, lenB]; omega) | (simp; done)) (by first | omega | (simp only [lenB]; omega) | (simp only [List.length_map, lenB]; omega) | (simp; done)) (SOps.sliceStr ((gp m g i)) (((gp m g i) + (ln.words[i]).size)) strB_9 rfl (.at ((gp m g i)) rfl (by first | omega | (simp only [lenB]; omega) | (simp only [List.length_map, lenB]; omega) | (simp; done))) (.at (((gp m g i) + (ln.words[i]).size)) rfl (by first | omega | (simp only [lenB]; omega) | (simp only [List.length_map, lenB]; omega) | (simp; done))) (by first | omega | (simp only [lenB]; omega) | (simp only [List.length_map, lenB]; omega) | (simp; done)) (by first | omega | (simp only [lenB]; omega) | (simp only [List.length_map, lenB]; omega) | (simp; done)) (SOps.move rfl (SOps.bin rfl rfl rfl (SOps.reSlot (t := 127) rfl (show _ = DV.v (.bool false) from congrArg (fun b => DV.v (.bool b)) (by rw [hP.word]; simp)) (SOps.pick rfl rfl (SOps.nil ?_)))))))))))))))))))))))))))))))))
            refine SCode.cond rfl (fun h => by cases h) (fun _ => ?_)
            refine SCode.skip ?_
            show SCode _ _ _ _
            refine SCode.seq (SCode.seqR (SOps.move rfl (SOps.bin rfl rfl rfl (SOps.nil ?_))))
            refine SCode.cond rfl (fun hc16 => ?_) (fun hc16 => ?_)
            ·try simp only [nmL] at hc16
             exfalso
             omega
            ·try simp only [nmL] at hc16
             refine SCode.skip ?_
             show SCode _ _ _ _
             apply SCode.drawAuto mixed_ [132, 133, 134, 135, 136, 137, 138, 7, 5] [[.inr 10], [.inr 5], [.inr 10], [.inr 11], [.inl 3], [.inl 2, .inl 4], [.inl 1, .inl 5], [.inl 0], [.inl 6]]
             ·kernel_rfl
             ·kernel_rfl
             ·apply DOk.cons 132 
              ·rfl
              ·exact (NeedIs.inr _ rfl NeedIs.nil)
              ·intro rest
               refine SOps.move rfl ?_
               exact SOps.nil rfl
              apply DOk.cons 133 
              ·rfl
              ·exact (NeedIs.inr _ rfl NeedIs.nil)
              ·intro rest
               refine SOps.move rfl ?_
               exact SOps.nil rfl
              apply DOk.cons 134 
              ·rfl
              ·exact (NeedIs.inr _ rfl NeedIs.nil)
              ·intro rest
               refine SOps.move rfl ?_
               exact SOps.nil rfl
              apply DOk.cons 135 
              ·rfl
              ·exact (NeedIs.inr _ rfl NeedIs.nil)
              ·intro rest
               refine SOps.move rfl ?_
               exact SOps.nil rfl
              apply DOk.cons 136 
              ·rfl
              ·exact (NeedIs.inl 0 _ _ rfl rfl NeedIs.nil)
              ·intro rest
               refine SOps.lenStr rfl strB_9 ?_
               exact SOps.nil rfl
              apply DOk.cons 137 
              ·rfl
              ·exact (NeedIs.inl 2 _ _ rfl rfl (NeedIs.inl 0 _ _ rfl rfl NeedIs.nil))
              ·intro rest
               refine SOps.addI rfl rfl (by first | omega | (simp only [lenB]; omega) | (simp only [List.length_map, lenB]; omega) | (simp; done)) (by first | omega | (simp only [lenB]; omega) | (simp only [List.length_map, lenB]; omega) | (simp; done)) ?_
               exact SOps.nil rfl
              apply DOk.cons 138 
              ·rfl
              ·exact (NeedIs.inl 4 _ _ rfl rfl (NeedIs.inl 0 _ _ rfl rfl NeedIs.nil))
              ·intro rest
               refine SOps.sliceStr (((gp m g i) + (ln.words[i]).size)) (_) strB_9 rfl (.at (((gp m g i) + (ln.words[i]).size)) rfl (by first | omega | (simp only [lenB]; omega) | (simp only [List.length_map, lenB]; omega) | (simp; done))) .none (by first | omega | (simp only [lenB]; omega) | (simp only [List.length_map, lenB]; omega) | (simp; done)) (by first | omega | (simp only [lenB]; omega) | (simp only [List.length_map, lenB]; omega) | (simp; done)) ?_
               exact SOps.nil rfl
              apply DOk.cons 7 
              ·rfl
              ·exact (NeedIs.inl 6 _ _ rfl rfl NeedIs.nil)
              ·intro rest
               refine SOps.assign rfl ?_
               exact SOps.nil rfl
              apply DOk.cons 5 
              ·rfl
              ·exact (NeedIs.inl 1 _ _ rfl rfl NeedIs.nil)
              ·intro rest
               refine SOps.assign rfl ?_
               exact SOps.nil rfl
              exact DOk.nil
             ·rfl
             ·show SCode _ _ _ _
              refine SCode.region (SOps.move rfl (SOps.addI rfl rfl (by first | omega | (simp only [lenB]; omega) | (simp only [List.length_map, lenB]; omega) | (simp; done)) (by first | omega | (simp only [lenB]; omega) | (simp only [List.length_map, lenB]; omega) | (simp; done)) (SOps.assign rfl (SOps.nil ?_))))
              exact ⟨i + 1, by omega, by omega, St.Le.of ⟨rfl, rfl, (by show some _ = some _; rw [hP.rest]), (by show some _ = some _; unfold pv; rfl), (by show some _ = some _; first | rfl | (rw [fi_next (by omega)]) | (obtain rfl : i = 1 := (by omega); rfl) | (obtain rfl : i = 0 := (by omega); rfl)), rfl, trivial⟩⟩
         ·try simp only [nmL] at hb9
          refine SOps.skip rfl (SOps.skip rfl (SOps.pick rfl rfl (SOps.move rfl (SOps.move rfl (SOps.bin rfl rfl rfl (SOps.move rfl ?_))))))
          refine SOps.caseB 89 rfl (fun hb17 => ?_) (fun hb17 => ?_)
          ·try simp only [nmL] at hb17
           refine SOps.move rfl (SOps.bin rfl rfl rfl (SOps.reSlot (t := 91) rfl (show _ = DV.v (.bool false) from congrArg (fun b => DV.v (.bool b)) (by have := gapN_mono (m := m) (g := g) (i := i - 1); exact decide_eq_false (by rw [show i = i - 1 + 1 by omega]; show ¬ ((gapN m g (i - 1) : Nat) : Int) < 1; omega))) (SOps.pick rfl rfl (SOps.pick rfl rfl (SOps.move rfl (SOps.move rfl (SOps.bin rfl rfl rfl (SOps.move rfl ?_))))))))
           refine SOps.caseB 97 rfl (fun hb18 => ?_) (fun hb18 => ?_)
           ·try simp only [nmL] at hb18
            refine SOps.move rfl (SOps.move rfl (SOps.bin rfl rfl rfl (SOps.reSlot (t := 100) rfl (show _ = DV.v (.bool false) from congrArg (fun b => DV.v (.bool b)) (by exact decide_eq_false (by have := gap_down (m := m) (g := g) (i := i) (by omega); omega))) (SOps.move rfl (SOps.move rfl (SOps.move rfl (SOps.subI rfl rfl (by first | omega | (simp only [lenB]; omega) | (simp only [List.length_map, lenB]; omega) | (simp; done)) (by first | omega | (simp only [lenB]; omega) | (simp only [List.length_map, lenB]; omega) | (simp; done)) (SOps.bin rfl rfl rfl (SOps.reSlot (t := 105) rfl (show _ = DV.v (.bool false) from congrArg (fun b => DV.v (.bool b)) (by exact decide_eq_false (by have := gap_first (m := m) (g := g) (i := i) (by omega); omega))) (SOps.pick rfl rfl (SOps.pick rfl rfl (SOps.pick rfl rfl (SOps.move rfl (SOps.move rfl (SOps.lenStr rfl strB_9 (SOps.move rfl (SOps.subI rfl rfl (by first | omega | (simp only [lenB]; omega) | (simp only [List.length_map, lenB]; omega) | (simp; done)) (by first | omega | (simp only [lenB]; omega) | (simp only [List.length_map, lenB]; omega) | (simp; done)) (SOps.move rfl (SOps.lenStr rfl strB_9 (SOps.bin rfl rfl rfl (SOps.reSlot (t := 116) rfl (show _ = DV.v (.bool false) from congrArg (fun b => DV.v (.bool b)) (by exact decide_eq_false (by omega))) (SOps.pick rfl rfl (SOps.move rfl (SOps.move rfl (SOps.move rfl (SOps.move rfl (SOps.move rfl (SOps.lenStr rfl strB_9 (SOps.addI rfl rfl (by first | omega | (simp only [lenB]; omega) | (simp only [List.length_map, lenB]; omega) | (simp; done)) (by first | omega | (simp only [lenB]; omega) | (simp only [List.length_map, lenB]; omega) | (simp; done)) (SOps.sliceStr ((gp m g i)) (((gp m g i) + (ln.words[i]).size)) strB_9 rfl (.at ((gp m g i)) rfl (by first | omega | (simp only [lenB]; omega) | (simp only [List.length_map, lenB]; omega) | (simp; done))) (.at (((gp m g i) + (ln.words[i]).size)) rfl (by first | omega | (simp only [lenB]; omega) | (simp only [List.length_map, lenB]; omega) | (simp; done))) (by first | omega | (simp only [lenB]; omega) | (simp only [List.length_map, lenB]; omega) | (simp; done)) (by first | omega | (simp only [lenB]; omega) | (simp only [List.length_map, lenB]; omega) | (simp; done)) (SOps.move rfl (SOps.bin rfl rfl rfl (SOps.reSlot (t := 127) rfl (show _ = DV.v (.bool false) from congrArg (fun b => DV.v (.bool b)) (by rw [hP.word]; simp)) (SOps.pick rfl rfl (SOps.nil ?_)))))))))))))))))))))))))))))))))))
            refine SCode.cond rfl (fun h => by cases h) (fun _ => ?_)
            refine SCode.skip ?_
            show SCode _ _ _ _
            refine SCode.seq (SCode.seqR (SOps.move rfl (SOps.bin rfl rfl rfl (SOps.nil ?_))))
            refine SCode.cond rfl (fun hc19 => ?_) (fun hc19 => ?_)
            ·try simp only [nmL] at hc19
             exfalso
             omega
            ·try simp only [nmL] at hc19
             refine SCode.skip ?_
             show SCode _ _ _ _
             apply SCode.drawAuto mixed_ [132, 133, 134, 135, 136, 137, 138, 7, 5] [[.inr 10], [.inr 5], [.inr 10], [.inr 11], [.inl 3], [.inl 2, .inl 4], [.inl 1, .inl 5], [.inl 0], [.inl 6]]
             ·kernel_rfl
             ·kernel_rfl
             ·apply DOk.cons 132 
              ·rfl
              ·exact (NeedIs.inr _ rfl NeedIs.nil)
              ·intro rest
               refine SOps.move rfl ?_
               exact SOps.nil rfl
              apply DOk.cons 133 
              ·rfl
              ·exact (NeedIs.inr _ rfl NeedIs.nil)
              ·intro rest
               refine SOps.move rfl ?_
               exact SOps.nil rfl
              apply DOk.cons 134 
              ·rfl
              ·exact (NeedIs.inr _ rfl NeedIs.nil)
              ·intro rest
               refine SOps.move rfl ?_
               exact SOps.nil rfl
              apply DOk.cons 135 
              ·rfl
              ·exact (NeedIs.inr _ rfl NeedIs.nil)
              ·intro rest
               refine SOps.move rfl ?_
               exact SOps.nil rfl
              apply DOk.cons 136 
              ·rfl
              ·exact (NeedIs.inl 0 _ _ rfl rfl NeedIs.nil)
              ·intro rest
               refine SOps.lenStr rfl strB_9 ?_
               exact SOps.nil rfl
              apply DOk.cons 137 
              ·rfl
              ·exact (NeedIs.inl 2 _ _ rfl rfl (NeedIs.inl 0 _ _ rfl rfl NeedIs.nil))
              ·intro rest
               refine SOps.addI rfl rfl (by first | omega | (simp only [lenB]; omega) | (simp only [List.length_map, lenB]; omega) | (simp; done)) (by first | omega | (simp only [lenB]; omega) | (simp only [List.length_map, lenB]; omega) | (simp; done)) ?_
               exact SOps.nil rfl
              apply DOk.cons 138 
              ·rfl
              ·exact (NeedIs.inl 4 _ _ rfl rfl (NeedIs.inl 0 _ _ rfl rfl NeedIs.nil))
              ·intro rest
               refine SOps.sliceStr (((gp m g i) + (ln.words[i]).size)) (_) strB_9 rfl (.at (((gp m g i) + (ln.words[i]).size)) rfl (by first | omega | (simp only [lenB]; omega) | (simp only [List.length_map, lenB]; omega) | (simp; done))) .none (by first | omega | (simp only [lenB]; omega) | (simp only [List.length_map, lenB]; omega) | (simp; done)) (by first | omega | (simp only [lenB]; omega) | (simp only [List.length_map, lenB]; omega) | (simp; done)) ?_
               exact SOps.nil rfl
              apply DOk.cons 7 
              ·rfl
              ·exact (NeedIs.inl 6 _ _ rfl rfl NeedIs.nil)
              ·intro rest
               refine SOps.assign rfl ?_
               exact SOps.nil rfl
              apply DOk.cons 5 
              ·rfl
              ·exact (NeedIs.inl 1 _ _ rfl rfl NeedIs.nil)
              ·intro rest
               refine SOps.assign rfl ?_
               exact SOps.nil rfl
              exact DOk.nil
             ·rfl
             ·show SCode _ _ _ _
              refine SCode.region (SOps.move rfl (SOps.addI rfl rfl (by first | omega | (simp only [lenB]; omega) | (simp only [List.length_map, lenB]; omega) | (simp; done)) (by first | omega | (simp only [lenB]; omega) | (simp only [List.length_map, lenB]; omega) | (simp; done)) (SOps.assign rfl (SOps.nil ?_))))
              exact ⟨i + 1, by omega, by omega, St.Le.of ⟨rfl, rfl, (by show some _ = some _; rw [hP.rest]), (by show some _ = some _; unfold pv; rfl), (by show some _ = some _; first | rfl | (rw [fi_next (by omega)]) | (obtain rfl : i = 1 := (by omega); rfl) | (obtain rfl : i = 0 := (by omega); rfl)), rfl, trivial⟩⟩
           ·try simp only [nmL] at hb18
            refine SOps.skip rfl (SOps.skip rfl (SOps.skip rfl (SOps.skip rfl (SOps.skip rfl (SOps.skip rfl (SOps.skip rfl (SOps.skip rfl (SOps.skip rfl (SOps.pick rfl rfl (SOps.pick rfl rfl (SOps.move rfl (SOps.move rfl (SOps.lenStr rfl strB_9 (SOps.move rfl (SOps.subI rfl rfl (by first | omega | (simp only [lenB]; omega) | (simp only [List.length_map, lenB]; omega) | (simp; done)) (by first | omega | (simp only [lenB]; omega) | (simp only [List.length_map, lenB]; omega) | (simp; done)) (SOps.move rfl (SOps.lenStr rfl strB_9 (SOps.bin rfl rfl rfl (SOps.reSlot (t := 116) rfl (show _ = DV.v (.bool false) from congrArg (fun b => DV.v (.bool b)) (by exact decide_eq_false (by omega))) (SOps.pick rfl rfl (SOps.move rfl (SOps.move rfl (SOps.move rfl (SOps.move rfl (SOps.move rfl (SOps.lenStr rfl strB_9 (SOps.addI rfl rfl (by first | omega | (simp only [lenB]; omega) | (simp only [List.length_map, lenB]; omega) | (simp; done)) (by first | omega | (simp only [lenB]; omega) | (simp only [List.length_map, lenB]; omega) | (simp; done)) (SOps.sliceStr ((gp m g i)) (((gp m g i) + (ln.words[i]).size)) strB_9 rfl (.at ((gp m g i)) rfl (by first | omega | (simp only [lenB]; omega) | (simp only [List.length_map, lenB]; omega) | (simp; done))) (.at (((gp m g i) + (ln.words[i]).size)) rfl (by first | omega | (simp only [lenB]; omega) | (simp only [List.length_map, lenB]; omega) | (simp; done))) (by first | omega | (simp only [lenB]; omega) | (simp only [List.length_map, lenB]; omega) | (simp; done)) (by first | omega | (simp only [lenB]; omega) | (simp only [List.length_map, lenB]; omega) | (simp; done)) (SOps.move rfl (SOps.bin rfl rfl rfl (SOps.reSlot (t := 127) rfl (show _ = DV.v (.bool false) from congrArg (fun b => DV.v (.bool b)) (by rw [hP.word]; simp)) (SOps.pick rfl rfl (SOps.nil ?_)))))))))))))))))))))))))))))))))
            refine SCode.cond rfl (fun h => by cases h) (fun _ => ?_)
            refine SCode.skip ?_
            show SCode _ _ _ _
            refine SCode.seq (SCode.seqR (SOps.move rfl (SOps.bin rfl rfl rfl (SOps.nil ?_))))
            refine SCode.cond rfl (fun hc20 => ?_) (fun hc20 => ?_)
            ·try simp only [nmL] at hc20
             refine SCode.region (SOps.move rfl (SOps.assign rfl (SOps.nil ?_)))
             show SCode _ _ _ _
             apply SCode.drawAuto mixed_ [132, 133, 134, 135, 136, 137, 138, 7, 5] [[.inr 10], [.inr 5], [.inr 10], [.inr 11], [.inl 3], [.inl 2, .inl 4], [.inl 1, .inl 5], [.inl 0], [.inl 6]]
             ·kernel_rfl
             ·kernel_rfl
             ·apply DOk.cons 132 
              ·rfl
              ·exact (NeedIs.inr _ rfl NeedIs.nil)
              ·intro rest
               refine SOps.move rfl ?_
               exact SOps.nil rfl
              apply DOk.cons 133 
              ·rfl
              ·exact (NeedIs.inr _ rfl NeedIs.nil)
              ·intro rest
               refine SOps.move rfl ?_
               exact SOps.nil rfl
              apply DOk.cons 134 
              ·rfl
              ·exact (NeedIs.inr _ rfl NeedIs.nil)
              ·intro rest
               refine SOps.move rfl ?_
               exact SOps.nil rfl
              apply DOk.cons 135 
              ·rfl
              ·exact (NeedIs.inr _ rfl NeedIs.nil)
              ·intro rest
               refine SOps.move rfl ?_
               exact SOps.nil rfl
              apply DOk.cons 136 
              ·rfl
              ·exact (NeedIs.inl 0 _ _ rfl rfl NeedIs.nil)
              ·intro rest
               refine SOps.lenStr rfl strB_9 ?_
               exact SOps.nil rfl
              apply DOk.cons 137 
              ·rfl
              ·exact (NeedIs.inl 2 _ _ rfl rfl (NeedIs.inl 0 _ _ rfl rfl NeedIs.nil))
              ·intro rest
               refine SOps.addI rfl rfl (by first | omega | (simp only [lenB]; omega) | (simp only [List.length_map, lenB]; omega) | (simp; done)) (by first | omega | (simp only [lenB]; omega) | (simp only [List.length_map, lenB]; omega) | (simp; done)) ?_
               exact SOps.nil rfl
              apply DOk.cons 138 
              ·rfl
              ·exact (NeedIs.inl 4 _ _ rfl rfl (NeedIs.inl 0 _ _ rfl rfl NeedIs.nil))
              ·intro rest
               refine SOps.sliceStr (((gp m g i) + (ln.words[i]).size)) (_) strB_9 rfl (.at (((gp m g i) + (ln.words[i]).size)) rfl (by first | omega | (simp only [lenB]; omega) | (simp only [List.length_map, lenB]; omega) | (simp; done))) .none (by first | omega | (simp only [lenB]; omega) | (simp only [List.length_map, lenB]; omega) | (simp; done)) (by first | omega | (simp only [lenB]; omega) | (simp only [List.length_map, lenB]; omega) | (simp; done)) ?_
               exact SOps.nil rfl
              apply DOk.cons 7 
              ·rfl
              ·exact (NeedIs.inl 6 _ _ rfl rfl NeedIs.nil)
              ·intro rest
               refine SOps.assign rfl ?_
               exact SOps.nil rfl
              apply DOk.cons 5 
              ·rfl
              ·exact (NeedIs.inl 1 _ _ rfl rfl NeedIs.nil)
              ·intro rest
               refine SOps.assign rfl ?_
               exact SOps.nil rfl
              exact DOk.nil
             ·rfl
             ·show SCode _ _ _ _
              refine SCode.region (SOps.move rfl (SOps.addI rfl rfl (by first | omega | (simp only [lenB]; omega) | (simp only [List.length_map, lenB]; omega) | (simp; done)) (by first | omega | (simp only [lenB]; omega) | (simp only [List.length_map, lenB]; omega) | (simp; done)) (SOps.assign rfl (SOps.nil ?_))))
              exact ⟨i + 1, by omega, by omega, St.Le.of ⟨rfl, rfl, (by show some _ = some _; rw [hP.rest]), (by show some _ = some _; unfold pv; rfl), (by show some _ = some _; first | rfl | (rw [fi_next (by omega)]) | (obtain rfl : i = 1 := (by omega); rfl) | (obtain rfl : i = 0 := (by omega); rfl)), rfl, trivial⟩⟩
            ·try simp only [nmL] at hc20
             exfalso
             omega
          ·try simp only [nmL] at hb17
           exfalso
           omega
       ·try simp only [nmL] at hb7
        exfalso
        omega
      ·try simp only [nmL] at hc6
       refine SCode.exit ?_
       show SCode _ _ _ _
       refine SCode.seqR ?_
       obtain rfl : i = ln.words.length := by omega
       refine SOps.reSlot (t := 5) (d' := .v (.string ⟨#[]⟩)) rfl (by congr 2; rw [List.drop_length]; rfl) (SOps.move rfl (SOps.bin rfl rfl rfl (SOps.reSlot (t := 140) rfl (show _ = DV.v (.bool true) from congrArg (fun b => DV.v (.bool b)) (by rfl)) (SOps.assign rfl (SOps.nil (SCode.ret ?_))))))
       exact ⟨_, Res.one (.tmp rfl), rfl, rfl⟩
end Go.GH
