/-
  Part 5 of the texts behind the walks of this claim: an own layer over the kit's wp, plain laws, and walks. No conditions.
-/
import Derived.Test.YtkhohgmmgipfbaaDoorMb4
set_option linter.unusedVariables false
set_option linter.unusedSimpArgs false
set_option linter.deprecated false
namespace Go.GH
open Go Go.Lib
theorem best_le {l : List Bx} {w pen : Int} (hb : boxesB l = true) (hp : 0 ≤ pen) : ∀ {i : Nat} {ks : List Nat}, Fit l w i ks (ptN l - 1) → 0 ≤ (bestP l w pen i).1 ∧ (bestP l w pen i).1 ≤ costP l w pen i ks
  | i, [], h => by
    have h1 : i = ptN l - 1 := h
    rw [h1, bestP_last]
    exact ⟨Int.le_refl _, Int.le_refl _⟩
  | i, k :: ks, ⟨h1, h2, h3, h4⟩ => by
    have ih := best_le hb hp h4
    have h5 := (bestP_spec (w := w) hb hp (show i < ptN l - 1 by have := h4.le; omega)).1 k h1 h2 h3 ih.1
    refine ⟨h5.1, ?_⟩
    show _ ≤ stepC l w pen i k + costP l w pen k ks
    omega
def nextL (l : List Bx) (w pen : Int) : List Int := (bstL l w pen (ptN l - 1)).map (·.2)
theorem nextL_at (l : List Bx) (w pen : Int) (i : Nat) : (nextL l w pen).getD i 0 = (bestP l w pen i).2 := by
  unfold nextL bestP
  rw [List.getD_eq_getElem?_getD, List.getD_eq_getElem?_getD, List.getElem?_map]
  cases (bstL l w pen (ptN l - 1))[i]? <;> rfl
theorem best_way {l : List Bx} {w pen : Int} (hb : boxesB l = true) (hp : 0 ≤ pen) : ∀ (f i : Nat), i ≤ ptN l - 1 → ptN l - 1 < f + i → 0 ≤ (bestP l w pen i).1 →
    Fit l w i (pathF (ptN l - 1) (nextL l w pen) f i) (ptN l - 1) ∧ costP l w pen i (pathF (ptN l - 1) (nextL l w pen) f i) = (bestP l w pen i).1
  | 0, i, h1, h2, _ => by omega
  | f + 1, i, h1, h2, h0 => by
    rw [pathF]
    by_cases hi : i < ptN l - 1
    · rw [if_pos hi]
      obtain ⟨n, n1, n2, n3, n4, n5, n6, _⟩ := (bestP_spec (w := w) hb hp hi).2 h0
      have ih := best_way hb hp f n (by omega) (by omega) n5
      rw [nextL_at, n4, Int.toNat_natCast]
      refine ⟨⟨n1, n2, n3, ih.1⟩, ?_⟩
      show stepC l w pen i n + costP l w pen n _ = _
      rw [ih.2, n6]; omega
    · rw [if_neg hi]
      have h3 : i = ptN l - 1 := by omega
      refine ⟨h3, ?_⟩
      rw [h3, bestP_last]; rfl
theorem best_iff {l : List Bx} {w pen : Int} (hb : boxesB l = true) (hp : 0 ≤ pen) : 0 ≤ (bestP l w pen 0).1 ↔ AllFit l w := by
  have h1 := ptN_pos l
  refine ⟨fun h => (fit_iff hb).1 ⟨_, (best_way hb hp (ptN l) 0 (Nat.zero_le _) (by omega) h).1⟩, fun h => ?_⟩
  obtain ⟨ks, hk⟩ := (fit_iff hb).2 h
  exact (best_le hb hp hk).1
/-! greedy -/
theorem greedy_fit {l : List Bx} {w : Int} (hb : boxesB l = true) : ∀ (f i : Nat) (ks : List Nat), i ≤ ptN l - 1 → ptN l - 1 < f + i → greedyF l w f i = some ks → Fit l w i ks (ptN l - 1)
  | 0, i, ks, h1, h2, _ => by omega
  | f + 1, i, ks, h1, h2, h => by
    have hsg := stopP_gt l w i
    by_cases hi : i < ptN l - 1
    · have hsl := stopP_le (l := l) (w := w) (i := i) (by omega)
      by_cases hs : stopP l w i - 1 = i
      · rw [greedyF_none hi hs (by omega)] at h; cases h
      · rw [greedyF_go hi hs (by omega)] at h
        obtain ⟨ks2, h3, rfl⟩ := Option.map_eq_some_iff.1 h
        exact ⟨by omega, by omega, stopP_fit (by omega) (by omega), greedy_fit hb f _ ks2 (by omega) (by omega) h3⟩
    · rw [greedyF_end hi] at h
      obtain rfl := Option.some.inj h
      show i = _
      omega
theorem greedy_ex {l : List Bx} {w : Int} (hb : boxesB l = true) (hf : AllFit l w) : ∀ (f i : Nat), ∃ ks, greedyF l w f i = some ks
  | 0, i => ⟨[], rfl⟩
  | f + 1, i => by
    have hsg := stopP_gt l w i
    by_cases hi : i < ptN l - 1
    · have h1 := (stop_iff hb (show i < i + 1 by omega) (by omega)).2 (hf i hi)
      obtain ⟨ks, hk⟩ := greedy_ex hb hf f (stopP l w i - 1)
      rw [greedyF_go hi (by omega) (by omega)]
      exact ⟨_, by rw [show f + 1 - 1 = f from rfl, hk]; rfl⟩
    · exact ⟨[], greedyF_end hi⟩
theorem greedy_min {l : List Bx} {w : Int} (hb : boxesB l = true) : ∀ (f i j : Nat) (ks qs : List Nat), i ≤ ptN l - 1 → j ≤ i → greedyF l w f i = some ks → Fit l w j qs (ptN l - 1) → ks.length ≤ qs.length
  | 0, i, j, ks, qs, h1, h2, h, _ => by
    obtain rfl := Option.some.inj (show some [] = some ks from h)
    exact Nat.zero_le _
  | f + 1, i, j, ks, qs, h1, h2, h, hq => by
    have hsg := stopP_gt l w i
    by_cases hi : i < ptN l - 1
    · have hsl := stopP_le (l := l) (w := w) (i := i) (by omega)
      by_cases hs : stopP l w i - 1 = i
      · rw [greedyF_none hi hs (by omega)] at h; cases h
      · rw [greedyF_go hi hs (by omega)] at h
        obtain ⟨ks2, h3, rfl⟩ := Option.map_eq_some_iff.1 h
        cases qs with
        | nil => have h4 : j = ptN l - 1 := hq; omega
        | cons k qs =>
          obtain ⟨q1, q2, q3, q4⟩ := hq
          have h5 : k ≤ stopP l w i - 1 := by
            rcases Nat.lt_or_ge k (stopP l w i) with h6 | h6
            · omega
            · have h7 := lenP_mono hb (i := j) (j := i) (k := k) (n := k) h2 (Nat.le_refl _) (by omega) q2
              have h8 := (stop_iff (w := w) hb (show i < k by omega) q2).2 (by omega)
              omega
          have := greedy_min hb f _ k ks2 qs (by omega) h5 h3 q4
          rw [List.length_cons, List.length_cons]; omega
    · rw [greedyF_end hi] at h
      obtain rfl := Option.some.inj h
      exact Nat.zero_le _
theorem greedy_some {l : List Bx} {w : Int} (hb : boxesB l = true) : (∃ ks, greedyF l w (ptN l) 0 = some ks) ↔ AllFit l w := by
  have h1 := ptN_pos l
  exact ⟨fun ⟨ks, h⟩ => (fit_iff hb).1 ⟨ks, greedy_fit hb _ _ _ (Nat.zero_le _) (by omega) h⟩, fun h => greedy_ex hb h _ _⟩
/-! counting -/
def cntP (l : List Bx) (w : Int) (i : Nat) : Int := (brkL l w (ptN l - 1)).getD i 0
theorem brkL_shift (l : List Bx) (w : Int) : ∀ (j d i : Nat), (brkL l w (j + d)).getD (d + i) 0 = (brkL l w j).getD i 0
  | j, 0, i => by rw [Nat.zero_add]; rfl
  | j, d + 1, i => by
    rw [← Nat.add_assoc, brkL, show d + 1 + i = (d + i) + 1 by omega, List.getD_cons_succ]
    exact brkL_shift l w j d i
theorem cntP_last (l : List Bx) (w : Int) : cntP l w (ptN l - 1) = 1 := by
  unfold cntP
  have := brkL_shift l w 0 (ptN l - 1) 0
  rw [Nat.zero_add, Nat.add_zero] at this
  rw [this]; rfl
theorem cntP_step {l : List Bx} (w : Int) {i : Nat} (hi : i < ptN l - 1) : cntP l w i = brkV (brkL l w (ptN l - 2 - i)) (stopP l w i - (i + 1)) ∧ ∀ d, i + 1 + d ≤ ptN l - 1 → (brkL l w (ptN l - 2 - i)).getD d 0 = cntP l w (i + 1 + d) := by
  unfold cntP
  refine ⟨?_, fun d hd => ?_⟩
  · have := brkL_shift l w (ptN l - 1 - i) i 0
    rw [show ptN l - 1 - i + i = ptN l - 1 by omega, Nat.add_zero] at this
    rw [this, show ptN l - 1 - i = (ptN l - 2 - i) + 1 by omega, brkL, List.getD_cons_zero, show ptN l - 2 - (ptN l - 2 - i) = i by omega, show ptN l - 1 - (ptN l - 2 - i) = i + 1 by omega]
  · have := brkL_shift l w (ptN l - 2 - i) (i + 1) d
    rw [show ptN l - 2 - i + (i + 1) = ptN l - 1 by omega] at this
    rw [this]
theorem brkL_nn (l : List Bx) (w : Int) (j d : Nat) : 0 ≤ (brkL l w j).getD d 0 := by
  rw [List.getD_eq_getElem?_getD]
  rcases Nat.lt_or_ge d (brkL l w j).length with h | h
  · rw [List.getElem?_eq_getElem h]; exact (brkL_bound l w j _ (List.getElem_mem h)).1
  · rw [List.getElem?_eq_none h]; exact Int.le_refl _
theorem minC_mono {x y : Int} (h : x ≤ y) : minC x ≤ minC y := by unfold minC; split <;> split <;> omega
theorem brkV_nn {t : List Int} (h : ∀ d, 0 ≤ t.getD d 0) : ∀ d, 0 ≤ brkV t d
  | 0 => Int.le_refl _
  | d + 1 => by
    have := brkV_nn h d
    have := h d
    exact (minC_bound (by omega)).1
theorem brkV_mono {t u : List Int} (h : ∀ d, 0 ≤ t.getD d 0 ∧ t.getD d 0 ≤ u.getD d 0) : ∀ d e, d ≤ e → brkV t d ≤ brkV u e
  | 0, e, _ => brkV_nn (fun d => by have := h d; omega) e
  | d + 1, 0, he => by omega
  | d + 1, e + 1, he => by
    rcases Nat.lt_or_ge d e with h1 | h1
    · have h2 := brkV_mono h (d + 1) e (by omega)
      have h3 := h e
      have h4 : minC (brkV u e + 0) ≤ minC (brkV u e + u.getD e 0) := minC_mono (by omega)
      have h5 : brkV t (d + 1) = minC (brkV t (d + 1)) := by
        show minC _ = minC (minC _)
        unfold minC
        split <;> simp_all
      show brkV t (d + 1) ≤ minC (brkV u e + u.getD e 0)
      rw [h5]
      exact Int.le_trans (minC_mono (show brkV t (d + 1) ≤ brkV u e + 0 by omega)) h4
    · obtain rfl : d = e := by omega
      have h2 := brkV_mono h d d (Nat.le_refl _)
      have h3 := h d
      exact minC_mono (by omega)
theorem stopP_wider {l : List Bx} {w v : Int} (hb : boxesB l = true) (hw : w ≤ v) {i : Nat} (hi : i < ptN l) : stopP l w i ≤ stopP l v i := by
  have h1 := stopP_gt l v i
  have h2 := stopP_le (l := l) (w := w) hi
  rcases Nat.lt_or_ge (stopP l v i) (stopP l w i) with h3 | h3
  · have h4 := stopP_fit (l := l) (w := w) (i := i) (n := stopP l v i) h1 h3
    have h5 := (stop_iff (w := v) hb h1 (by omega)).2 (by omega)
    omega
  · exact h3
theorem brkL_wider {l : List Bx} {w v : Int} (hb : boxesB l = true) (hw : w ≤ v) : ∀ j, j ≤ ptN l - 1 → ∀ d, (brkL l w j).getD d 0 ≤ (brkL l v j).getD d 0
  | 0, _, d => Int.le_refl _
  | j + 1, hj, d => by
    have h1 := ptN_pos l
    rw [brkL, brkL]
    cases d with
    | zero =>
      rw [List.getD_cons_zero, List.getD_cons_zero]
      have h2 := stopP_wider hb hw (i := ptN l - 2 - j) (by omega)
      exact brkV_mono (fun d => ⟨brkL_nn l w j d, brkL_wider hb hw j (by omega) d⟩) _ _ (by omega)
    | succ d =>
      rw [List.getD_cons_succ, List.getD_cons_succ]
      exact brkL_wider hb hw j (by omega) d
theorem brkV_pos {t : List Int} (h : ∀ d, 0 ≤ t.getD d 0) : ∀ d, 0 < brkV t d ↔ ∃ e, e < d ∧ 0 < t.getD e 0
  | 0 => ⟨fun h => absurd h (Int.lt_irrefl _), fun ⟨e, h, _⟩ => by omega⟩
  | d + 1 => by
    have ih := brkV_pos h d
    have h1 := brkV_nn h d
    have h2 := h d
    have h3 : 0 < brkV t (d + 1) ↔ 0 < brkV t d + t.getD d 0 := by
      show 0 < minC _ ↔ _
      unfold minC
      split <;> omega
    rw [h3]
    constructor
    · intro h4
      rcases Int.lt_or_le 0 (t.getD d 0) with h5 | h5
      · exact ⟨d, by omega, h5⟩
      · obtain ⟨e, h6, h7⟩ := ih.1 (by omega)
        exact ⟨e, by omega, h7⟩
    · rintro ⟨e, h6, h7⟩
      rcases Nat.lt_or_ge e d with h8 | h8
      · have := ih.2 ⟨e, h8, h7⟩; omega
      · obtain rfl : e = d := by omega
        omega
theorem cnt_fit {l : List Bx} {w : Int} (hb : boxesB l = true) : ∀ {i : Nat} {ks : List Nat}, Fit l w i ks (ptN l - 1) → 0 < cntP l w i
  | i, [], h => by
    have h1 : i = ptN l - 1 := h
    rw [h1, cntP_last]; omega
  | i, k :: ks, ⟨h1, h2, h3, h4⟩ => by
    have ih := cnt_fit hb h4
    obtain ⟨c1, c2⟩ := cntP_step w (show i < ptN l - 1 by have := h4.le; omega)
    rw [c1]
    refine (brkV_pos (brkL_nn l w _) _).2 ⟨k - (i + 1), ?_, ?_⟩
    · have := (stop_iff hb h1 h2).2 h3; omega
    · rw [c2 _ (by omega), show i + 1 + (k - (i + 1)) = k by omega]; exact ih
theorem fit_cnt {l : List Bx} {w : Int} (hb : boxesB l = true) : ∀ (f i : Nat), i ≤ ptN l - 1 → ptN l - 1 < f + i → 0 < cntP l w i → ∃ ks, Fit l w i ks (ptN l - 1)
  | 0, i, h1, h2, _ => by omega
  | f + 1, i, h1, h2, h => by
    by_cases hi : i < ptN l - 1
    · obtain ⟨c1, c2⟩ := cntP_step w hi
      have hsl := stopP_le (l := l) (w := w) (i := i) (by omega)
      rw [c1] at h
      obtain ⟨e, e1, e2⟩ := (brkV_pos (brkL_nn l w _) _).1 h
      rw [c2 _ (by omega)] at e2
      obtain ⟨ks, hk⟩ := fit_cnt hb f (i + 1 + e) (by omega) (by omega) e2
      exact ⟨(i + 1 + e) :: ks, by omega, by omega, stopP_fit (by omega) (by omega), hk⟩
    · exact ⟨[], by show i = _; omega⟩
theorem cnt_iff {l : List Bx} {w : Int} (hb : boxesB l = true) : 0 < cntP l w 0 ↔ AllFit l w := by
  have h1 := ptN_pos l
  refine ⟨fun h => (fit_iff hb).1 (fit_cnt hb (ptN l) 0 (Nat.zero_le _) (by omega) h), fun h => ?_⟩
  obtain ⟨ks, hk⟩ := (fit_iff hb).2 h
  exact cnt_fit hb hk
theorem cnt_wider {l : List Bx} {w v : Int} (hb : boxesB l = true) (hw : w ≤ v) : cntP l w 0 ≤ cntP l v 0 := brkL_wider hb hw _ (Nat.le_refl _) 0
theorem AllFit.wider {l : List Bx} {w v : Int} (hw : w ≤ v) (h : AllFit l w) : AllFit l v := fun i hi => by have := h i hi; omega
end Go.GH
namespace Go.GH
open Go Go.Lib
theorem wide_ok {l : List Ln} (h : wideLs l = false) : l.length ≤ 30 ∧ ∀ x ∈ l, x.words.length ≤ 30 ∧ ∀ w ∈ x.words, w.size ≤ 300 := by
  unfold wideLs at h
  rw [Bool.or_eq_false_iff, decide_eq_false_iff_not, List.any_eq_false] at h
  exact ⟨by omega, fun x hx => bigL_iff.1 (by have := h.2 x hx; simpa using this)⟩
theorem wide_ln {l : List Ln} (h : wideLs l = false) : ∀ x ∈ l, LnOK x := fun x hx => by
  have h1 := (wide_ok h).2 x hx
  exact ⟨by omega, fun w hw => by have := h1.2 w hw; omega⟩
theorem many_ok {l : List Bx} (h : manyB l = false) : l.length ≤ 40 ∧ ∀ x ∈ l, x.word.size ≤ 100 ∧ x.pts.length ≤ 20 := by
  unfold manyB at h
  rw [Bool.or_eq_false_iff, decide_eq_false_iff_not, List.any_eq_false] at h
  exact ⟨by omega, fun x hx => by
    have h1 := h.1 x hx
    rw [Bool.not_eq_true] at h1
    have h2 : ¬ bigB 100 20 x = true := by rw [h1]; simp
    rw [bigB_iff] at h2; omega⟩
theorem large_ok {l : List Bx} (h : largeB l = false) : cntB l ≤ 11 ∧ ∀ x ∈ l, x.word.size ≤ 300 ∧ x.pts.length ≤ 11 := by
  unfold largeB at h
  rw [Bool.or_eq_false_iff, decide_eq_false_iff_not, List.any_eq_false] at h
  exact ⟨by omega, fun x hx => by
    have h1 := h.1 x hx
    rw [Bool.not_eq_true] at h1
    have h2 : ¬ bigB 300 11 x = true := by rw [h1]; simp
    rw [bigB_iff] at h2; omega⟩
theorem large_len {l : List Bx} (h : largeB l = false) : l.length ≤ 10 := by
  have h1 := (large_ok h).1
  have key : ∀ (l : List Bx), l.length ≤ (l.map (fun b => 1 + b.pts.length)).sum := fun l => by
    induction l with
    | nil => exact Nat.le_refl _
    | cons b l ih => rw [List.map_cons, List.sum_cons, List.length_cons]; omega
  have := key l
  unfold cntB at h1; omega
end Go.GH
namespace Go.GH
open Go Go.Lib
theorem linesOf_len (l : List Bx) : ∀ (a : Nat) (ks : List Nat), (linesOf l a ks).length = ks.length
  | _, [] => rfl
  | a, k :: ks => by rw [linesOf, List.length_cons, List.length_cons, linesOf_len l k ks]
theorem valid_of {l : List Bx} {w : Int} (h : validL l w = true) : (1 ≤ w ∧ w ≤ 200) ∧ boxesB l = true := by
  unfold validL at h
  rw [Bool.and_eq_true, wideB_iff] at h
  exact h
theorem valid_mk {l : List Bx} {w : Int} (h1 : 1 ≤ w) (h2 : w ≤ 200) (h : boxesB l = true) : validL l w = true := by
  unfold validL; rw [Bool.and_eq_true, wideB_iff]; exact ⟨⟨h1, h2⟩, h⟩
theorem greedyR_ok {l : List Bx} {w : Int} (hv : validL l w = true) :
    ((greedyR l w).2 = 0 ∧ AllFit l w ∧ ∃ ks, Fit l w 0 ks (ptN l - 1) ∧ (greedyR l w).1 = linesOf l 0 ks ∧ ∀ qs, Fit l w 0 qs (ptN l - 1) → ks.length ≤ qs.length) ∨ ((greedyR l w).2 = 2 ∧ ¬ AllFit l w ∧ (greedyR l w).1 = []) := by
  have hb := (valid_of hv).2
  have hpos := ptN_pos l
  unfold greedyR
  rw [if_pos hv]
  cases h : greedyF l w (ptN l) 0 with
  | none =>
    have hn : ¬ AllFit l w := fun h2 => by
      obtain ⟨ks, h3⟩ := (greedy_some hb).2 h2
      rw [h] at h3; cases h3
    exact .inr ⟨rfl, hn, rfl⟩
  | some ks => exact .inl ⟨rfl, (greedy_some hb).1 ⟨ks, h⟩, ks, greedy_fit hb _ _ _ (Nat.zero_le _) (by omega) h, rfl, fun qs hq => greedy_min hb _ _ _ _ _ (Nat.zero_le _) (Nat.le_refl _) h hq⟩
theorem greedyR_bad {l : List Bx} {w : Int} (hv : validL l w = false) : greedyR l w = ([], 1) := by unfold greedyR; rw [if_neg (by rw [hv]; simp)]
theorem breaksR_ok {l : List Bx} {w : Int} (hv : validL l w = true) : breaksR l w = (cntP l w 0, 0) := by unfold breaksR; rw [if_pos hv]; rfl
theorem breaksR_bad {l : List Bx} {w : Int} (hv : validL l w = false) : breaksR l w = (0, 1) := by unfold breaksR; rw [if_neg (by rw [hv]; simp)]
theorem linesR_ok {l : List Bx} {w pen : Int} (hv : validL l w = true) (hp : penB pen = true) :
    ((linesR l w pen).2.2 = 0 ∧ AllFit l w ∧ ∃ ks, Fit l w 0 ks (ptN l - 1) ∧ (linesR l w pen).1 = linesOf l 0 ks ∧ costP l w pen 0 ks = (linesR l w pen).2.1 ∧ ∀ qs, Fit l w 0 qs (ptN l - 1) → (linesR l w pen).2.1 ≤ costP l w pen 0 qs) ∨ ((linesR l w pen).2.2 = 2 ∧ ¬ AllFit l w ∧ (linesR l w pen).2.1 = 0 ∧ (linesR l w pen).1 = []) := by
  have hb := (valid_of hv).2
  have hp0 := (penB_iff.1 hp).1
  have hpos := ptN_pos l
  have hbi := best_iff (w := w) hb hp0
  have hbp : ((bstL l w pen (ptN l - 1)).getD 0 (0, 0)).1 = (bestP l w pen 0).1 := rfl
  unfold linesR
  rw [if_pos (by rw [hv, hp]; rfl), hbp]
  by_cases h : (bestP l w pen 0).1 < 0
  · rw [if_pos h]
    exact .inr ⟨rfl, fun h2 => by have := hbi.2 h2; omega, rfl, rfl⟩
  · rw [if_neg h]
    have hw := best_way hb hp0 (ptN l) 0 (Nat.zero_le _) (by omega) (show 0 ≤ (bestP l w pen 0).1 by omega)
    exact .inl ⟨rfl, hbi.1 (by omega), _, hw.1, rfl, hw.2, fun qs hq => (best_le hb hp0 hq).2⟩
theorem linesR_bad {l : List Bx} {w pen : Int} (hv : validL l w = false ∨ penB pen = false) : linesR l w pen = ([], 0, 1) := by
  unfold linesR
  rw [if_neg (by rcases hv with h | h <;> rw [h] <;> simp)]
/-! penalties -/
def hysP (l : List Bx) (ks : List Nat) : Nat := (ks.filter (hyP l)).length
theorem hyphN_lines (l : List Bx) : ∀ (a : Nat) (ks : List Nat), hyphN (linesOf l a ks) = hysP l ks
  | _, [] => rfl
  | a, k :: ks => by
    have ih := hyphN_lines l k ks
    unfold hyphN hysP at *
    rw [linesOf, List.filter_cons, List.filter_cons]
    have e : (lineP l a k).hyph = hyP l k := rfl
    rw [e]
    split
    · rw [List.length_cons, List.length_cons, ih]
    · exact ih
theorem costP_more (l : List Bx) (w pen more : Int) : ∀ (a : Nat) (ks : List Nat), costP l w (pen + more) a ks = costP l w pen a ks + more * (hysP l ks : Int)
  | _, [] => by show (0 : Int) = 0 + more * ((0 : Nat) : Int); rw [show ((0 : Nat) : Int) = 0 from rfl, Int.mul_zero]; rfl
  | a, k :: ks => by
    have ih := costP_more l w pen more k ks
    show stepC l w (pen + more) a k + costP l w (pen + more) k ks = stepC l w pen a k + costP l w pen k ks + more * _
    have e : (hysP l (k :: ks) : Int) = (if hyP l k then 1 else 0) + (hysP l ks : Int) := by
      unfold hysP
      rw [List.filter_cons]
      split
      · rw [List.length_cons]; omega
      · omega
    rw [ih, e, Int.mul_add]
    unfold stepC
    cases hyP l k
    · simp; omega
    · simp; omega
theorem hys_le (l : List Bx) (ks : List Nat) : hysP l ks ≤ ks.length := List.length_filter_le _ _
theorem Fit.len {l : List Bx} {w : Int} : ∀ {a z : Nat} {ks : List Nat}, Fit l w a ks z → ks.length ≤ z - a
  | _, _, [], _ => Nat.zero_le _
  | a, z, k :: ks, ⟨h1, _, _, h2⟩ => by
    have := h2.len
    have := h2.le
    rw [List.length_cons]; omega
theorem mul_le_cases {m a b : Int} (hm : 0 < m) (h : m * a ≤ m * b) : a ≤ b := Int.le_of_mul_le_mul_left h hm
theorem penalty_facts {l : List Bx} {w pen more : Int} (hp0 : 0 ≤ pen) (hp1 : pen ≤ 1000000) (hm : 0 ≤ more) (hs : pen + more ≤ 1000000) :
    (linesR l w pen).2.2 = (linesR l w (pen + more)).2.2 ∧ ((linesR l w pen).2.2 = 0 → (linesR l w pen).2.1 ≤ (linesR l w (pen + more)).2.1 ∧ (more ≠ 0 → hyphN (linesR l w (pen + more)).1 ≤ hyphN (linesR l w pen).1) ∧ (linesR l w (pen + more)).2.1 ≤ (linesR l w pen).2.1 + more * (hyphN (linesR l w pen).1 : Int) ∧ hyphN (linesR l w pen).1 ≤ 1000000 ∧
      0 ≤ (linesR l w pen).2.1 ∧ (linesR l w pen).2.1 ≤ 1210001000000 * 300000) := by
  have q1 : penB pen = true := penB_iff.2 ⟨hp0, hp1⟩
  have q2 : penB (pen + more) = true := penB_iff.2 ⟨by omega, hs⟩
  by_cases hv : validL l w = true
  · rcases linesR_ok hv q1 with ⟨a1, a2, ks, a3, a4, a5, a6⟩ | ⟨a1, a2, _⟩ <;> rcases linesR_ok hv q2 with ⟨b1, b2, qs, b3, b4, b5, b6⟩ | ⟨b1, b2, _⟩
    · refine ⟨by rw [a1, b1], fun _ => ?_⟩
      have e1 := costP_more l w pen more 0 ks
      have e2 := costP_more l w pen more 0 qs
      have c1 := a6 qs b3
      have c2 := b6 ks a3
      have h0 := Int.mul_nonneg hm (Int.natCast_nonneg (hysP l qs))
      have hb := (valid_of hv).2
      rw [a4, b4, hyphN_lines, hyphN_lines]
      have hl := a3.len
      have hN := ptN_le hb
      have hh := hys_le l ks
      have hbok := (bstL_ok (pen := pen) hb ⟨by have := (valid_of hv).1; omega, (valid_of hv).1.2⟩ ⟨hp0, hp1⟩ (ptN l - 1) (Nat.le_refl _)).1
      have hmem : (bestP l w pen 0) ∈ bstL l w pen (ptN l - 1) := by
        unfold bestP
        rw [getD_lt (by rw [bstL_len]; omega)]
        exact List.getElem_mem _
      have hbb := hbok _ hmem
      have hbe : (linesR l w pen).2.1 = (bestP l w pen 0).1 := by
        unfold linesR
        rw [if_pos (by rw [hv, q1]; rfl)]
        have hnn := (best_iff (w := w) hb hp0).2 a2
        rw [if_neg (by show ¬ (bestP l w pen 0).1 < 0; omega)]; rfl
      refine ⟨by omega, fun hne => ?_, by omega, by omega, ?_, ?_⟩
      · have h9 := mul_le_cases (m := more) (a := (hysP l qs : Int)) (b := (hysP l ks : Int)) (by omega) (by omega)
        omega
      · have := costP_nonneg (l := l) (w := w) hp0 (a := 0) (ks := ks); omega
      · rw [hbe]; omega
    · exact absurd a2 b2
    · exact absurd b2 a2
    · exact ⟨by rw [a1, b1], fun h => by rw [a1] at h; cases h⟩
  · rw [Bool.not_eq_true] at hv
    rw [linesR_bad (.inl hv), linesR_bad (.inl hv)]
    exact ⟨rfl, fun h => by cases h⟩
/-! smallest pieces -/
def chainL {α : Type} (R : α → α → Bool) : List α → Bool
  | x :: y :: t => R x y && chainL R (y :: t)
  | _ => true
theorem chainL_app {α : Type} {R : α → α → Bool} : ∀ (s : List α) (x : α) (t : List α), chainL R (s ++ x :: t) = (chainL R (s ++ [x]) && chainL R (x :: t))
  | [], x, t => rfl
  | [y], x, t => by show (R y x && _) = ((R y x && true) && _); rw [Bool.and_true]
  | y :: z :: s, x, t => by
    have ih := chainL_app (R := R) (z :: s) x t
    show (R y z && chainL R ((z :: s) ++ x :: t)) = ((R y z && chainL R ((z :: s) ++ [x])) && chainL R (x :: t))
    rw [ih, Bool.and_assoc]
theorem chainL_iff {α : Type} {R : α → α → Bool} : ∀ (s : List α), chainL R s = true ↔ ∀ (i : Nat) (h : i + 1 < s.length), R (s[i]'(by omega)) s[i + 1] = true
  | [] => ⟨fun _ i h => by simp at h, fun _ => rfl⟩
  | [x] => ⟨fun _ i h => by simp at h, fun _ => rfl⟩
  | x :: y :: s => by
    have ih := chainL_iff (R := R) (y :: s)
    show (R x y && chainL R (y :: s)) = true ↔ _
    rw [Bool.and_eq_true, ih]
    constructor
    · rintro ⟨h1, h2⟩ i hi
      cases i with
      | zero => exact h1
      | succ i => exact h2 i (by simpa using hi)
    · intro h
      exact ⟨h 0 (by simp), fun i hi => h (i + 1) (by simpa using hi)⟩
def relP (l : List Bx) (w : Int) (x y : Nat × Int) : Bool := decide ((stB l y.1 : Int) + y.2 + (if 0 < y.2 then 1 else -1) - ((stB l x.1 : Int) + x.2) ≤ w)
def smF (w : Int) (n : Nat) : Int → List Int → Bool
  | at_, [] => decide ((n : Int) - at_ ≤ w)
  | at_, h :: t => decide (h - at_ + 1 ≤ w) && smF w n h t
def smA (w : Int) (l : List Bx) : Bool := l.all (fun b => smF w (wlen b.word) 0 b.pts)
theorem chain_box {l : List Bx} {w : Int} {k : Nat} (hk : k < l.length) : ∀ (ps : List Int) (at_ : Int), (∀ q ∈ ps, 1 ≤ q) → chainL (relP l w) ((k, at_) :: (ps.map (fun q => (k, q)) ++ [(k + 1, 0)])) = smF w (wlen (l[k]).word) at_ ps
  | [], at_, _ => by
    have hs := stB_succ hk
    show (relP l w (k, at_) (k + 1, 0) && true) = decide _
    rw [Bool.and_true]
    unfold relP
    rw [decide_eq_decide]
    simp only [Int.lt_irrefl, if_false]
    omega
  | h :: t, at_, hp => by
    have ih := chain_box (w := w) hk t h (fun q hq => hp q (List.mem_cons_of_mem _ hq))
    have h1 := hp h (List.mem_cons_self ..)
    show (relP l w (k, at_) (k, h) && chainL (relP l w) ((k, h) :: (t.map (fun q => (k, q)) ++ [(k + 1, 0)]))) = (decide _ && _)
    rw [ih]
    congr 1
    unfold relP
    rw [decide_eq_decide]
    dsimp only
    rw [if_pos (by omega)]
    omega
theorem chain_pts {l : List Bx} {w : Int} (hb : boxesB l = true) : ∀ k, k ≤ l.length → chainL (relP l w) (ptsF (l.take k) ++ [(k, 0)]) = smA w (l.take k)
  | 0, _ => by rw [List.take_zero]; rfl
  | k + 1, hk => by
    have hkl : k < l.length := by omega
    have ih := chain_pts hb k (by omega) (w := w)
    have hp := (boxB_pts ((boxesB_iff.1 hb).2 _ (List.getElem_mem hkl))).1
    rw [ptsF_take hkl, List.append_assoc, List.cons_append, chainL_app, ih, chain_box hkl _ _ (fun q hq => (hp q hq).1)]
    unfold smA
    rw [List.take_add_one, List.getElem?_eq_getElem hkl, List.all_append]
    simp
theorem allFit_iff {l : List Bx} {w : Int} (hb : boxesB l = true) : smA w l = true ↔ AllFit l w := by
  have h1 := chain_pts hb l.length (Nat.le_refl _) (w := w)
  rw [List.take_length] at h1
  rw [← h1, chainL_iff]
  have hlen : ptN l = (ptsF l ++ [(l.length, (0 : Int))]).length := ptN_eq l
  have key : ∀ i (h : i + 1 < (ptsF l ++ [(l.length, (0 : Int))]).length), relP l w ((ptsF l ++ [(l.length, (0 : Int))])[i]'(by omega)) (ptsF l ++ [(l.length, (0 : Int))])[i + 1] = decide (lenP l i (i + 1) ≤ w) := fun i h => by
    obtain ⟨c1, y1⟩ := colP_eq (l := l) (i := i) (by omega)
    obtain ⟨c2, y2⟩ := colP_eq (l := l) (i := i + 1) (by omega)
    have e1 : (ptsF l ++ [(l.length, (0 : Int))])[i]'(by omega) = ptQ l i := (ptQ_lt (by omega)).symm
    have e2 : (ptsF l ++ [(l.length, (0 : Int))])[i + 1] = ptQ l (i + 1) := (ptQ_lt (by omega)).symm
    rw [e1, e2, lenP_eq, c1]
    unfold endP
    rw [c2, y2]
    unfold relP
    rw [decide_eq_decide]
    simp only [decide_eq_true_eq]
  constructor
  · intro h i hi
    have := h i (by omega)
    rw [key i (by omega)] at this
    exact of_decide_eq_true this
  · intro h i hi
    rw [key i hi]
    exact decide_eq_true (h i (by omega))
end Go.GH
namespace Go.GH
open Go Go.Lib
theorem wider_facts {l : List Bx} {w v : Int} (h1 : 1 ≤ w) (hw : w ≤ v) (h2 : v ≤ 200) :
    (breaksR l w).2 = (breaksR l v).2 ∧ (breaksR l w).1 ≤ (breaksR l v).1 ∧ ((breaksR l w).2 ≠ 0 → (greedyR l w).2 = (breaksR l w).2 ∧ (greedyR l v).2 = (breaksR l w).2) ∧
      ((breaksR l w).2 = 0 → ((greedyR l w).2 = 0 ↔ 0 < (breaksR l w).1) ∧ ((greedyR l v).2 = 0 ↔ 0 < (breaksR l v).1) ∧ ((greedyR l w).2 = 0 → (greedyR l v).1.length ≤ (greedyR l w).1.length)) := by
  by_cases hb : boxesB l = true
  · have v1 := valid_mk h1 (by omega) hb
    have v2 := valid_mk (l := l) (w := v) (by omega) h2 hb
    rw [breaksR_ok v1, breaksR_ok v2]
    refine ⟨rfl, cnt_wider hb hw, fun h => absurd rfl h, fun _ => ?_⟩
    dsimp only
    rw [cnt_iff hb, cnt_iff hb]
    rcases greedyR_ok v1 with ⟨a1, a2, ks, a3, a4, a5⟩ | ⟨a1, a2, _⟩ <;> rcases greedyR_ok v2 with ⟨b1, b2, qs, b3, b4, b5⟩ | ⟨b1, b2, _⟩
    · rw [a1, b1, a4, b4, linesOf_len, linesOf_len]
      exact ⟨⟨fun _ => a2, fun _ => rfl⟩, ⟨fun _ => b2, fun _ => rfl⟩, fun _ => b5 ks (a3.wider hw)⟩
    · exact absurd (a2.wider hw) b2
    · rw [a1, b1]
      exact ⟨⟨fun h => (by cases h), fun h => absurd h a2⟩, ⟨fun _ => b2, fun _ => rfl⟩, fun h => by cases h⟩
    · rw [a1, b1]
      exact ⟨⟨fun h => (by cases h), fun h => absurd h a2⟩, ⟨fun h => (by cases h), fun h => absurd h b2⟩, fun h => by cases h⟩
  · rw [Bool.not_eq_true] at hb
    have v1 : validL l w = false := by unfold validL; rw [hb, Bool.and_false]
    have v2 : validL l v = false := by unfold validL; rw [hb, Bool.and_false]
    rw [breaksR_bad v1, breaksR_bad v2, greedyR_bad v1, greedyR_bad v2]
    exact ⟨rfl, Int.le_refl _, fun _ => ⟨rfl, rfl⟩, fun h => by cases h⟩
theorem smallest_facts {l : List Bx} {w : Int} (hv : validL l w = true) : (breaksR l w).2 = 0 ∧ (0 < (breaksR l w).1 ↔ smA w l = true) ∧ ((linesR l w 0).2.2 = 0 ↔ smA w l = true) := by
  have hb := (valid_of hv).2
  rw [breaksR_ok hv, allFit_iff hb]
  refine ⟨rfl, cnt_iff hb, ?_⟩
  rcases linesR_ok (pen := 0) hv (by decide) with ⟨a1, a2, _⟩ | ⟨a1, a2, _⟩
  · rw [a1]; exact ⟨fun _ => a2, fun _ => rfl⟩
  · rw [a1]; exact ⟨fun h => (by cases h), fun h => absurd h a2⟩
theorem smF_step {w : Int} {n : Nat} {at_ : Int} {ps : List Int} {i : Nat} (h : i < ps.length) : smF w n at_ (ps.drop i) = (decide (ps[i] - at_ + 1 ≤ w) && smF w n ps[i] (ps.drop (i + 1))) := by
  rw [List.drop_eq_getElem_cons h]; rfl
theorem smF_end {w : Int} {n : Nat} {at_ : Int} {ps : List Int} {i : Nat} (h : ps.length ≤ i) : smF w n at_ (ps.drop i) = decide ((n : Int) - at_ ≤ w) := by
  rw [List.drop_eq_nil_of_le h]; rfl
theorem smA_step {w : Int} {l : List Bx} {k : Nat} (h : k < l.length) : smA w (l.drop k) = (smF w (wlen (l[k]).word) 0 (l[k]).pts && smA w (l.drop (k + 1))) := by
  rw [List.drop_eq_getElem_cons h]; rfl
theorem many_sz {l : List Bx} (h : manyB l = false) : ∀ x ∈ l, x.word.size ≤ 1048576 := fun x hx => by have := ((many_ok h).2 x hx).1; omega
end Go.GH
namespace Go.GH
open Go Go.Proofs
variable {E : Env}
theorem l44Smallest (hV : VS E) (l : List Bx) (w : Int)  : GCall Tryd.prog E 7 [DBxs l, .v (.int .i64 w)] [] (fun d H => d = .v (.bool true) ∧ H = []) := by
  refine GCall.body (C := ⟨Tryd.prog, E, true⟩) Tryd.func7 rfl (fun _ => rfl) (by kernel_rfl) rfl ?_
  refine SCode.seqR ?_
  refine SOps.assign rfl ?_
  refine SOps.nil ?_
  refine SCode.seq ?_
  refine SCode.seqR ?_
  refine SOps.callP (sAwake hV) rfl ?_
  rintro _ rfl
  refine SOps.un rfl rfl ?_
  refine SOps.nil ?_
  refine SCode.cond rfl (fun h => by cases h) (fun _ => ?_)
  refine SCode.skip ?_
  show SCode _ _ _ _
  refine SCode.seq ?_
  refine SCode.seqR ?_
  refine SOps.move rfl ?_
  refine SOps.callP (lMany _) rfl ?_
  rintro _ rfl
  refine SOps.move rfl ?_
  refine SOps.caseB 20 rfl (fun hb1 => ?_) (fun hb1 => ?_)
  · try simp only [decide_eq_true_eq, decide_eq_false_iff_not, Bool.not_eq_true', Bool.not_eq_false', beq_iff_eq, bne_iff_ne, ne_eq, beq_eq_false_iff_ne, bne_eq_false_iff_eq, Int.not_lt, Int.not_le, Nat.not_lt, Nat.not_le, Int.ofNat_lt, Int.ofNat_le, Bool.not_eq_eq_eq_not, Bool.not_true, Bool.not_false] at hb1
    refine SOps.skip rfl ?_
    refine SOps.skip rfl ?_
    refine SOps.skip rfl ?_
    refine SOps.skip rfl ?_
    refine SOps.pick rfl rfl ?_
    refine SOps.nil ?_
    refine SCode.cond rfl (fun _ => ?_) (fun h => by cases h)
    refine SCode.seqR ?_
    refine SOps.assign rfl ?_
    refine SOps.nil ?_
    refine SCode.ret ?_
    exact ⟨_, Res.one (.tmp rfl), rfl, rfl⟩
  · try simp only [decide_eq_true_eq, decide_eq_false_iff_not, Bool.not_eq_true', Bool.not_eq_false', beq_iff_eq, bne_iff_ne, ne_eq, beq_eq_false_iff_ne, bne_eq_false_iff_eq, Int.not_lt, Int.not_le, Nat.not_lt, Nat.not_le, Int.ofNat_lt, Int.ofNat_le, Bool.not_eq_eq_eq_not, Bool.not_true, Bool.not_false] at hb1
    refine SOps.move rfl ?_
    refine SOps.move rfl ?_
    refine SOps.callP (sValid hV l w (many_sz (by assumption))) rfl ?_
    rintro _ rfl
    refine SOps.un rfl rfl ?_
    refine SOps.pick rfl rfl ?_
    refine SOps.nil ?_
    refine SCode.cond rfl (fun hc2 => ?_) (fun hc2 => ?_)
    · try simp only [decide_eq_true_eq, decide_eq_false_iff_not, Bool.not_eq_true', Bool.not_eq_false', beq_iff_eq, bne_iff_ne, ne_eq, beq_eq_false_iff_ne, bne_eq_false_iff_eq, Int.not_lt, Int.not_le, Nat.not_lt, Nat.not_le, Int.ofNat_lt, Int.ofNat_le, Bool.not_eq_eq_eq_not, Bool.not_true, Bool.not_false] at hc2
      refine SCode.seqR ?_
      refine SOps.assign rfl ?_
      refine SOps.nil ?_
      refine SCode.ret ?_
      exact ⟨_, Res.one (.tmp rfl), rfl, rfl⟩
    · try simp only [decide_eq_true_eq, decide_eq_false_iff_not, Bool.not_eq_true', Bool.not_eq_false', beq_iff_eq, bne_iff_ne, ne_eq, beq_eq_false_iff_ne, bne_eq_false_iff_eq, Int.not_lt, Int.not_le, Nat.not_lt, Nat.not_le, Int.ofNat_lt, Int.ofNat_le, Bool.not_eq_eq_eq_not, Bool.not_true, Bool.not_false] at hc2
      have hbx := many_sz (by assumption)
      have hvl : validL l w = true := by assumption
      obtain ⟨⟨hw1, hw2⟩, hbv⟩ := valid_of hvl
      have hbn := bnds_of hbv
      obtain ⟨f1, f2, f3⟩ := smallest_facts hvl
      refine SCode.skip ?_
      show SCode _ _ _ _
      refine SCode.seqR ?_
      refine SOps.assign rfl ?_
      refine SOps.nil ?_
      refine SCode.seq ?_
      refine SCode.seqR ?_
      refine SOps.move rfl ?_
      refine SOps.lenM rfl sliceB_22_43_2 ?_
      refine SOps.move rfl ?_
      refine SOps.nil ?_
      refine SCode.block ?_
      refine SCode.loop2 (fun (k : Nat) (f : Bool) => (⟨88, [(0, DBxs l), (1, .v (.int .i64 w)), (5, .v (.bool f)), (26, DBxs l), (27, .v (.int .i64 (l.length : Int))), (28, .v (.int .i64 (k : Int)))], []⟩ : St)) (fun (k : Nat) (f : Bool) => k ≤ l.length ∧ (f && smA w (l.drop k)) = smA w l) (fun (k : Nat) (f : Bool) => l.length - k) (0) (true) (by exact ⟨Nat.zero_le _, rfl⟩) (St.Le.of ⟨(by first | rfl | (show some _ = some _; simp)), (by first | rfl | (show some _ = some _; simp)), (by first | rfl | (show some _ = some _; simp)), (by first | rfl | (show some _ = some _; simp)), (by first | rfl | (show some _ = some _; simp)), (by first | rfl | (show some _ = some _; simp)), trivial⟩ rfl (by first | rfl | (simp))) ?_
      rintro k f ⟨hk, hfk⟩
      refine SCode.fact (isl_len (t := 26) rfl) (fun hB => ?_)
      simp only [List.length_map, lenB] at hB
      refine SCode.seqR ?_
      refine SOps.bin rfl rfl rfl ?_
      refine SOps.nil ?_
      refine SCode.seq ?_
      refine SCode.cond rfl (fun hc3 => ?_) (fun hc3 => ?_)
      · try simp only [decide_eq_true_eq, decide_eq_false_iff_not, Bool.not_eq_true', Bool.not_eq_false', beq_iff_eq, bne_iff_ne, ne_eq, beq_eq_false_iff_ne, bne_eq_false_iff_eq, Int.not_lt, Int.not_le, Nat.not_lt, Nat.not_le, Int.ofNat_lt, Int.ofNat_le, Bool.not_eq_eq_eq_not, Bool.not_true, Bool.not_false] at hc3
        refine SCode.skip ?_
        show SCode _ _ _ _
        refine SCode.seq ?_
        refine SCode.block ?_
        refine SCode.seqR ?_
        refine SOps.indexM (k) rfl rfl sliceB_22_43_2 (by first | omega | (simp only [lenB] <;> omega)) (by first | omega | (simp only [lenB] <;> omega)) ?_
        refine SOps.loadPinA rfl aggB_43_2 (Nat.le_of_ble_eq_true rfl) ?_
        refine SOps.alloc (sz := 2) zeroIs_43 (fun b0 hb_0 => ?_)
        refine SOps.storeAM 0 rfl rfl aggB_43_2 rfl ?_
        refine SOps.freezeRef (t := 7) 0 0 rfl rfl rfl rfl rfl ?_
        refine SOps.nil ?_
        refine SCode.seqR ?_
        have hkl : k < l.length := by omega
        have hpk := hbn.pos _ (List.getElem_mem hkl)
        have hwk := hbn.wlen _ (List.getElem_mem hkl)
        have hsk := smA_step (w := w) hkl
        refine SOps.assign rfl ?_
        refine SOps.nil ?_
        refine SCode.seq ?_
        refine SCode.seqR ?_
        refine SOps.fieldPin rfl fieldB_43_1_1 ?_
        refine SOps.loadPin rfl flatB_41 ?_
        refine SOps.lenM rfl sliceB_41_3_1 ?_
        refine SOps.move rfl ?_
        refine SOps.nil ?_
        refine SCode.block ?_
        refine SCode.loop3 (fun (i : Nat) (f2 : Bool) (at_ : Int) => (⟨88, [(0, DBxs l), (1, .v (.int .i64 w)), (5, .v (.bool f2)), (7, .ipin (encBx (l[k]))), (8, .v (.int .i64 at_)), (26, DBxs l), (27, .v (.int .i64 (l.length : Int))), (28, .v (.int .i64 (k : Int))), (33, DInts (l[k]).pts), (34, .v (.int .i64 ((l[k]).pts.length : Int))), (35, .v (.int .i64 (i : Int)))], []⟩ : St)) (fun (i : Nat) (f2 : Bool) (at_ : Int) => i ≤ (l[k]).pts.length ∧ (f2 && smF w (wlen (l[k]).word) at_ ((l[k]).pts.drop i)) = (f && smF w (wlen (l[k]).word) 0 (l[k]).pts) ∧ 0 ≤ at_ ∧ at_ ≤ 200) (fun (i : Nat) (f2 : Bool) (at_ : Int) => (l[k]).pts.length - i) (0) (f) (0) (by exact ⟨Nat.zero_le _, rfl, Int.le_refl _, by omega⟩) (St.Le.of ⟨(by first | rfl | (show some _ = some _; simp)), (by first | rfl | (show some _ = some _; simp)), (by first | rfl | (show some _ = some _; simp)), (by first | rfl | (show some _ = some _; simp)), (by first | rfl | (show some _ = some _; simp)), (by first | rfl | (show some _ = some _; simp)), (by first | rfl | (show some _ = some _; simp)), (by first | rfl | (show some _ = some _; simp)), (by first | rfl | (show some _ = some _; simp)), (by first | rfl | (show some _ = some _; simp)), (by first | rfl | (show some _ = some _; simp)), trivial⟩ rfl (by first | rfl | (simp))) ?_
        rintro i f2 at_ ⟨hi, hfi, hat0, hat1⟩
        refine SCode.fact (isl_len (t := 33) rfl) (fun hB => ?_)
        simp only [List.length_map, lenB] at hB
        refine SCode.seqR ?_
        refine SOps.bin rfl rfl rfl ?_
        refine SOps.nil ?_
        refine SCode.seq ?_
        refine SCode.cond rfl (fun hc4 => ?_) (fun hc4 => ?_)
        · try simp only [decide_eq_true_eq, decide_eq_false_iff_not, Bool.not_eq_true', Bool.not_eq_false', beq_iff_eq, bne_iff_ne, ne_eq, beq_eq_false_iff_ne, bne_eq_false_iff_eq, Int.not_lt, Int.not_le, Nat.not_lt, Nat.not_le, Int.ofNat_lt, Int.ofNat_le, Bool.not_eq_eq_eq_not, Bool.not_true, Bool.not_false] at hc4
          refine SCode.skip ?_
          show SCode _ _ _ _
          refine SCode.seq ?_
          refine SCode.block ?_
          refine SCode.seqR ?_
          refine SOps.indexM (i) rfl rfl sliceB_41_3_1 (by first | omega | (simp only [lenB] <;> omega)) (by first | omega | (simp only [lenB] <;> omega)) ?_
          refine SOps.loadPin rfl flatB_3 ?_
          refine SOps.assign rfl ?_
          refine SOps.nil ?_
          refine SCode.seqR ?_
          have hil : i < (l[k]).pts.length := by omega
          have hqi := hpk _ (List.getElem_mem hil)
          have hsi := smF_step (w := w) (n := (wlen (l[k]).word)) (at_ := at_) hil
          refine SOps.move rfl ?_
          refine SOps.move rfl ?_
          refine SOps.caseB 40 rfl (fun hb5 => ?_) (fun hb5 => ?_)
          · try simp only [decide_eq_true_eq, decide_eq_false_iff_not, Bool.not_eq_true', Bool.not_eq_false', beq_iff_eq, bne_iff_ne, ne_eq, beq_eq_false_iff_ne, bne_eq_false_iff_eq, Int.not_lt, Int.not_le, Nat.not_lt, Nat.not_le, Int.ofNat_lt, Int.ofNat_le, Bool.not_eq_eq_eq_not, Bool.not_true, Bool.not_false] at hb5
            refine SOps.move rfl ?_
            refine SOps.move rfl ?_
            refine SOps.subI rfl rfl (by first | omega | (simp only [lenB] <;> omega)) (by first | omega | (simp only [lenB] <;> omega)) ?_
            refine SOps.addI rfl rfl (by first | omega | (simp only [lenB] <;> omega)) (by first | omega | (simp only [lenB] <;> omega)) ?_
            refine SOps.move rfl ?_
            refine SOps.bin rfl rfl rfl ?_
            refine SOps.pick rfl rfl ?_
            refine SOps.assign rfl ?_
            refine SOps.nil ?_
            refine SCode.region ?_
            refine SOps.move rfl ?_
            refine SOps.assign rfl ?_
            refine SOps.nil ?_
            show SCode _ _ _ _
            refine SCode.region ?_
            refine SOps.addI rfl rfl (by first | omega | (simp only [lenB] <;> omega)) (by first | omega | (simp only [lenB] <;> omega)) ?_
            refine SOps.move rfl ?_
            refine SOps.nil ?_
            exact ⟨i + 1, _, (l[k]).pts[i], ⟨by omega, by first | (rw [← hfi, hsi, (by assumption : f2 = true), Bool.true_and]; done) | (rw [← hfi, (by assumption : f2 = false), Bool.false_and, Bool.false_and]), by omega, by omega⟩, by omega, St.Le.of ⟨rfl, rfl, rfl, rfl, rfl, rfl, rfl, rfl, rfl, rfl, rfl, trivial⟩⟩
          · try simp only [decide_eq_true_eq, decide_eq_false_iff_not, Bool.not_eq_true', Bool.not_eq_false', beq_iff_eq, bne_iff_ne, ne_eq, beq_eq_false_iff_ne, bne_eq_false_iff_eq, Int.not_lt, Int.not_le, Nat.not_lt, Nat.not_le, Int.ofNat_lt, Int.ofNat_le, Bool.not_eq_eq_eq_not, Bool.not_true, Bool.not_false] at hb5
            refine SOps.skip rfl ?_
            refine SOps.skip rfl ?_
            refine SOps.skip rfl ?_
            refine SOps.skip rfl ?_
            refine SOps.skip rfl ?_
            refine SOps.skip rfl ?_
            refine SOps.pick rfl rfl ?_
            refine SOps.assign rfl ?_
            refine SOps.nil ?_
            refine SCode.region ?_
            refine SOps.move rfl ?_
            refine SOps.assign rfl ?_
            refine SOps.nil ?_
            show SCode _ _ _ _
            refine SCode.region ?_
            refine SOps.addI rfl rfl (by first | omega | (simp only [lenB] <;> omega)) (by first | omega | (simp only [lenB] <;> omega)) ?_
            refine SOps.move rfl ?_
            refine SOps.nil ?_
            exact ⟨i + 1, _, (l[k]).pts[i], ⟨by omega, by first | (rw [← hfi, hsi, (by assumption : f2 = true), Bool.true_and]; done) | (rw [← hfi, (by assumption : f2 = false), Bool.false_and, Bool.false_and]), by omega, by omega⟩, by omega, St.Le.of ⟨rfl, rfl, rfl, rfl, rfl, rfl, rfl, rfl, rfl, rfl, rfl, trivial⟩⟩
        · try simp only [decide_eq_true_eq, decide_eq_false_iff_not, Bool.not_eq_true', Bool.not_eq_false', beq_iff_eq, bne_iff_ne, ne_eq, beq_eq_false_iff_ne, bne_eq_false_iff_eq, Int.not_lt, Int.not_le, Nat.not_lt, Nat.not_le, Int.ofNat_lt, Int.ofNat_le, Bool.not_eq_eq_eq_not, Bool.not_true, Bool.not_false] at hc4
          refine SCode.exit ?_
          show SCode _ _ _ _
          refine SCode.region ?_
          rw [smF_end (show (l[k]).pts.length ≤ i by omega)] at hfi
          refine SOps.move rfl ?_
          refine SOps.move rfl ?_
          refine SOps.caseB 51 rfl (fun hb6 => ?_) (fun hb6 => ?_)
          · try simp only [decide_eq_true_eq, decide_eq_false_iff_not, Bool.not_eq_true', Bool.not_eq_false', beq_iff_eq, bne_iff_ne, ne_eq, beq_eq_false_iff_ne, bne_eq_false_iff_eq, Int.not_lt, Int.not_le, Nat.not_lt, Nat.not_le, Int.ofNat_lt, Int.ofNat_le, Bool.not_eq_eq_eq_not, Bool.not_true, Bool.not_false] at hb6
            refine SOps.fieldPin rfl fieldB_43_0_0 ?_
            refine SOps.loadPin rfl flatB_9 ?_
            refine SOps.callP (lRunes _) rfl ?_
            rintro _ rfl
            refine SOps.move rfl ?_
            refine SOps.subI rfl rfl (by first | omega | (simp only [lenB] <;> omega)) (by first | omega | (simp only [lenB] <;> omega)) ?_
            refine SOps.move rfl ?_
            refine SOps.bin rfl rfl rfl ?_
            refine SOps.pick rfl rfl ?_
            refine SOps.assign rfl ?_
            refine SOps.nil ?_
            show SCode _ _ _ _
            refine SCode.region ?_
            refine SOps.addI rfl rfl (by first | omega | (simp only [lenB] <;> omega)) (by first | omega | (simp only [lenB] <;> omega)) ?_
            refine SOps.move rfl ?_
            refine SOps.nil ?_
            exact ⟨k + 1, _, ⟨by omega, by first | (rw [← hfk, hsk, ← Bool.and_assoc, ← hfi, (by assumption : f2 = true), Bool.true_and]; done) | (rw [← hfk, hsk, ← Bool.and_assoc, ← hfi, (by assumption : f2 = false)]; simp)⟩, by omega, St.Le.of ⟨rfl, rfl, rfl, rfl, rfl, rfl, trivial⟩⟩
          · try simp only [decide_eq_true_eq, decide_eq_false_iff_not, Bool.not_eq_true', Bool.not_eq_false', beq_iff_eq, bne_iff_ne, ne_eq, beq_eq_false_iff_ne, bne_eq_false_iff_eq, Int.not_lt, Int.not_le, Nat.not_lt, Nat.not_le, Int.ofNat_lt, Int.ofNat_le, Bool.not_eq_eq_eq_not, Bool.not_true, Bool.not_false] at hb6
            refine SOps.skip rfl ?_
            refine SOps.skip rfl ?_
            refine SOps.skip rfl ?_
            refine SOps.skip rfl ?_
            refine SOps.skip rfl ?_
            refine SOps.skip rfl ?_
            refine SOps.skip rfl ?_
            refine SOps.pick rfl rfl ?_
            refine SOps.assign rfl ?_
            refine SOps.nil ?_
            show SCode _ _ _ _
            refine SCode.region ?_
            refine SOps.addI rfl rfl (by first | omega | (simp only [lenB] <;> omega)) (by first | omega | (simp only [lenB] <;> omega)) ?_
            refine SOps.move rfl ?_
            refine SOps.nil ?_
            exact ⟨k + 1, _, ⟨by omega, by first | (rw [← hfk, hsk, ← Bool.and_assoc, ← hfi, (by assumption : f2 = true), Bool.true_and]; done) | (rw [← hfk, hsk, ← Bool.and_assoc, ← hfi, (by assumption : f2 = false)]; simp)⟩, by omega, St.Le.of ⟨rfl, rfl, rfl, rfl, rfl, rfl, trivial⟩⟩
      · try simp only [decide_eq_true_eq, decide_eq_false_iff_not, Bool.not_eq_true', Bool.not_eq_false', beq_iff_eq, bne_iff_ne, ne_eq, beq_eq_false_iff_ne, bne_eq_false_iff_eq, Int.not_lt, Int.not_le, Nat.not_lt, Nat.not_le, Int.ofNat_lt, Int.ofNat_le, Bool.not_eq_eq_eq_not, Bool.not_true, Bool.not_false] at hc3
        have hfe : f = smA w l := by rw [← hfk, List.drop_eq_nil_of_le (by omega)]; exact (Bool.and_true f).symm
        refine SCode.exit ?_
        show SCode _ _ _ _
        refine SCode.seqR ?_
        refine SOps.move rfl ?_
        refine SOps.move rfl ?_
        refine SOps.callP (sBreaks hV _ _ hbx) rfl ?_
        rintro _ rfl
        refine SOps.move rfl ?_
        refine SOps.extract rfl rfl ?_
        refine SOps.extract rfl rfl ?_
        refine SOps.assign rfl ?_
        refine SOps.assign rfl ?_
        refine SOps.nil ?_
        refine SCode.seqR ?_
        refine SOps.move rfl ?_
        refine SOps.move rfl ?_
        refine SOps.callP (sLines hV _ _ _ hbx) rfl ?_
        rintro _ rfl
        refine SOps.move rfl ?_
        refine SOps.extract rfl rfl ?_
        refine SOps.extract rfl rfl ?_
        refine SOps.extract rfl rfl ?_
        refine SOps.assign rfl ?_
        refine SOps.assign rfl ?_
        refine SOps.assign rfl ?_
        refine SOps.nil ?_
        refine SCode.seqR ?_
        refine SOps.move rfl ?_
        refine SOps.bin rfl rfl rfl ?_
        refine SOps.reSlot (t := 75) rfl (show _ = DV.v (.bool true) from congrArg (fun b => DV.v (.bool b)) (beq_iff_eq.2 f1)) ?_
        refine SOps.move rfl ?_
        refine SOps.move rfl ?_
        refine SOps.bin rfl rfl rfl ?_
        refine SOps.move rfl ?_
        refine SOps.boolEq rfl rfl boolTy_4 ?_
        refine SOps.reSlot (t := 80) rfl (show _ = DV.v (.bool true) from congrArg (fun b => DV.v (.bool b)) (beq_iff_eq.2 (by rw [hfe, Bool.eq_iff_iff]; simp only [decide_eq_true_eq]; exact f2))) ?_
        refine SOps.pick rfl rfl ?_
        refine SOps.move rfl ?_
        refine SOps.move rfl ?_
        refine SOps.bin rfl rfl rfl ?_
        refine SOps.move rfl ?_
        refine SOps.boolEq rfl rfl boolTy_4 ?_
        refine SOps.reSlot (t := 86) rfl (show _ = DV.v (.bool true) from congrArg (fun b => DV.v (.bool b)) (beq_iff_eq.2 (by rw [hfe, Bool.eq_iff_iff]; simp only [beq_iff_eq]; exact f3))) ?_
        refine SOps.pick rfl rfl ?_
        refine SOps.assign rfl ?_
        refine SOps.nil ?_
        refine SCode.ret ?_
        exact ⟨_, Res.one (.tmp rfl), rfl, rfl⟩
end Go.GH
