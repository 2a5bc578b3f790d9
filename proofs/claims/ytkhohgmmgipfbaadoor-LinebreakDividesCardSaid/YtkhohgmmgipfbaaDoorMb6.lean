/-
  Part 6 of the texts behind the walks of this claim: an own layer over the kit's wp, plain laws, and walks. No conditions.
-/
import Derived.Test.YtkhohgmmgipfbaaDoorMb5
set_option linter.unusedVariables false
set_option linter.unusedSimpArgs false
set_option linter.deprecated false
namespace Go.GH
open Go Go.Lib
/-- What is joined up to a break point. -/
def JP (l : List Bx) (p : Nat × Int) : List ByteArray := (l.take p.1).map (·.word) ++ if 0 < p.2 then [encs ((wAt l p.1).take p.2.toNat)] else []
/-- The words of a line, joined to what stands before it. -/
theorem joinK_false {J : List ByteArray} {ws : List ByteArray} : ∀ k, k ≤ ws.length → joinK J false ws k = J ++ ws.take k
  | 0, _ => by rw [List.take_zero, List.append_nil]; rfl
  | k + 1, hk => by
    have hkl : k < ws.length := by omega
    rw [joinK, joinK_false k (by omega), Bool.and_false, addW_app (.inl rfl), getD_lt hkl, List.take_add_one, List.getElem?_eq_getElem hkl, List.append_assoc]
    rfl
theorem joinK_true {J : List ByteArray} {w : ByteArray} {ws : List ByteArray} (hJ : 0 < J.length) : ∀ k, k ≤ ws.length → joinK J true (w :: ws) (k + 1) = J.set (J.length - 1) (lastW J ++ w) ++ ws.take k
  | 0, _ => by
    rw [List.take_zero, List.append_nil, joinK, show (decide (0 = 0) && true) = true from rfl, List.getD_cons_zero]
    exact addW_set hJ
  | k + 1, hk => by
    have hkl : k < ws.length := by omega
    rw [joinK, joinK_true hJ k (by omega), show (decide (k + 1 = 0) && true) = false from rfl, addW_app (.inl rfl), List.getD_cons_succ, getD_lt hkl, List.take_add_one (i := k), List.getElem?_eq_getElem hkl, List.append_assoc]
    rfl
theorem joinF {J ws : List ByteArray} : joinK J false ws ws.length = J ++ ws := by rw [joinK_false _ (Nat.le_refl _), List.take_length]
theorem joinT {J : List ByteArray} {w : ByteArray} {ws : List ByteArray} (hJ : 0 < J.length) : joinK J true (w :: ws) (w :: ws).length = J.set (J.length - 1) (lastW J ++ w) ++ ws := by
  rw [List.length_cons, joinK_true hJ _ (Nat.le_refl _), List.take_length]
theorem prp_word {l : List Bx} (hb : boxesB l = true) {j : Nat} (hj : j < l.length) : (l[j]).word = encs (wAt l j) := by
  rw [wAt_lt hj]; exact ((bnds_of hb).cor _ (List.getElem_mem hj)).symm
theorem map_wsA {l : List Bx} (hb : boxesB l = true) (a b : Nat) : wsA l a b = ((l.take b).drop a).map (·.word) := by
  unfold wsA
  exact List.map_congr_left (fun x hx => (bnds_of hb).cor x (List.mem_of_mem_take (List.mem_of_mem_drop hx)))
theorem take_split {l : List Bx} {a b : Nat} (h : a ≤ b) : (l.take b).map (·.word) = (l.take a).map (·.word) ++ ((l.take b).drop a).map (·.word) := by
  rw [← List.map_append]
  congr 1
  have : l.take a = (l.take b).take a := by rw [List.take_take, Nat.min_eq_left h]
  rw [this, List.take_append_drop]
theorem encs_cut {rs : List Int} {m : Nat} : encs (rs.take m) ++ encs (rs.drop m) = encs rs := by rw [← encs_append, List.take_append_drop]
theorem set_app_one {J : List ByteArray} {x y : ByteArray} : (J ++ [x]).set ((J ++ [x]).length - 1) y = J ++ [y] := by
  rw [List.length_append, List.length_singleton, Nat.add_sub_cancel, List.set_append, if_neg (Nat.lt_irrefl _), Nat.sub_self]; rfl
/-- The words between two points lead from what is joined at the one to what is joined at the other. -/
theorem join_pc {l : List Bx} (hb : boxesB l = true) {a b : Nat × Int} (ha : PtOK l a) (hbl : b.1 ≤ l.length) (hab : ltP a b) : joinK (JP l a) (decide (0 < a.2)) (pcW l a b) (pcW l a b).length = JP l b := by
  obtain ⟨a1, a2, a3⟩ := ha
  by_cases h0 : 0 < a.2
  · rw [decide_eq_true h0]
    have hJ : JP l a = (l.take a.1).map (·.word) ++ [encs ((wAt l a.1).take a.2.toNat)] := by unfold JP; rw [if_pos h0]
    have hlen : 0 < (JP l a).length := by rw [hJ, List.length_append]; simp
    have hlast : lastW (JP l a) = encs ((wAt l a.1).take a.2.toNat) := by rw [hJ, lastW_app]
    rcases hab with h | ⟨h, h2⟩
    · have e : pcW l a b = encs ((wAt l a.1).drop a.2.toNat) :: (wsA l (a.1 + 1) b.1 ++ if 0 < b.2 then [encs ((wAt l b.1).take b.2.toNat)] else []) := by unfold pcW; rw [if_neg (by omega)]
      rw [e, joinT hlen, hlast, hJ, set_app_one, encs_cut, ← prp_word hb a1, map_wsA hb]
      unfold JP
      rw [take_split (show a.1 + 1 ≤ b.1 by omega), List.take_add_one (i := a.1), List.getElem?_eq_getElem a1, List.map_append]
      simp
    · have e : pcW l a b = [encs (((wAt l a.1).take b.2.toNat).drop a.2.toNat)] := by unfold pcW; rw [if_pos h]
      have hcut : encs ((wAt l a.1).take a.2.toNat) ++ encs (((wAt l a.1).take b.2.toNat).drop a.2.toNat) = encs ((wAt l a.1).take b.2.toNat) := by
        rw [← encs_append]
        congr 1
        have : (wAt l a.1).take a.2.toNat = ((wAt l a.1).take b.2.toNat).take a.2.toNat := by rw [List.take_take, Nat.min_eq_left (by omega)]
        rw [this, List.take_append_drop]
      rw [e, joinT hlen, hlast, hJ, set_app_one, hcut, List.append_nil]
      unfold JP
      rw [if_pos (by omega), h]
  · rw [decide_eq_false h0, joinF]
    have hz : a.2.toNat = 0 := by omega
    have hJ : JP l a = (l.take a.1).map (·.word) := by unfold JP; rw [if_neg h0, List.append_nil]
    rw [hJ]
    unfold pcW JP
    rcases hab with h | ⟨h, h2⟩
    · rw [if_neg (show ¬ a.1 = b.1 by omega), hz, List.drop_zero, ← prp_word hb a1, map_wsA hb, take_split (show a.1 + 1 ≤ b.1 by omega), List.take_add_one (i := a.1), List.getElem?_eq_getElem a1, List.map_append]
      simp
    · rw [if_pos h, hz, List.drop_zero, if_pos (show 0 < b.2 by omega), h]
/-- Words that lead to the same are the same. -/
theorem prp_cancel {x y z : ByteArray} (hx : Prp x) (hy : Prp y) (hz : Prp z) (h : x ++ y = x ++ z) : y = z := by
  have h1 := (prp_app hx hy).1
  have h2 := (prp_app hx hz).1
  rw [h, h2] at h1
  have h3 := List.append_cancel_left h1
  have : encs (runes z) = encs (runes y) := by rw [h3]
  rw [hy, hz] at this
  exact this.symm
theorem join_inj {J : List ByteArray} {h : Bool} (hJ : h = true → 0 < J.length ∧ Prp (lastW J)) {us vs : List ByteArray} (hu : us ≠ []) (hv : vs ≠ []) (pu : ∀ x ∈ us, Prp x) (pv : ∀ x ∈ vs, Prp x) (e : joinK J h us us.length = joinK J h vs vs.length) : us = vs := by
  cases h with
  | false =>
    rw [joinF, joinF] at e
    exact List.append_cancel_left e
  | true =>
    obtain ⟨h1, h2⟩ := hJ rfl
    obtain ⟨u, us, rfl⟩ := List.exists_cons_of_ne_nil hu
    obtain ⟨v, vs, rfl⟩ := List.exists_cons_of_ne_nil hv
    rw [joinT h1, joinT h1] at e
    have hl : (J.set (J.length - 1) (lastW J ++ u)).length = (J.set (J.length - 1) (lastW J ++ v)).length := by rw [List.length_set, List.length_set]
    obtain ⟨e1, e2⟩ := List.append_inj e hl
    have e3 := congrArg lastW e1
    rw [lastW_set h1, lastW_set h1] at e3
    rw [e2, prp_cancel h2 (pu u (List.mem_cons_self ..)) (pv v (List.mem_cons_self ..)) e3]
theorem JP_len {l : List Bx} {p : Nat × Int} (h : p.1 ≤ l.length) : (JP l p).length = p.1 + if 0 < p.2 then 1 else 0 := by
  unfold JP
  rw [List.length_append, List.length_map, List.length_take, Nat.min_eq_left h]
  split <;> rfl
theorem JP_last {l : List Bx} {p : Nat × Int} (h : 0 < p.2) (hl : p.2 ≤ ((wAt l p.1).length : Int)) : Prp (lastW (JP l p)) ∧ lastW (JP l p) = encs ((wAt l p.1).take p.2.toNat) ∧ wlen (lastW (JP l p)) = p.2.toNat := by
  have e : lastW (JP l p) = encs ((wAt l p.1).take p.2.toNat) := by unfold JP; rw [if_pos h, lastW_app]
  have hv : ∀ r ∈ (wAt l p.1).take p.2.toNat, Utf8.valid r = true := fun r hr => wAt_valid (List.mem_of_mem_take hr)
  rw [e]
  exact ⟨prp_encs hv, rfl, by rw [wlen_encs hv, List.length_take]; omega⟩
theorem ptsF_mem {l : List Bx} : ∀ k, k ≤ l.length → ∀ p, p ∈ ptsF (l.take k) ↔ p.1 < k ∧ (p.2 = 0 ∨ p.2 ∈ ptsAt l p.1)
  | 0, _, p => by rw [List.take_zero]; simp [ptsF]
  | k + 1, hk, p => by
    have hkl : k < l.length := by omega
    have ih := ptsF_mem k (by omega) p (l := l)
    have e : ptsAt l k = (l[k]).pts := by unfold ptsAt; rw [getD_lt hkl]
    rw [ptsF_take hkl, List.mem_append, ih, List.mem_cons, List.mem_map]
    obtain ⟨p1, p2⟩ := p
    constructor
    · rintro (⟨h1, h2⟩ | h | ⟨q, hq, h⟩)
      · exact ⟨by omega, h2⟩
      · simp only [Prod.mk.injEq] at h
        exact ⟨by show p1 < k + 1; omega, .inl h.2⟩
      · simp only [Prod.mk.injEq] at h
        obtain ⟨rfl, rfl⟩ := h
        exact ⟨Nat.lt_succ_self _, .inr (by rw [e]; exact hq)⟩
    · rintro ⟨h1, h2⟩
      rcases Nat.lt_or_ge p1 k with h3 | h3
      · exact .inl ⟨h3, h2⟩
      · have h4 : p1 = k := by dsimp only at h1; omega
        subst h4
        rcases h2 with h2 | h2
        · exact .inr (.inl (by dsimp only at h2; rw [h2]))
        · rw [e] at h2
          exact .inr (.inr ⟨p2, h2, rfl⟩)
theorem points_mem {l : List Bx} {p : Nat × Int} : p ∈ pointsL l ↔ (p.1 < l.length ∧ (p.2 = 0 ∨ p.2 ∈ ptsAt l p.1)) ∨ p = (l.length, 0) := by
  have h := ptsF_mem l.length (Nat.le_refl _) p (l := l)
  rw [List.take_length] at h
  unfold pointsL
  rw [List.mem_append, h, List.mem_singleton]
theorem pts_mem {l : List Bx} {p : Nat × Int} (h : p ∈ pointsL l) (h1 : p.1 < l.length) (h2 : 0 < p.2) : p.2 ∈ ptsAt l p.1 := by
  rcases points_mem.1 h with ⟨_, h3 | h3⟩ | h3
  · omega
  · exact h3
  · rw [h3] at h2; simp at h2
/-! along a way -/
theorem lnAt_way {l : List Bx} : ∀ {a : Nat} {ks : List Nat} {i : Nat}, i < ks.length → lnAt (linesOf l a ks) i = lineP l (endK a (ks.take i)) (ks.getD i 0)
  | a, k :: ks, 0, _ => rfl
  | a, k :: ks, i + 1, h => by
    have := lnAt_way (l := l) (a := k) (ks := ks) (i := i) (by simpa using h)
    show lnAt (linesOf l k ks) i = _
    rw [this]; rfl
theorem endK_take (a : Nat) (ks : List Nat) {i : Nat} (h : i < ks.length) : endK a (ks.take (i + 1)) = ks.getD i 0 := by
  rw [List.take_add_one, List.getElem?_eq_getElem h, getD_lt h]
  exact endK_snoc _ _ _
theorem Fit.at {l : List Bx} {w : Int} : ∀ {a z : Nat} {ks : List Nat}, Fit l w a ks z → ∀ i, i < ks.length → endK a (ks.take i) < ks.getD i 0 ∧ ks.getD i 0 < ptN l ∧ lenP l (endK a (ks.take i)) (ks.getD i 0) ≤ w ∧ ks.getD i 0 ≤ z ∧ (i + 1 < ks.length → ks.getD i 0 < z)
  | a, z, k :: ks, ⟨h1, h2, h3, h4⟩, 0, _ => ⟨h1, h2, h3, h4.le, fun h => by
      show k < z
      cases ks with
      | nil => simp at h
      | cons q qs => have := h4.1; have := h4.2.2.2.le; omega⟩
  | a, z, k :: ks, ⟨h1, h2, h3, h4⟩, i + 1, hi => by
    have := h4.at i (by simpa using hi)
    exact ⟨this.1, this.2.1, this.2.2.1, this.2.2.2.1, fun h => this.2.2.2.2 (by simpa using h)⟩
theorem endK_all {l : List Bx} {w : Int} : ∀ {a z : Nat} {ks : List Nat}, Fit l w a ks z → endK a ks = z
  | _, _, [], h => h
  | _, _, k :: ks, ⟨_, _, _, h⟩ => endK_all (ks := ks) h
theorem JP_zero (l : List Bx) : JP l (ptQ l 0) = [] := by
  have e : ptQ l 0 = (0, 0) := by
    rw [ptQ_lt (ptN_pos l)]
    cases l with
    | nil => rfl
    | cons b l => rfl
  rw [e]; rfl
theorem JP_end (l : List Bx) : JP l (ptQ l (ptN l - 1)) = l.map (·.word) := by
  rw [ptQ_last]
  unfold JP
  rw [List.take_length]
  simp
theorem ptQ_le {l : List Bx} (hb : boxesB l = true) {i : Nat} (hi : i < ptN l) : (ptQ l i).1 ≤ l.length := by
  rcases ptQ_ok hb hi with h | h
  · exact Nat.le_of_lt h.1
  · rw [h]; exact Nat.le_refl _
theorem prevH_way {l : List Bx} {ks : List Nat} {w : Int} {z : Nat} (hf : Fit l w 0 ks z) {i : Nat} (hi : i ≤ ks.length) : prevH (linesOf l 0 ks) i = decide (0 < (ptQ l (endK 0 (ks.take i))).2) := by
  have hpos := ptN_pos l
  cases i with
  | zero =>
    show false = decide (0 < (ptQ l 0).2)
    have e : (ptQ l 0).2 = 0 := by
      rw [ptQ_lt hpos]
      cases l with
      | nil => rfl
      | cons b l => rfl
    rw [e]; rfl
  | succ i =>
    unfold prevH
    rw [decide_eq_true (show 0 < i + 1 by omega), Bool.true_and, Nat.add_sub_cancel, lnAt_way (by omega), endK_take 0 ks (by omega)]
    have := (colP_eq (hf.at i (by omega)).2.1).2
    exact this
/-- What is joined along a way. -/
theorem join_way {l : List Bx} {w : Int} (hb : boxesB l = true) {ks : List Nat} {z : Nat} (hf : Fit l w 0 ks z) : ∀ i, i ≤ ks.length → joinI (linesOf l 0 ks) i = JP l (ptQ l (endK 0 (ks.take i)))
  | 0, _ => (JP_zero l).symm
  | i + 1, hi => by
    have ih := join_way hb hf i (by omega)
    obtain ⟨f1, f2, _⟩ := hf.at i (by omega)
    rw [joinI, ih, prevH_way hf (by omega), lnAt_way (by omega), (line_words hb f1 f2).1, endK_take 0 ks (by omega)]
    exact join_pc hb (ptQ_small hb (by omega)) (ptQ_le hb f2) (ptQ_ltP hb f1 f2)
theorem way_div {l : List Bx} {w : Int} (hb : boxesB l = true) {ks : List Nat} (hf : Fit l w 0 ks (ptN l - 1)) : divB l (linesOf l 0 ks) w = true := by
  have hlen := linesOf_len l 0 ks
  rw [divB_iff, hlen]
  have hwd : ∀ i, i < (linesOf l 0 ks).length → (lnAt (linesOf l 0 ks) i).words.length ≠ 0 ∧ ∀ x ∈ (lnAt (linesOf l 0 ks) i).words, Prp x := fun i hi => by
    rw [hlen] at hi
    obtain ⟨f1, f2, _⟩ := hf.at i hi
    rw [lnAt_way hi]
    have := line_gd hb f1 f2
    exact ⟨fun e => this.1 (List.length_eq_zero_iff.1 e), fun x hx => (this.2 x hx).prp⟩
  refine ⟨?_, fun i hi => ?_⟩
  · unfold joinL
    rw [hlen, join_way hb hf _ (Nat.le_refl _), List.take_length, endK_all hf, JP_end]
  · obtain ⟨f1, f2, f3, f4, f5⟩ := hf.at i hi
    have hg := line_gd hb f1 f2
    have hbs := beside_all hwd i (by rw [hlen]; exact hi)
    rw [join_way hb hf (i + 1) hi, endK_take 0 ks hi] at hbs
    have hhy : (lnAt (linesOf l 0 ks) i).hyph = decide (0 < (ptQ l (ks.getD i 0)).2) := by
      rw [lnAt_way hi, (line_words hb f1 f2).2]
      exact (colP_eq f2).2
    refine dline_iff.2 ⟨?_, (hwd i (by rw [hlen]; exact hi)).1, fun h => ?_, fun s hs => ?_, fun h => ?_⟩
    · rw [lnAt_way hi, line_len hb f1 f2]; exact f3
    · intro e
      rw [hhy, decide_eq_true_eq] at h
      have h6 : ks.getD i 0 = ptN l - 1 := by
        have h7 := endK_all hf
        have h8 : endK 0 (ks.take (i + 1)) = endK 0 ks := by rw [List.take_of_length_le (by omega)]
        rw [endK_take 0 ks hi] at h8
        omega
      rw [h6, ptQ_last] at h
      simp at h
    · rw [lnAt_way hi] at hs
      have := (hg.2 s hs).word hb
      exact ⟨fun e => this.2 (by rw [e]; rfl), (hg.2 s hs).prp⟩
    · rw [hhy, decide_eq_true_eq] at h
      obtain ⟨b1, b2, b3⟩ := hbs
      have hok : PtOK l (ptQ l (ks.getD i 0)) := by
        rcases ptQ_ok hb f2 with h7 | h7
        · exact h7
        · rw [h7] at h; simp at h
      rw [JP_len (Nat.le_of_lt hok.1), if_pos h] at b1
      have h8 := JP_last h (Int.le_of_lt hok.2.2)
      rw [h8.2.2] at b2
      rw [← b2, show (dvS (linesOf l 0 ks) (i + 1)).1 = (ptQ l (ks.getD i 0)).1 by omega, show ((ptQ l (ks.getD i 0)).2.toNat : Int) = (ptQ l (ks.getD i 0)).2 by omega]
      -- the point lies among the box's
      have hmem : ptQ l (ks.getD i 0) ∈ pointsL l := by rw [ptQ_lt f2]; exact List.getElem_mem _
      exact pts_mem hmem hok.1 h
theorem fit_snoc {l : List Bx} {w : Int} {z k : Nat} (h1 : z < k) (h2 : k < ptN l) (h3 : lenP l z k ≤ w) : ∀ {a : Nat} {ks : List Nat}, Fit l w a ks z → Fit l w a (ks ++ [k]) k
  | a, [], h => by
    obtain rfl : a = z := h
    exact ⟨h1, h2, h3, rfl⟩
  | a, q :: ks, ⟨q1, q2, q3, q4⟩ => ⟨q1, q2, q3, fit_snoc h1 h2 h3 q4⟩
/-- What is joined so far, and what is joined in the end. -/
def Ext (h : Bool) (J L : List ByteArray) : Prop := if h then 0 < J.length ∧ ∃ m, Prp m ∧ L[J.length - 1]? = some (lastW J ++ m) ∧ ∃ t, L = J.dropLast ++ t else ∃ t, L = J ++ t
theorem dropLast_set {J : List ByteArray} {x : ByteArray} (h : 0 < J.length) : (J.set (J.length - 1) x) = J.dropLast ++ [x] := by
  obtain ⟨I, y, rfl⟩ : ∃ I y, J = I ++ [y] := ⟨J.dropLast, J.getLast (List.length_pos_iff.1 h), (List.dropLast_concat_getLast _).symm⟩
  rw [set_app_one, List.dropLast_concat]
theorem ext_back {J L ws : List ByteArray} {h h2 : Bool} (hw : ws ≠ []) (pw : ∀ x ∈ ws, Prp x) (hJ : h = true → 0 < J.length ∧ Prp (lastW J)) (e : Ext h2 (joinK J h ws ws.length) L) : Ext h J L := by
  cases h with
  | false =>
    rw [joinF] at e
    cases h2 with
    | false =>
      obtain ⟨t, ht⟩ := e
      exact ⟨ws ++ t, by rw [ht, List.append_assoc]⟩
    | true =>
      obtain ⟨_, m, _, _, t, ht⟩ := e
      exact ⟨ws.dropLast ++ t, by rw [ht, List.dropLast_append_of_ne_nil hw, List.append_assoc]⟩
  | true =>
    obtain ⟨h1, h3⟩ := hJ rfl
    obtain ⟨w, us, rfl⟩ := List.exists_cons_of_ne_nil hw
    have pw0 := pw w (List.mem_cons_self ..)
    rw [joinT h1, dropLast_set h1] at e
    have hl : (J.dropLast ++ [lastW J ++ w]).length = J.length := by rw [List.length_append, List.length_dropLast, List.length_singleton]; omega
    have hat : (J.dropLast ++ [lastW J ++ w] ++ us)[J.length - 1]? = some (lastW J ++ w) := by
      rw [List.getElem?_append_left (by omega), List.getElem?_append_right (by rw [List.length_dropLast]; exact Nat.le_refl _), List.length_dropLast, Nat.sub_self]; rfl
    have hat2 : ∀ t, (J.dropLast ++ [lastW J ++ w] ++ us ++ t)[J.length - 1]? = some (lastW J ++ w) := fun t => by
      rw [List.getElem?_append_left (by rw [List.length_append]; omega)]; exact hat
    cases h2 with
    | false =>
      obtain ⟨t, ht⟩ := e
      refine ⟨h1, w, pw0, by rw [ht]; exact hat2 t, [lastW J ++ w] ++ us ++ t, by rw [ht]; simp⟩
    | true =>
      obtain ⟨_, m, hm, hL, t, ht⟩ := e
      cases us with
      | nil =>
        rw [List.append_nil] at hL ht
        rw [hl, lastW_app] at hL
        refine ⟨h1, w ++ m, (prp_app pw0 hm).2, by rw [hL, ByteArray.append_assoc], t, by rw [ht, List.dropLast_concat]⟩
      | cons u us =>
        rw [List.dropLast_append_of_ne_nil (by simp)] at ht
        refine ⟨h1, w, pw0, ?_, [lastW J ++ w] ++ (u :: us).dropLast ++ t, by rw [ht]; simp⟩
        rw [ht, List.append_assoc, List.getElem?_append_left (by omega), List.getElem?_append_right (by rw [List.length_dropLast]; exact Nat.le_refl _), List.length_dropLast, Nat.sub_self]; rfl
theorem index_of {l : List Bx} {p : Nat × Int} (h : p ∈ pointsL l) : ∃ i, i < ptN l ∧ ptQ l i = p := by
  obtain ⟨i, hi, e⟩ := List.mem_iff_getElem.1 h
  exact ⟨i, by rw [ptN_eq]; exact hi, by rw [ptQ_lt (by rw [ptN_eq]; exact hi)]; exact e⟩
/-- One line more: where it ends, and what it is. -/
theorem line_of {l : List Bx} {w : Int} (hb : boxesB l = true) {x : Ln} {i : Nat} (hi : i < ptN l) (hne : x.words ≠ []) (hx : ∀ s ∈ x.words, s ≠ ⟨#[]⟩ ∧ Prp s) (hfit : (wlen (textL x) : Int) ≤ w)
    (hext : Ext x.hyph (joinK (JP l (ptQ l i)) (decide (0 < (ptQ l i).2)) x.words x.words.length) (l.map (·.word))) (hh : x.hyph = true → (wlen (lastW (joinK (JP l (ptQ l i)) (decide (0 < (ptQ l i).2)) x.words x.words.length)) : Int) ∈ ptsAt l ((joinK (JP l (ptQ l i)) (decide (0 < (ptQ l i).2)) x.words x.words.length).length - 1)) :
    ∃ k, i < k ∧ k < ptN l ∧ lenP l i k ≤ w ∧ x = lineP l i k ∧ joinK (JP l (ptQ l i)) (decide (0 < (ptQ l i).2)) x.words x.words.length = JP l (ptQ l k) ∧ x.hyph = decide (0 < (ptQ l k).2) := by
  have hpx : ∀ s ∈ x.words, Prp s := fun s hs => (hx s hs).2
  obtain ⟨J, hJ⟩ : ∃ J, J = joinK (JP l (ptQ l i)) (decide (0 < (ptQ l i).2)) x.words x.words.length := ⟨_, rfl⟩
  rw [← hJ] at hext hh ⊢
  have hile := ptQ_le hb hi
  have hJi : (decide (0 < (ptQ l i).2)) = true → 0 < (JP l (ptQ l i)).length ∧ Prp (lastW (JP l (ptQ l i))) := fun h => by
    rw [decide_eq_true_eq] at h
    have hok : PtOK l (ptQ l i) := by
      rcases ptQ_ok hb hi with h7 | h7
      · exact h7
      · rw [h7] at h; simp at h
    exact ⟨by rw [JP_len hile, if_pos h]; omega, (JP_last h (Int.le_of_lt hok.2.2)).1⟩
  -- how long it is
  have hlenJ : (JP l (ptQ l i)).length + (if 0 < (ptQ l i).2 then 0 else 1) ≤ J.length := by
    rw [hJ]
    by_cases h : 0 < (ptQ l i).2
    · rw [if_pos h]; exact joinK_len_mono _ _ _ _
    · rw [if_neg h, decide_eq_false h, joinF, List.length_append]
      have := List.length_pos_iff.2 hne
      omega
  rw [JP_len hile] at hlenJ
  have hJ1 : (ptQ l i).1 + 1 ≤ J.length := by split at hlenJ <;> omega
  -- the point where it ends
  have hpt : ∃ q, q ∈ pointsL l ∧ J = JP l q ∧ x.hyph = decide (0 < q.2) ∧ (ltP (ptQ l i) q) := by
    cases hhy : x.hyph with
    | false =>
      rw [hhy] at hext
      obtain ⟨t, ht⟩ := hext
      have hle : J.length ≤ l.length := by
        have := congrArg List.length ht
        rw [List.length_map, List.length_append] at this; omega
      refine ⟨(J.length, 0), points_mem.2 ?_, ?_, rfl, .inl (by show _ < J.length; omega)⟩
      · rcases Nat.lt_or_ge J.length l.length with h | h
        · exact .inl ⟨h, .inl rfl⟩
        · exact .inr (by simp only [Prod.mk.injEq, and_true]; omega)
      · unfold JP
        rw [if_neg (Int.lt_irrefl _), List.append_nil, List.map_take, ht, List.take_left]
    | true =>
      rw [hhy] at hext
      obtain ⟨h1, m, hm, hL, t, ht⟩ := hext
      have hle : J.length - 1 < l.length := by
        have := (List.getElem?_eq_some_iff.1 hL).1
        rwa [List.length_map] at this
      have hword : encs (wAt l (J.length - 1)) = lastW J ++ m := by
        rw [List.getElem?_map, List.getElem?_eq_getElem hle] at hL
        have := Option.some.inj hL
        rw [← this]
        exact (prp_word hb hle).symm
      have hmem := hh hhy
      have hat := (boxB_pts ((boxesB_iff.1 hb).2 _ (List.getElem_mem hle))).1
      have hpe : ptsAt l (J.length - 1) = (l[J.length - 1]).pts := by unfold ptsAt; rw [getD_lt hle]
      have hpos : 1 ≤ (wlen (lastW J) : Int) := by rw [hpe] at hmem; exact (hat _ hmem).1
      have hprpJ : Prp (lastW J) := by
        rw [hJ]
        by_cases h : 0 < (ptQ l i).2
        · obtain ⟨k1, k2⟩ := hJi (decide_eq_true h)
          rw [decide_eq_true h]
          obtain ⟨u, us, hu⟩ := List.exists_cons_of_ne_nil hne
          rw [hu] at hpx ⊢
          rw [joinT k1]
          cases us with
          | nil => rw [List.append_nil, lastW_set k1]; exact (prp_app k2 (hpx u (List.mem_cons_self ..))).2
          | cons v vs =>
            obtain ⟨I, y, hy⟩ : ∃ I y, v :: vs = I ++ [y] := ⟨(v :: vs).dropLast, (v :: vs).getLast (by simp), (List.dropLast_concat_getLast _).symm⟩
            rw [hy, ← List.append_assoc, lastW_app]
            exact hpx y (by rw [hy]; simp)
        · rw [decide_eq_false h, joinF]
          obtain ⟨I, y, hy⟩ : ∃ I y, x.words = I ++ [y] := ⟨x.words.dropLast, x.words.getLast hne, (List.dropLast_concat_getLast _).symm⟩
          rw [hy, ← List.append_assoc, lastW_app]
          exact hpx y (by rw [hy]; simp)
      have hlast : lastW J = encs ((wAt l (J.length - 1)).take (wlen (lastW J))) := by
        have h5 := (prp_app hprpJ hm).1
        rw [← hword, runes_wAt] at h5
        have h6 : (wAt l (J.length - 1)).take (wlen (lastW J)) = runes (lastW J) := by rw [h5]; unfold wlen; exact List.take_left
        rw [h6]; exact hprpJ.symm
      have hJe : J = JP l (J.length - 1, (wlen (lastW J) : Int)) := by
        unfold JP
        rw [if_pos (by show (0 : Int) < _; omega), Int.toNat_natCast]
        show J = (l.take (J.length - 1)).map _ ++ [encs ((wAt l (J.length - 1)).take (wlen (lastW J)))]
        rw [← hlast, List.map_take, ht]
        have h8 : J.dropLast.length = J.length - 1 := List.length_dropLast ..
        have h9 : (J.dropLast ++ t).take (J.length - 1) = J.dropLast := by rw [← h8, List.take_left]
        rw [h9]
        have := dropLast_set (J := J) (x := lastW J) h1
        rw [← this]
        have h11 : lastW J = J[J.length - 1]'(by omega) := getD_lt (by omega)
        rw [h11, List.set_getElem_self]
      refine ⟨(J.length - 1, (wlen (lastW J) : Int)), points_mem.2 (.inl ⟨hle, .inr hmem⟩), hJe, (decide_eq_true (by show (0 : Int) < _; omega)).symm, ?_⟩
      rcases Nat.lt_or_ge (ptQ l i).1 (J.length - 1) with h9 | h9
      · exact .inl h9
      · have h10 : (ptQ l i).1 = J.length - 1 := by omega
        refine .inr ⟨h10, ?_⟩
        show (ptQ l i).2 < (wlen (lastW J) : Int)
        by_cases h : 0 < (ptQ l i).2
        · -- the same word goes on
          obtain ⟨k1, k2⟩ := hJi (decide_eq_true h)
          have hok : PtOK l (ptQ l i) := by
            rcases ptQ_ok hb hi with h7 | h7
            · exact h7
            · rw [h7] at h; simp at h
          obtain ⟨u, us, hu⟩ := List.exists_cons_of_ne_nil hne
          have hJl : J.length = (JP l (ptQ l i)).length + us.length := by
            rw [hJ, decide_eq_true h, hu, joinT k1, List.length_append, List.length_set]
          rw [JP_len hile, if_pos h] at hJl
          have hus : us = [] := List.length_eq_zero_iff.1 (by omega)
          subst hus
          have hlu : lastW J = lastW (JP l (ptQ l i)) ++ u := by
            rw [hJ, decide_eq_true h, hu, joinT k1, List.append_nil, lastW_set k1]
          have hxu := hx u (by rw [hu]; exact List.mem_cons_self ..)
          have h12 := (JP_last h (Int.le_of_lt hok.2.2)).2.2
          rw [hlu, wlen_app k2 hxu.2, h12]
          have hu0 : wlen u ≠ 0 := by
            intro e
            have e2 : runes u = [] := List.length_eq_zero_iff.1 e
            have e3 := hxu.2
            unfold Prp at e3
            rw [e2] at e3
            exact hxu.1 e3.symm
          omega
        · omega
  obtain ⟨q, q1, q2, q3, q4⟩ := hpt
  obtain ⟨k, hk, hkq⟩ := index_of q1
  subst hkq
  have hik : i < k := by
    rcases Nat.lt_trichotomy i k with h | h | h
    · exact h
    · subst h
      rcases q4 with h2 | ⟨_, h2⟩
      · exact absurd h2 (Nat.lt_irrefl _)
      · exact absurd h2 (Int.lt_irrefl _)
    · have h2 := ptQ_ltP hb h hi
      unfold ltP at q4 h2
      omega
  have hjp := join_pc hb (ptQ_small hb (show i < ptN l - 1 by omega)) (ptQ_le hb hk) (ptQ_ltP hb hik hk)
  have hg := line_gd hb hik hk
  rw [(line_words hb hik hk).1] at hg
  have hws : x.words = pcW l (ptQ l i) (ptQ l k) := join_inj hJi hne hg.1 hpx (fun s hs => (hg.2 s hs).prp) (by rw [← hJ, hjp, q2])
  have hxl : x = lineP l i k := by
    have e1 := line_words hb hik hk
    have e2 := (colP_eq hk).2
    obtain ⟨xw, xh⟩ := x
    have e3 : lineP l i k = ⟨(lineP l i k).words, (lineP l i k).hyph⟩ := rfl
    rw [e3, e1.1, e1.2, e2, ← q3, ← hws]
  refine ⟨k, hik, hk, ?_, hxl, q2, q3⟩
  rw [← line_len hb hik hk, ← hxl]; exact hfit
theorem div_way {l : List Bx} {ln : List Ln} {w : Int} (hb : boxesB l = true) (h : divB l ln w = true) : ∃ ks, Fit l w 0 ks (ptN l - 1) ∧ ln = linesOf l 0 ks := by
  obtain ⟨hj, hd⟩ := divB_iff.1 h
  have hpos := ptN_pos l
  have hwd : ∀ i, i < ln.length → (lnAt ln i).words.length ≠ 0 ∧ ∀ x ∈ (lnAt ln i).words, Prp x := fun i hi => by
    have := dline_iff.1 (hd i hi)
    exact ⟨this.2.1, fun x hx => (this.2.2.2.1 x hx).2⟩
  have hbs := beside_all hwd
  -- what is joined leads to the boxes' words
  have hext : ∀ d, d ≤ ln.length → Ext (prevH ln (ln.length - d)) (joinI ln (ln.length - d)) (l.map (·.word)) := fun d => by
    induction d with
    | zero =>
      intro _
      rw [Nat.sub_zero]
      have hlast : prevH ln ln.length = false := by
        unfold prevH
        cases hn : ln.length with
        | zero => rfl
        | succ n =>
          rw [decide_eq_true (Nat.succ_pos _), Bool.true_and, Nat.add_sub_cancel]
          have := (dline_iff.1 (hd n (by omega))).2.2.1
          cases hq : (lnAt ln n).hyph
          · rfl
          · exact absurd hn.symm (this hq)
      rw [hlast]
      exact ⟨[], by rw [List.append_nil]; exact hj.symm⟩
    | succ d ih =>
      intro hd1
      have ih := ih (by omega)
      obtain ⟨i, hi⟩ : ∃ i, i = ln.length - (d + 1) := ⟨_, rfl⟩
      rw [show ln.length - d = i + 1 by omega] at ih
      rw [← hi]
      obtain ⟨w1, w2⟩ := hwd i (by omega)
      rw [joinI] at ih
      refine ext_back (fun e => w1 (by rw [e]; rfl)) w2 (fun hp => ?_) ih
      cases i with
      | zero => cases hp
      | succ i =>
        have := hbs i (by omega)
        exact ⟨by have := this.1; omega, this.2.2⟩
  -- the way, line by line
  have key : ∀ i, i ≤ ln.length → ∃ ks z, z < ptN l ∧ Fit l w 0 ks z ∧ ln.take i = linesOf l 0 ks ∧ joinI ln i = JP l (ptQ l z) ∧ prevH ln i = decide (0 < (ptQ l z).2) := fun i => by
    induction i with
    | zero =>
      intro _
      refine ⟨[], 0, hpos, rfl, by rw [List.take_zero]; rfl, (JP_zero l).symm, ?_⟩
      show false = decide (0 < (ptQ l 0).2)
      have e : (ptQ l 0).2 = 0 := by
        rw [ptQ_lt hpos]
        cases l with
        | nil => rfl
        | cons b l => rfl
      rw [e]; rfl
    | succ i ih =>
      intro hi
      obtain ⟨ks, z, z1, z2, z3, z4, z5⟩ := ih (by omega)
      obtain ⟨d1, d2, d3, d4, d5⟩ := dline_iff.1 (hd i hi)
      have he := hext (ln.length - (i + 1)) (by omega)
      rw [show ln.length - (ln.length - (i + 1)) = i + 1 by omega] at he
      have hph : prevH ln (i + 1) = (lnAt ln i).hyph := by
        unfold prevH
        rw [decide_eq_true (Nat.succ_pos _), Nat.add_sub_cancel]; rfl
      have hb1 := hbs i hi
      rw [hph] at he
      rw [joinI, z4, z5] at he hb1
      obtain ⟨k, k1, k2, k3, k4, k5, k6⟩ := line_of (w := w) hb z1 (fun e => d2 (by rw [e]; rfl)) d4 d1 he (fun hh => by
        have h9 := d5 hh
        rw [hb1.2.1, show (joinK (JP l (ptQ l z)) (decide (0 < (ptQ l z).2)) (lnAt ln i).words (lnAt ln i).words.length).length - 1 = (dvS ln (i + 1)).1 by have := hb1.1; omega]
        exact h9)
      refine ⟨ks ++ [k], k, k2, fit_snoc k1 k2 k3 z2, ?_, by rw [joinI, z4, z5]; exact k5, by rw [hph]; exact k6⟩
      rw [List.take_add_one, List.getElem?_eq_getElem hi, z3, linesOf_snoc, endK_all z2]
      congr 1
      rw [← lnAt_lt hi, k4]; rfl
  obtain ⟨ks, z, z1, z2, z3, z4, z5⟩ := key ln.length (Nat.le_refl _)
  rw [List.take_length] at z3
  have hz : z = ptN l - 1 := by
    -- all words are joined
    have h1 : JP l (ptQ l z) = l.map (·.word) := by rw [← z4]; exact hj
    rcases Nat.lt_or_ge z (ptN l - 1) with h2 | h2
    · exfalso
      have h3 := ptQ_small hb h2
      have h4 := congrArg List.length h1
      rw [JP_len (Nat.le_of_lt h3.1), List.length_map] at h4
      have h5 := h3.1
      by_cases h6 : 0 < (ptQ l z).2
      · have h7 : prevH ln ln.length = false := by
          unfold prevH
          cases hn : ln.length with
          | zero => rfl
          | succ n =>
            rw [decide_eq_true (Nat.succ_pos _), Bool.true_and, Nat.add_sub_cancel]
            have := (dline_iff.1 (hd n (by omega))).2.2.1
            cases hq : (lnAt ln n).hyph
            · rfl
            · exact absurd hn.symm (this hq)
        rw [h7, decide_eq_true h6] at z5
        cases z5
      · rw [if_neg h6] at h4; omega
    · omega
  subst hz
  exact ⟨ks, z2, z3⟩
end Go.GH
namespace Go.GH
open Go Go.Lib
theorem cost_way {l : List Bx} {w pen : Int} (hv : validL l w = true) (hp : penB pen = true) {ks : List Nat} (hf : Fit l w 0 ks (ptN l - 1)) (hlen : ks.length ≤ 1000) : costL (linesOf l 0 ks) w pen = (costP l w pen 0 ks, 0) := by
  obtain ⟨⟨hw1, hw2⟩, hb⟩ := valid_of hv
  have hll := linesOf_len l 0 ks
  have hd := (divB_iff.1 (way_div hb hf)).2
  have hbad : costBad (linesOf l 0 ks) w pen = false := by
    refine costBad_of (wideB_iff.2 ⟨hw1, hw2⟩) hp (by omega) (bads_none (fun j hj => ?_))
    obtain ⟨d1, d2, d3, d4, d5⟩ := dline_iff.1 (hd j hj)
    refine badLn_of d2 ?_ (List.any_eq_false.2 (fun s hs => ?_))
    · cases hh : (lnAt (linesOf l 0 ks) j).hyph
      · exact .inl rfl
      · exact .inr (d3 hh)
    · rw [lnAt_way (by omega)] at hs
      obtain ⟨f1, f2, _⟩ := hf.at j (by omega)
      rw [((line_gd hb f1 f2).2 s hs).word hb |>.1]
      simp
  have htight : tightL (linesOf l 0 ks) w = false := by
    refine tight_none (fun x hx => ?_)
    obtain ⟨j, hj, rfl⟩ := List.mem_iff_getElem.1 hx
    have := (dline_iff.1 (hd j hj)).1
    rw [lnAt_lt hj] at this
    unfold freeL; omega
  rw [cost_ok hbad htight, way_sum hb hf]
theorem many_pts {l : List Bx} (h : manyB l = false) : ptN l ≤ 841 := by
  obtain ⟨h1, h2⟩ := many_ok h
  rw [ptN_cnt]
  have key : ∀ l : List Bx, (∀ x ∈ l, x.pts.length ≤ 20) → (l.map (fun b => 1 + b.pts.length)).sum ≤ 21 * l.length := fun l => by
    induction l with
    | nil => intro _; exact Nat.le_refl _
    | cons b l ih =>
      intro hx
      have := ih (fun x hx' => hx x (List.mem_cons_of_mem _ hx'))
      have := hx b (List.mem_cons_self ..)
      rw [List.map_cons, List.sum_cons, List.length_cons]; omega
  have := key l (fun x hx => (h2 x hx).2)
  unfold cntB
  omega
theorem Fit.small {l : List Bx} {w : Int} (h : manyB l = false) {ks : List Nat} (hf : Fit l w 0 ks (ptN l - 1)) : ks.length ≤ 840 := by
  have := hf.len
  have := many_pts h
  omega
theorem divides_facts {l : List Bx} {w pen : Int} (hm : manyB l = false) : ((linesR l w pen).2.2 ≠ 0 → (linesR l w pen).2.2 = 1 ∨ (greedyR l w).2 = (linesR l w pen).2.2) ∧
    ((linesR l w pen).2.2 = 0 → (greedyR l w).2 = 0 ∧ costL (linesR l w pen).1 w pen = ((linesR l w pen).2.1, 0) ∧ (costL (greedyR l w).1 w pen).2 = 0 ∧ divB l (linesR l w pen).1 w = true ∧ divB l (greedyR l w).1 w = true ∧
      (∀ x ∈ (linesR l w pen).1, LnOK x) ∧ (∀ x ∈ (greedyR l w).1, LnOK x) ∧ (linesR l w pen).1.length ≤ 1000 ∧ (greedyR l w).1.length ≤ 1000) := by
  by_cases hv : validL l w = true
  · by_cases hp : penB pen = true
    · have hb := (valid_of hv).2
      rcases linesR_ok hv hp with ⟨a1, a2, ks, a3, a4, a5, a6⟩ | ⟨a1, a2, _⟩ <;> rcases greedyR_ok hv with ⟨b1, b2, qs, b3, b4, b5⟩ | ⟨b1, b2, _⟩
      · refine ⟨fun h => absurd a1 h, fun _ => ?_⟩
        have s1 := a3.small hm
        have s2 := b3.small hm
        rw [a4, b4, cost_way hv hp a3 (by omega), cost_way hv hp b3 (by omega), a5]
        exact ⟨b1, rfl, rfl, way_div hb a3, way_div hb b3, way_ok hb a3, way_ok hb b3, by rw [linesOf_len]; omega, by rw [linesOf_len]; omega⟩
      · exact absurd a2 b2
      · exact absurd b2 a2
      · exact ⟨fun _ => .inr (by rw [a1, b1]), fun h => by rw [a1] at h; cases h⟩
    · rw [Bool.not_eq_true] at hp
      rw [linesR_bad (.inr hp)]
      exact ⟨fun _ => .inl rfl, fun h => by cases h⟩
  · rw [Bool.not_eq_true] at hv
    rw [linesR_bad (.inl hv)]
    exact ⟨fun _ => .inl rfl, fun h => by cases h⟩
theorem optimal_facts {l : List Bx} {w pen : Int} {ln : List Ln} (hm : manyB l = false) (hv : validL l w = true) (hd : divB l ln w = true) (hl : ln.length ≤ 30) :
    ((costL ln w pen).2 ≠ 0 → (costL ln w pen).2 = 1 ∧ (linesR l w pen).2.2 = 1) ∧
    ((costL ln w pen).2 = 0 → (linesR l w pen).2.2 = 0 ∧ (greedyR l w).2 = 0 ∧ (linesR l w pen).2.1 ≤ (costL ln w pen).1 ∧ (greedyR l w).1.length ≤ ln.length ∧ (greedyR l w).1.length ≤ (linesR l w pen).1.length) := by
  have hb := (valid_of hv).2
  obtain ⟨ks, h1, h2⟩ := div_way hb hd
  by_cases hp : penB pen = true
  · have hkl : ks.length ≤ 30 := by rw [h2, linesOf_len] at hl; exact hl
    have hfit := (fit_iff hb).1 ⟨ks, h1⟩
    rcases linesR_ok hv hp with ⟨a1, a2, qs, a3, a4, a5, a6⟩ | ⟨a1, a2, _⟩
    · rcases greedyR_ok hv with ⟨b1, b2, gs, b3, b4, b5⟩ | ⟨b1, b2, _⟩
      · rw [h2, cost_way hv hp h1 (by omega)]
        refine ⟨fun h => absurd rfl h, fun _ => ⟨a1, b1, a6 ks h1, ?_, ?_⟩⟩
        · rw [b4, linesOf_len, linesOf_len]; exact b5 ks h1
        · rw [b4, a4, linesOf_len, linesOf_len]; exact b5 qs a3
      · exact absurd hfit b2
    · exact absurd hfit a2
  · rw [Bool.not_eq_true] at hp
    have hc : costL ln w pen = (0, 1) := cost_bad (by unfold costBad; rw [hp]; simp)
    rw [hc, linesR_bad (.inr hp)]
    exact ⟨fun _ => ⟨rfl, rfl⟩, fun h => by cases h⟩
end Go.GH
namespace Go.GH
open Go Go.Proofs
variable {E : Env}
theorem l44Divides (hV : VS E) (l : List Bx) (w p : Int)  : GCall Tryd.prog E 10 [DBxs l, .v (.int .i64 w), .v (.int .i64 p)] [] (fun d H => d = .v (.bool true) ∧ H = []) := by
  refine GCall.body (C := ⟨Tryd.prog, E, true⟩) Tryd.func10 rfl (fun _ => rfl) (by kernel_rfl) rfl ?_
  refine SCode.seqR ?_
  refine SOps.assign rfl ?_
  refine SOps.nil ?_
  refine SCode.seq ?_
  refine SCode.seqR ?_
  refine SOps.callP (sAwake hV) rfl ?_
  rintro _ rfl
  refine SOps.un rfl rfl ?_
  refine SOps.nil ?_
  refine SCode.cond rfl (fun h => by cases h) (fun _ => ?_)
  refine SCode.skip ?_
  show SCode _ _ _ _
  refine SCode.seq ?_
  refine SCode.seqR ?_
  refine SOps.move rfl ?_
  refine SOps.callP (lMany _) rfl ?_
  rintro _ rfl
  refine SOps.nil ?_
  refine SCode.cond rfl (fun hc1 => ?_) (fun hc1 => ?_)
  · try simp only [decide_eq_true_eq, decide_eq_false_iff_not, Bool.not_eq_true', Bool.not_eq_false', beq_iff_eq, bne_iff_ne, ne_eq, beq_eq_false_iff_ne, bne_eq_false_iff_eq, Int.not_lt, Int.not_le, Nat.not_lt, Nat.not_le, Int.ofNat_lt, Int.ofNat_le, Bool.not_eq_eq_eq_not, Bool.not_true, Bool.not_false] at hc1
    refine SCode.seqR ?_
    refine SOps.assign rfl ?_
    refine SOps.nil ?_
    refine SCode.ret ?_
    exact ⟨_, Res.one (.tmp rfl), rfl, rfl⟩
  · try simp only [decide_eq_true_eq, decide_eq_false_iff_not, Bool.not_eq_true', Bool.not_eq_false', beq_iff_eq, bne_iff_ne, ne_eq, beq_eq_false_iff_ne, bne_eq_false_iff_eq, Int.not_lt, Int.not_le, Nat.not_lt, Nat.not_le, Int.ofNat_lt, Int.ofNat_le, Bool.not_eq_eq_eq_not, Bool.not_true, Bool.not_false] at hc1
    have hbx := many_sz hc1
    obtain ⟨hd1, hd2⟩ := divides_facts (l := l) (w := w) (pen := p) hc1
    refine SCode.skip ?_
    show SCode _ _ _ _
    refine SCode.seqR ?_
    refine SOps.move rfl ?_
    refine SOps.move rfl ?_
    refine SOps.move rfl ?_
    refine SOps.callP (sLines hV l w p hbx) rfl ?_
    rintro _ rfl
    refine SOps.move rfl ?_
    refine SOps.extract rfl rfl ?_
    refine SOps.extract rfl rfl ?_
    refine SOps.extract rfl rfl ?_
    refine SOps.assign rfl ?_
    refine SOps.assign rfl ?_
    refine SOps.assign rfl ?_
    refine SOps.nil ?_
    refine SCode.seqR ?_
    refine SOps.move rfl ?_
    refine SOps.move rfl ?_
    refine SOps.callP (sGreedy hV l w hbx) rfl ?_
    rintro _ rfl
    refine SOps.move rfl ?_
    refine SOps.extract rfl rfl ?_
    refine SOps.extract rfl rfl ?_
    refine SOps.assign rfl ?_
    refine SOps.assign rfl ?_
    refine SOps.nil ?_
    refine SCode.seq ?_
    refine SCode.seqR ?_
    refine SOps.move rfl ?_
    refine SOps.bin rfl rfl rfl ?_
    refine SOps.nil ?_
    refine SCode.cond rfl (fun hc2 => ?_) (fun hc2 => ?_)
    · try simp only [decide_eq_true_eq, decide_eq_false_iff_not, Bool.not_eq_true', Bool.not_eq_false', beq_iff_eq, bne_iff_ne, ne_eq, beq_eq_false_iff_ne, bne_eq_false_iff_eq, Int.not_lt, Int.not_le, Nat.not_lt, Nat.not_le, Int.ofNat_lt, Int.ofNat_le, Bool.not_eq_eq_eq_not, Bool.not_true, Bool.not_false] at hc2
      have hd3 := hd1 (by assumption)
      refine SCode.seqR ?_
      refine SOps.move rfl ?_
      refine SOps.bin rfl rfl rfl ?_
      refine SOps.move rfl ?_
      refine SOps.caseB 38 rfl (fun hb3 => ?_) (fun hb3 => ?_)
      · try simp only [decide_eq_true_eq, decide_eq_false_iff_not, Bool.not_eq_true', Bool.not_eq_false', beq_iff_eq, bne_iff_ne, ne_eq, beq_eq_false_iff_ne, bne_eq_false_iff_eq, Int.not_lt, Int.not_le, Nat.not_lt, Nat.not_le, Int.ofNat_lt, Int.ofNat_le, Bool.not_eq_eq_eq_not, Bool.not_true, Bool.not_false] at hb3
        refine SOps.skip rfl ?_
        refine SOps.skip rfl ?_
        refine SOps.skip rfl ?_
        refine SOps.pick rfl rfl ?_
        refine SOps.assign rfl ?_
        refine SOps.nil ?_
        refine SCode.ret ?_
        exact ⟨_, Res.one (.tmp rfl), rfl, rfl⟩
      · try simp only [decide_eq_true_eq, decide_eq_false_iff_not, Bool.not_eq_true', Bool.not_eq_false', beq_iff_eq, bne_iff_ne, ne_eq, beq_eq_false_iff_ne, bne_eq_false_iff_eq, Int.not_lt, Int.not_le, Nat.not_lt, Nat.not_le, Int.ofNat_lt, Int.ofNat_le, Bool.not_eq_eq_eq_not, Bool.not_true, Bool.not_false] at hb3
        refine SOps.move rfl ?_
        refine SOps.move rfl ?_
        refine SOps.bin rfl rfl rfl ?_
        refine SOps.reSlot (t := 41) rfl (show _ = DV.v (.bool true) from congrArg (fun b => DV.v (.bool b)) (beq_iff_eq.2 (hd3.resolve_left (by assumption)))) ?_
        refine SOps.pick rfl rfl ?_
        refine SOps.assign rfl ?_
        refine SOps.nil ?_
        refine SCode.ret ?_
        exact ⟨_, Res.one (.tmp rfl), rfl, rfl⟩
    · try simp only [decide_eq_true_eq, decide_eq_false_iff_not, Bool.not_eq_true', Bool.not_eq_false', beq_iff_eq, bne_iff_ne, ne_eq, beq_eq_false_iff_ne, bne_eq_false_iff_eq, Int.not_lt, Int.not_le, Nat.not_lt, Nat.not_le, Int.ofNat_lt, Int.ofNat_le, Bool.not_eq_eq_eq_not, Bool.not_true, Bool.not_false] at hc2
      obtain ⟨d1, d2, d3, d4, d5, d6, d7, d8, d9⟩ := hd2 (by assumption)
      refine SCode.skip ?_
      show SCode _ _ _ _
      refine SCode.seqR ?_
      refine SOps.move rfl ?_
      refine SOps.move rfl ?_
      refine SOps.move rfl ?_
      refine SOps.callP (sCost hV (linesR l w p).1 w p d6) rfl ?_
      rintro _ rfl
      refine SOps.move rfl ?_
      refine SOps.extract rfl rfl ?_
      refine SOps.extract rfl rfl ?_
      refine SOps.assign rfl ?_
      refine SOps.assign rfl ?_
      refine SOps.nil ?_
      refine SCode.seqR ?_
      refine SOps.move rfl ?_
      refine SOps.move rfl ?_
      refine SOps.move rfl ?_
      refine SOps.callP (sCost hV (greedyR l w).1 w p d7) rfl ?_
      rintro _ rfl
      refine SOps.move rfl ?_
      refine SOps.extract rfl rfl ?_
      refine SOps.extract rfl rfl ?_
      refine SOps.assign rfl ?_
      refine SOps.assign rfl ?_
      refine SOps.nil ?_
      refine SCode.seqR ?_
      refine SOps.move rfl ?_
      refine SOps.bin rfl rfl rfl ?_
      refine SOps.reSlot (t := 58) rfl (show _ = DV.v (.bool true) from congrArg (fun b => DV.v (.bool b)) (by rw [d1]; rfl)) ?_
      refine SOps.move rfl ?_
      refine SOps.move rfl ?_
      refine SOps.bin rfl rfl rfl ?_
      refine SOps.reSlot (t := 61) rfl (show _ = DV.v (.bool true) from congrArg (fun b => DV.v (.bool b)) (by rw [d2]; rfl)) ?_
      refine SOps.pick rfl rfl ?_
      refine SOps.move rfl ?_
      refine SOps.move rfl ?_
      refine SOps.move rfl ?_
      refine SOps.bin rfl rfl rfl ?_
      refine SOps.reSlot (t := 66) rfl (show _ = DV.v (.bool true) from congrArg (fun b => DV.v (.bool b)) (by rw [d2]; exact beq_self_eq_true _)) ?_
      refine SOps.pick rfl rfl ?_
      refine SOps.move rfl ?_
      refine SOps.move rfl ?_
      refine SOps.bin rfl rfl rfl ?_
      refine SOps.reSlot (t := 70) rfl (show _ = DV.v (.bool true) from congrArg (fun b => DV.v (.bool b)) (by rw [d3]; rfl)) ?_
      refine SOps.pick rfl rfl ?_
      refine SOps.move rfl ?_
      refine SOps.move rfl ?_
      refine SOps.move rfl ?_
      refine SOps.move rfl ?_
      refine SOps.callP (lDivision l (linesR l w p).1 w d6 d8) rfl ?_
      rintro _ rfl
      refine SOps.reSlot (t := 76) rfl (show _ = DV.v (.bool true) from congrArg (fun b => DV.v (.bool b)) (d4)) ?_
      refine SOps.pick rfl rfl ?_
      refine SOps.move rfl ?_
      refine SOps.move rfl ?_
      refine SOps.move rfl ?_
      refine SOps.move rfl ?_
      refine SOps.callP (lDivision l (greedyR l w).1 w d7 d9) rfl ?_
      rintro _ rfl
      refine SOps.reSlot (t := 82) rfl (show _ = DV.v (.bool true) from congrArg (fun b => DV.v (.bool b)) (d5)) ?_
      refine SOps.pick rfl rfl ?_
      refine SOps.assign rfl ?_
      refine SOps.nil ?_
      refine SCode.ret ?_
      exact ⟨_, Res.one (.tmp rfl), rfl, rfl⟩
end Go.GH
