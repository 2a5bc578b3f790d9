/-
  Both sides' contexts, sites and results are one. Proved here: laws of plain lists. No conditions.
-/
import Derived.Test.YtjcihlpjlpackaaDoorQb
set_option linter.unusedVariables false
set_option linter.unusedSimpArgs false
namespace Go.GH
open Go Go.Lib

theorem utf8R_encs : ∀ {rs : List Int}, (∀ r ∈ rs, Utf8.valid r = true) → utf8R (encs rs) = true
  | [], _ => rfl
  | r :: rs, h => by
    have hv := h r (List.mem_cons_self ..)
    have ih := utf8R_encs (fun x hx => h x (List.mem_cons_of_mem _ hx))
    rw [utf8R_valid] at ih ⊢
    have hd := decodeL_drop (encs (r :: rs)) 0
    rw [List.drop_zero] at hd
    have hdec : Utf8.decode (encs (r :: rs)) 0 = (r.toNat, (Utf8.encode r).size) := decode_encode hv (encs rs)
    rw [hdec] at hd
    have hp := encode_pos r
    have hdata : (encs (r :: rs)).data.toList = (Utf8.encode r).data.toList ++ (encs rs).data.toList := by
      rw [encs_cons, data_app2]
    have hlen : (Utf8.encode r).data.toList.length = (Utf8.encode r).size := by simp
    have hne : (encs (r :: rs)).data.toList ≠ [] := by
      intro h0
      rw [hdata] at h0
      have := congrArg List.length h0
      simp only [List.length_append, List.length_nil] at this
      omega
    rw [validD_step _ hne, hd]
    have hno : ¬ (r.toNat = 65533 ∧ (Utf8.encode r).size = 1) := by
      rintro ⟨h1, h2⟩
      have hr : r = 65533 := by
        simp only [Utf8.valid, Bool.or_eq_true, Bool.and_eq_true, decide_eq_true_eq] at hv
        omega
      subst hr
      have h3 : (Utf8.encode 65533).size = 3 := by decide
      omega
    rw [if_neg hno, hdata, List.drop_left' hlen]
    exact ih

section
variable {β γ : Type}
theorem starM_congr {g g' : List β → Bool} {h h' : β → Bool} : ∀ (w : List β), (∀ v, v <:+ w → g v = g' v) → (∀ c ∈ w, h c = h' c) → starM g h w = starM g' h' w
  | [], hg, _ => hg [] (List.suffix_refl _)
  | c :: w, hg, hh => by
    simp only [starM]
    rw [hg _ (List.suffix_refl _), hh c (List.mem_cons_self ..), starM_congr w (fun v hv => hg v (hv.trans (List.suffix_cons c w))) (fun x hx => hh x (List.mem_cons_of_mem _ hx))]
theorem M_congr {f g : Item → β → Bool} : ∀ (p : List Item) (w : List β), (∀ c ∈ w, ∀ x, f x c = g x c) → M f p w = M g p w
  | [], _, _ => rfl
  | x :: p, w, h => by
    simp only [M]
    split
    · exact starM_congr w (fun v hv => M_congr p v (fun c hc => h c (hv.subset hc))) (fun c hc => h c hc x)
    · cases w with
      | nil => rfl
      | cons c w => simp only; rw [h c (List.mem_cons_self ..), M_congr p w (fun d hd => h d (List.mem_cons_of_mem _ hd))]
theorem starM_map {g : List γ → Bool} {h : γ → Bool} (k : β → γ) : ∀ (w : List β), starM g h (w.map k) = starM (fun v => g (v.map k)) (fun c => h (k c)) w
  | [] => rfl
  | c :: w => by simp only [List.map_cons, starM, starM_map k w]
theorem M_map (f : Item → γ → Bool) (k : β → γ) : ∀ (p : List Item) (w : List β), M f p (w.map k) = M (fun x c => f x (k c)) p w
  | [], w => by cases w <;> rfl
  | x :: p, w => by
    simp only [M]
    split
    · rw [starM_map]
      congr 1
      funext v
      exact M_map f k p v
    · cases w with
      | nil => rfl
      | cons c w => simp only [List.map_cons]; rw [M_map f k p w]
end

/-- Words of letters, from their runes. -/
structure Lw (a : List Letter) (w : List Int) : Prop where
  some : ∀ c ∈ w, (idx a c).isSome = true
  valid : ∀ c ∈ w, Utf8.valid c = true
theorem Lw.over {a : List Letter} {w : List Int} (h : Lw a w) : overA a (encs w) = true := by
  rw [overA_eq, utf8R_encs h.valid, allL, runes_encs h.valid, Bool.true_and]
  exact List.all_eq_true.2 h.some
theorem Lw.idxs {a : List Letter} {w : List Int} (h : Lw a w) : idxs a (encs w) = w.map (fun c => (idx a c).getD 0) := by
  unfold Go.GH.idxs
  rw [runes_encs h.valid]
theorem Lw.M {a : List Letter} {w : List Int} (h : Lw a w) (p : List Item) : M (admF a) p (w.map (fun c => (idx a c).getD 0)) = Mr a p w := by
  rw [M_map]
  refine M_congr p w (fun c hc x => ?_)
  obtain ⟨k, hk⟩ := Option.isSome_iff_exists.1 (h.some c hc)
  simp only [rAdm, hk, Option.getD_some, admF]
theorem Lw.sub {a : List Letter} {w v : List Int} (h : Lw a w) (hv : ∀ c ∈ v, c ∈ w) : Lw a v := ⟨fun c hc => h.some c (hv c hc), fun c hc => h.valid c (hv c hc)⟩
theorem Lw.take {a : List Letter} {w : List Int} (h : Lw a w) (n : Nat) : Lw a (w.take n) := h.sub (fun c hc => List.mem_of_mem_take hc)
theorem Lw.drop {a : List Letter} {w : List Int} (h : Lw a w) (n : Nat) : Lw a (w.drop n) := h.sub (fun c hc => List.mem_of_mem_drop hc)
theorem okR_lw {a : List Letter} {s : ByteArray} (h : consS a 40 s = true) : Lw a (runes s) := by
  rw [consS_eq, Bool.and_eq_true] at h
  exact ⟨fun c hc => List.all_eq_true.1 h.2 c hc, fun c hc => runes_valid hc⟩
theorem any_filter {p : Nat → Bool} {l : List Nat} : decide (0 < (l.filter p).length) = l.any p := by
  rw [Bool.eq_iff_iff, decide_eq_true_eq, List.length_pos_iff_exists_mem, List.any_eq_true]
  constructor
  · rintro ⟨x, hx⟩; exact ⟨x, (List.mem_filter.1 hx).1, (List.mem_filter.1 hx).2⟩
  · rintro ⟨x, h1, h2⟩; exact ⟨x, List.mem_filter.2 ⟨h1, h2⟩⟩
theorem any_rev {p : Nat → Bool} {n : Nat} : (List.range (n + 1)).any (fun i => p (n - i)) = (List.range (n + 1)).any p := by
  rw [Bool.eq_iff_iff, List.any_eq_true, List.any_eq_true]
  constructor
  · rintro ⟨i, h1, h2⟩; exact ⟨n - i, List.mem_range.2 (by omega), h2⟩
  · rintro ⟨i, h1, h2⟩
    have := List.mem_range.1 h1
    exact ⟨n - i, List.mem_range.2 (by omega), by rw [show n - (n - i) = i by omega]; exact h2⟩
theorem Lw.matches {a : List Letter} {w : List Int} (h : Lw a w) {p : List Item} (hp : validPat a p = true) : matchesP a p (encs w) = Mr a p w := by
  rw [matchesP, hp, h.over, h.idxs, h.M]; rfl
theorem Lw.prefixes {a : List Letter} {w : List Int} (h : Lw a w) {p : List Item} (hp : validPat a p = true) : decide (0 < (prefixesP a p (encs w)).length) = (List.range (w.length + 1)).any (fun i => Mr a p (w.take i)) := by
  rw [prefixesP, hp, h.over, h.idxs, Bool.true_and, if_pos rfl, lens_eq, any_filter, List.length_map]
  congr 1
  funext n
  rw [← List.map_take, (h.take n).M]
theorem Lw.suffixes {a : List Letter} {w : List Int} (h : Lw a w) {p : List Item} (hp : validPat a p = true) : decide (0 < (suffixesP a p (encs w)).length) = (List.range (w.length + 1)).any (fun i => Mr a p (w.drop i)) := by
  rw [suffixesP, hp, h.over, h.idxs, Bool.true_and, if_pos rfl, lens_eq, any_filter, List.length_reverse, List.length_map, ← any_rev]
  congr 1
  funext n
  rw [List.take_reverse, M_reverse, List.length_map, ← List.map_drop, (h.drop _).M]
  by_cases hn : n ≤ w.length
  · rw [show w.length - (w.length - n) = n by omega]
  · rw [List.drop_eq_nil_of_le (show w.length ≤ w.length - (w.length - n) by omega), List.drop_eq_nil_of_le (show w.length ≤ n by omega)]
theorem follows_eq {a : List Letter} {r : Rule} {w : List Int} (h : Lw a w) (hp : validPat a r.left = true) : followsR a r (encs w) = leftR a r w := by
  unfold followsR leftR
  rw [h.matches hp, h.suffixes hp]
theorem precedes_eq {a : List Letter} {r : Rule} {w : List Int} (h : Lw a w) (hp : validPat a r.right = true) : precedesR a r (encs w) = rightR a r w := by
  unfold precedesR rightR
  rw [h.matches hp, h.prefixes hp]
theorem sites_eq (a : List Letter) (r : Rule) (s : ByteArray) : sitesR a r s = sitesQ a r s := by
  unfold sitesR sitesQ
  by_cases hok : okR a r s = true
  · rw [if_pos hok, if_pos hok]
    have h1 : validR a r = true ∧ consS a 40 s = true := by simpa [okR] using hok
    have hl := okR_lw h1.2
    have h2 := h1.1
    simp only [validR, Bool.and_eq_true] at h2
    unfold sitesF
    congr 1
    funext i
    unfold siteB siteQ
    rw [follows_eq (hl.take i) h2.1.2, precedes_eq (hl.drop _) h2.2]
  · rw [if_neg hok, if_neg hok]
theorem apply_eq (a : List Letter) (r : Rule) (s : ByteArray) : applyR a r s = applyQ a r s := by
  unfold applyR applyQ
  rw [sites_eq]
end Go.GH
