/-
  What the laws on syllables say of lists: pieces, their nuclei, their last runes. Proved here: laws of plain lists. No conditions.
-/
import Derived.Test.YtnelkblhplellaaDoorSq
set_option linter.unusedVariables false
set_option linter.unusedSimpArgs false
namespace Go.GH
open Go Go.Lib

theorem seg_ne {rs : List Int} {lo n hi : Nat} (h1 : lo ≤ n) (h2 : n < hi) (h3 : hi ≤ rs.length) : cutR rs lo hi ≠ [] := by
  intro h
  have := congrArg List.length h
  simp only [cutR, List.length_take, List.length_drop, List.length_nil] at this
  omega
theorem cutR_mem {rs : List Int} {l h : Nat} {r : Int} (hr : r ∈ cutR rs l h) : r ∈ rs := List.mem_of_mem_drop (List.mem_of_mem_take hr)
theorem nuclei_zero (a : List Letter) (s : ByteArray) : nucF (vowelA a) ((runes s).drop 0) 0 = nuclei a s := rfl
/-- The syllables of a word with vowels. -/
theorem splitA_segs (a : List Letter) (ons : List (List Int)) (s : ByteArray) (h : nuclei a s ≠ []) : splitA a ons s = (segsF a ons (runes s) 0 (nuclei a s)).map (Seg.str (runes s)) := by
  have hp : 0 < (runes s).length := by
    rcases Nat.eq_zero_or_pos (runes s).length with h0 | h0
    · exact absurd (by unfold nuclei; rw [List.eq_nil_of_length_eq_zero h0]; rfl) h
    · exact h0
  exact pieces_segs a ons (runes s) hp _ 0 h
theorem segs_all (a : List Letter) (ons : List (List Int)) (s : ByteArray) : ∀ g ∈ segsF a ons (runes s) 0 (nuclei a s), g.lo ≤ g.n ∧ g.n < g.hi ∧ g.hi ≤ (runes s).length ∧ nucF (vowelA a) (cutR (runes s) g.lo g.hi) 0 = [g.n - g.lo] :=
  segs_ok a ons (runes s) (vowelA a) (nuclei a s) 0 (Nat.zero_le _) (nuclei_zero a s) (nucF_sorted _ _ _)
theorem splitA_none (a : List Letter) (ons : List (List Int)) (s : ByteArray) (h : nuclei a s = []) : splitA a ons s = if 0 < (runes s).length then [encs (runes s)] else [] := by
  unfold splitA; rw [h]; simp only [cutsF, pieces, List.drop_zero]
theorem piece_ok {a : List Letter} {ons : List (List Int)} {s : ByteArray} {p : ByteArray} (h : p ∈ splitA a ons s) : ∃ x : List Int, x ≠ [] ∧ (∀ r ∈ x, r ∈ runes s) ∧ p = encs x := by
  by_cases hn : nuclei a s = []
  · rw [splitA_none a ons s hn] at h
    split at h
    · rename_i hl
      simp only [List.mem_singleton] at h
      exact ⟨runes s, by intro e; rw [e] at hl; simp at hl, fun r hr => hr, h⟩
    · cases h
  · rw [splitA_segs a ons s hn] at h
    obtain ⟨g, hg, rfl⟩ := List.mem_map.1 h
    obtain ⟨h1, h2, h3, _⟩ := segs_all a ons s g hg
    exact ⟨_, seg_ne h1 h2 h3, fun r hr => cutR_mem hr, rfl⟩
theorem piece_runes {a : List Letter} {ons : List (List Int)} {s : ByteArray} {p : ByteArray} (h : p ∈ splitA a ons s) : ∃ x : List Int, x ≠ [] ∧ (∀ r ∈ x, Utf8.valid r = true) ∧ p = encs x ∧ runes p = x := by
  obtain ⟨x, h1, h2, rfl⟩ := piece_ok h
  have hv : ∀ r ∈ x, Utf8.valid r = true := fun r hr => runes_valid (h2 r hr)
  exact ⟨x, h1, hv, rfl, runes_encs hv⟩
theorem piece_ne {a : List Letter} {ons : List (List Int)} {s : ByteArray} {p : ByteArray} (h : p ∈ splitA a ons s) : p ≠ .empty := by
  obtain ⟨x, h1, _, rfl⟩ := piece_ok h
  exact encs_ne h1

/-! #### Heavy -/
def hvF (a : List Letter) (l : List ByteArray) : List Bool := l.map (fun p => !vowelA a ((decodeLastL p.data.toList).1 : Int))
def hvR (a : List Letter) (l : List ByteArray) : List Bool := l.map (fun p => !vowelA a ((runes p).getD ((runes p).length - 1) 0))
theorem heavy_eq (a : List Letter) (ons : List (List Int)) (s : ByteArray) : hvF a (splitA a ons s) = hvR a (splitS (runes s) (starts a ons s)) := by
  rw [← splitA_eq]
  unfold hvF hvR
  refine List.map_congr_left (fun p hp => ?_)
  obtain ⟨x, h1, h2, rfl, h4⟩ := piece_runes hp
  rw [last_encs h1 h2, h4, List.getLast_eq_getElem, List.getD_eq_getElem?_getD, List.getElem?_eq_getElem]
  rfl
theorem splitS_runes {a : List Letter} {ons : List (List Int)} {s : ByteArray} {p : ByteArray} (h : p ∈ splitS (runes s) (starts a ons s)) : 1 ≤ (runes p).length := by
  rw [← splitA_eq] at h
  obtain ⟨x, h1, _, _, h4⟩ := piece_runes h
  rw [h4]
  cases x with
  | nil => exact absurd rfl h1
  | cons _ _ => simp

/-! #### Joins -/
def joinB : List ByteArray → ByteArray
  | [] => .empty
  | p :: l => p ++ joinB l
theorem pieces_join (rs : List Int) (h : 0 < rs.length) : ∀ (cs : List Nat) (l : Nat), cs.Pairwise (· ≤ ·) → (∀ c ∈ cs, l ≤ c) → joinB (pieces rs l cs) = encs (rs.drop l)
  | [], l, _, _ => by
    simp only [pieces, if_pos h, joinB]
    exact app_empty _
  | c :: cs, l, hp, hc => by
    simp only [pieces, joinB]
    rw [pieces_join rs h cs c (List.pairwise_cons.1 hp).2 (fun d hd => (List.pairwise_cons.1 hp).1 d hd), ← encs_append, ← drop_cut rs (hc c (List.mem_cons_self ..))]
theorem splitA_join (a : List Letter) (ons : List (List Int)) (s : ByteArray) : joinB (splitA a ons s) = encs (runes s) := by
  obtain ⟨k1, k2⟩ := cuts_sorted a ons s
  by_cases h : 0 < (runes s).length
  · have := pieces_join (runes s) h (cutsF a ons (runes s) (nuclei a s)) 0 k1 (fun c _ => Nat.zero_le _)
    rw [List.drop_zero] at this
    exact this
  · have h0 : runes s = [] := List.eq_nil_of_length_eq_zero (by omega)
    have hn : nuclei a s = [] := by unfold nuclei; rw [h0]; rfl
    rw [splitA_none a ons s hn, if_neg h, h0]; rfl
theorem check_utf8 {a : List Letter} {ons : List (List Int)} {ml mr : Int} {s : ByteArray} (h : checkE a ons ml mr s = 0) : utf8R s = true := by
  unfold checkE at h
  split at h
  · rename_i hc
    simp only [Bool.and_eq_true, isWordA, overA] at hc
    exact hc.2.1.1
  · cases h
theorem nuclei_str {a : List Letter} {s : ByteArray} {g : Seg} {l : List Nat} (h : nucF (vowelA a) (cutR (runes s) g.lo g.hi) 0 = l) : nuclei a (g.str (runes s)) = l := by
  unfold nuclei Seg.str
  rw [runes_cutR, h]
theorem joins_piece {a : List Letter} {ons : List (List Int)} {s : ByteArray} {p : ByteArray} (h : p ∈ splitA a ons s) (hn : nuclei a s ≠ []) : (nuclei a p).length = 1 := by
  rw [splitA_segs a ons s hn] at h
  obtain ⟨g, hg, rfl⟩ := List.mem_map.1 h
  obtain ⟨h1, h2, h3, h4⟩ := segs_all a ons s g hg
  unfold nuclei Seg.str
  rw [runes_cutR, h4]; rfl
theorem joins_len (a : List Letter) (ons : List (List Int)) (s : ByteArray) : (splitA a ons s).length ≤ 1 ∨ (nuclei a s).length = (splitA a ons s).length := by
  by_cases hn : nuclei a s = []
  · left
    rw [splitA_none a ons s hn]; split <;> simp
  · right
    rw [splitA_segs a ons s hn, List.length_map, segsF_len]
theorem joinB_snoc (l : List ByteArray) (p : ByteArray) : joinB (l ++ [p]) = joinB l ++ p := by
  induction l with
  | nil => simp only [List.nil_append, joinB]; rw [app_empty]; apply ByteArray.ext; simp
  | cons q l ih => simp only [List.cons_append, joinB, ih, ByteArray.append_assoc]
theorem joinB_take_size {l : List ByteArray} {n : Nat} : ∀ i, (∀ p ∈ l, p.size ≤ n) → (joinB (l.take i)).size ≤ n * i
  | 0, _ => by rw [List.take_zero]; exact Nat.zero_le _
  | i + 1, h => by
    have ih := joinB_take_size (l := l) (n := n) i h
    by_cases hi : i < l.length
    · rw [List.take_add_one, List.getElem?_eq_getElem hi]
      simp only [Option.toList_some]
      rw [joinB_snoc, ByteArray.size_append]
      have := h _ (List.getElem_mem hi)
      rw [Nat.mul_add]; omega
    · rw [List.take_of_length_le (by omega)] at ih ⊢
      rw [Nat.mul_add]; omega
theorem piece_size {a : List Letter} {ons : List (List Int)} {s : ByteArray} {p : ByteArray} (h : p ∈ splitA a ons s) : p.size ≤ 4 * s.size := by
  have hrl := runes_len s
  have key : ∀ x : List Int, x.length ≤ (runes s).length → (encs x).size ≤ 4 * s.size := fun x hx => by
    have := encs_size x; omega
  by_cases hn : nuclei a s = []
  · rw [splitA_none a ons s hn] at h
    split at h
    · simp only [List.mem_singleton] at h; subst h; exact key _ (Nat.le_refl _)
    · cases h
  · rw [splitA_segs a ons s hn] at h
    obtain ⟨g, hg, rfl⟩ := List.mem_map.1 h
    exact key _ (cutR_len _ _ _)

/-! #### Maximal -/
theorem maximal_at {a : List Letter} {ons : List (List Int)} {s : ByteArray} {i : Nat} (h : i + 1 < (splitA a ons s).length) :
    ∃ g k : Seg, (splitA a ons s)[i]? = some (g.str (runes s)) ∧ (splitA a ons s)[i + 1]? = some (k.str (runes s)) ∧ (g.lo ≤ g.n ∧ g.n < g.hi ∧ g.hi ≤ (runes s).length ∧ nuclei a (g.str (runes s)) = [g.n - g.lo]) ∧
      (k.lo ≤ k.n ∧ k.n < k.hi ∧ k.hi ≤ (runes s).length ∧ nuclei a (k.str (runes s)) = [k.n - k.lo]) ∧ g.hi = k.lo ∧ k.lo = cutAt a ons (runes s) g.n k.n ∧ g.n < k.n := by
  have hn : nuclei a s ≠ [] := by
    intro hn
    rw [splitA_none a ons s hn] at h
    split at h <;> simp at h
  rw [splitA_segs a ons s hn] at h ⊢
  rw [List.length_map] at h
  have e1 := List.getElem?_eq_getElem (show i < (segsF a ons (runes s) 0 (nuclei a s)).length by omega)
  have e2 := List.getElem?_eq_getElem h
  refine ⟨_, _, by rw [List.getElem?_map, e1]; rfl, by rw [List.getElem?_map, e2]; rfl, ?_, ?_, ?_⟩
  · obtain ⟨h1, h2, h3, h4⟩ := segs_all a ons s _ (List.getElem_mem (show i < (segsF a ons (runes s) 0 (nuclei a s)).length by omega))
    exact ⟨h1, h2, h3, nuclei_str h4⟩
  · obtain ⟨h1, h2, h3, h4⟩ := segs_all a ons s _ (List.getElem_mem h)
    exact ⟨h1, h2, h3, nuclei_str h4⟩
  · rcases segs_next a ons (runes s) _ 0 i _ _ e1 e2 with h1 | h1
    · exact h1
    · exact absurd (nucF_sorted (vowelA a) (runes s) 0) h1
theorem cutR_take (rs : List Int) (lo n hi : Nat) (h1 : lo ≤ n) (h2 : n ≤ hi) : (cutR rs lo hi).take (n - lo) = cutR rs lo n := by
  simp only [cutR, List.take_take]
  congr 1; omega
theorem cutR_drop (rs : List Int) (lo n hi : Nat) (h1 : lo ≤ n) : (cutR rs lo hi).drop (n - lo) = cutR rs n hi := by
  simp only [cutR, List.drop_take, List.drop_drop]
  rw [show lo + (n - lo) = n from by omega, show hi - lo - (n - lo) = hi - n from by omega]
theorem cutR_cat (rs : List Int) (x y z : Nat) (h1 : x ≤ y) (h2 : y ≤ z) : cutR rs x y ++ cutR rs y z = cutR rs x z := by
  have e1 := cutR_take rs x y z h1 h2
  have e2 := cutR_drop rs x y z h1
  rw [← e1, ← e2, List.take_append_drop]
theorem begin_onset {a : List Letter} {ons : List (List Int)} {rs : List Int} {n1 n2 : Nat} (h : n1 < n2) : onsetR a ons (cutR rs (cutAt a ons rs n1 n2) n2) = true :=
  firstOn_ok (ok := fun t => onsetR a ons (cutR rs t n2)) (by simp only [cutR_same, onsetR_nil]) (by omega)
theorem longer_not {a : List Letter} {ons : List (List Int)} {rs : List Int} {n1 n2 j : Nat} (h : n1 < n2) (h1 : n1 + 1 ≤ j) (h2 : j < cutAt a ons rs n1 n2) : onsetR a ons (cutR rs j n2) = false :=
  firstOn_before (ok := fun t => onsetR a ons (cutR rs t n2)) _ _ rfl j h1 h2
theorem onset_encs {a : List Letter} {ons : List (List Int)} {x : List Int} (h : ∀ r ∈ x, Utf8.valid r = true) : onset a ons (encs x) = onsetR a ons x := by rw [onset, runes_encs h]
end Go.GH
namespace Go.GH
open Go
/-- What the law on the longest onset needs of two neighbours. -/
theorem maximal_facts {a : List Letter} {ons : List (List Int)} {s : ByteArray} {i : Nat} (h1 : 1 ≤ i) (h : i < (splitA a ons s).length) :
    ∃ gm kn : Nat, ∃ R0 R1 : List Int, nuclei a ((splitA a ons s)[i]) = [kn] ∧ nuclei a ((splitA a ons s)[i - 1]) = [gm] ∧ runes ((splitA a ons s)[i]) = R1 ∧ runes ((splitA a ons s)[i - 1]) = R0 ∧ kn < R1.length ∧ gm < R0.length ∧ R0.length ≤ (runes s).length ∧ R1.length ≤ (runes s).length ∧
      onset a ons (encs (R1.take kn)) = true ∧ ∀ j, j < (R0.drop (gm + 1)).length → onset a ons (encs ((R0.drop (gm + 1)).drop j) ++ encs (R1.take kn)) = false := by
  obtain ⟨g, k, e0, e1, ⟨g1, g2, g3, g4⟩, ⟨k1, k2, k3, k4⟩, hgk, hcut, hlt⟩ := maximal_at (a := a) (ons := ons) (s := s) (i := i - 1) (by omega)
  rw [show i - 1 + 1 = i from by omega] at e1
  rw [List.getElem?_eq_getElem (show i - 1 < (splitA a ons s).length by omega)] at e0
  rw [List.getElem?_eq_getElem h] at e1
  rw [Option.some.inj e0, Option.some.inj e1]
  have hval : ∀ x y : Nat, ∀ r ∈ cutR (runes s) x y, Utf8.valid r = true := fun x y r hr => runes_valid (cutR_mem hr)
  have hr : ∀ q : Seg, runes (q.str (runes s)) = cutR (runes s) q.lo q.hi := fun q => runes_cutR s q.lo q.hi
  have hl : ∀ x y : Nat, y ≤ (runes s).length → (cutR (runes s) x y).length = y - x := fun x y hy => by simp only [cutR, List.length_take, List.length_drop]; omega
  refine ⟨g.n - g.lo, k.n - k.lo, _, _, k4, g4, hr k, hr g, by rw [hl _ _ k3]; omega, by rw [hl _ _ g3]; omega, cutR_len _ _ _, cutR_len _ _ _, ?_, fun j hj => ?_⟩
  · rw [cutR_take _ _ _ _ k1 (by omega), onset_encs (hval _ _), hcut]
    exact begin_onset hlt
  · have e2 : (cutR (runes s) g.lo g.hi).drop (g.n - g.lo + 1) = cutR (runes s) (g.n + 1) g.hi := by
      have := cutR_drop (runes s) g.lo (g.n + 1) g.hi (by omega)
      rw [show g.n + 1 - g.lo = g.n - g.lo + 1 from by omega] at this
      exact this
    rw [e2] at hj ⊢
    rw [hl _ _ g3] at hj
    have e3 : (cutR (runes s) (g.n + 1) g.hi).drop j = cutR (runes s) (g.n + 1 + j) g.hi := by
      have := cutR_drop (runes s) (g.n + 1) (g.n + 1 + j) g.hi (by omega)
      rw [show g.n + 1 + j - (g.n + 1) = j from by omega] at this
      exact this
    rw [e3, cutR_take _ _ _ _ k1 (by omega), ← encs_append, hgk, cutR_cat _ _ _ _ (by omega) (by omega), onset_encs (hval _ _)]
    exact longer_not hlt (by omega) (by omega)
end Go.GH
