/-
  Syllables: the program's way and the reference's way are one. Proved here: laws of plain lists. No conditions.
-/
import Derived.Test.YtnelkblhplellaaDoorSa
set_option linter.unusedVariables false
set_option linter.unusedSimpArgs false
namespace Go.GH
open Go

theorem pieces_splitS (rs : List Int) (h : 0 < rs.length) : ∀ (cs : List Nat) (l : Nat), pieces rs l cs = splitS rs (l :: cs)
  | [], l => by
    simp only [pieces, if_pos h, splitS, endS, cutR]
    rw [List.take_of_length_le (by simp)]
  | c :: cs, l => by
    rw [pieces, pieces_splitS rs h cs c]
    simp only [splitS, endS]
    rfl
theorem splitA_eq (a : List Letter) (ons : List (List Int)) (s : ByteArray) : splitA a ons s = splitS (runes s) (starts a ons s) := by
  unfold splitA starts st0
  by_cases h : 0 < (runes s).length
  · rw [if_pos h, pieces_splitS _ h]; rfl
  · have h0 : runes s = [] := List.eq_nil_of_length_eq_zero (by omega)
    rw [if_neg h]
    have : nuclei a s = [] := by unfold nuclei; rw [h0]; rfl
    rw [this]
    simp only [cutsF, List.append_nil, pieces, if_neg h, splitS]
theorem pts_eq (s : ByteArray) (ml mr : Int) (all : Nat) (hp : 0 < (runes s).length) : ∀ (cs : List Nat) (l i : Nat), cs.Pairwise (· ≤ ·) → (∀ c ∈ cs, l ≤ c ∧ c ≤ (runes s).length ∧ 0 < c) → l ≤ (runes s).length → (0 < i ↔ 0 < l) →
    ptsF ml mr all (pieces (runes s) l cs) l = ptsR ml mr all (l :: cs) i := by
  have hok : ∀ (i l : Nat), (0 < i ↔ 0 < l) → ptOK ml mr all l = ptOK2 ml mr all i l := fun i l h => by
    unfold ptOK ptOK2
    by_cases hl : 0 < l
    · rw [decide_eq_true hl, decide_eq_true (h.2 hl)]
    · rw [decide_eq_false hl, decide_eq_false (fun x => hl (h.1 x))]
  intro cs
  induction cs with
  | nil =>
    intro l i _ _ hl hi
    simp only [pieces, if_pos hp, ptsF, ptsR, hok i l hi]
  | cons c cs ih =>
    intro l i hs hc hl hi
    have h1 := hc c (List.mem_cons_self ..)
    simp only [pieces, ptsF, runes_cutR]
    have hlen : (cutR (runes s) l c).length = c - l := by simp only [cutR, List.length_take, List.length_drop]; omega
    rw [hlen, show l + (c - l) = c from by omega, ih c (i + 1) (List.pairwise_cons.1 hs).2 (fun d hd => ⟨(List.pairwise_cons.1 hs).1 d hd, (hc d (List.mem_cons_of_mem _ hd)).2⟩) h1.2.1 ⟨fun _ => h1.2.2, fun _ => Nat.succ_pos _⟩, hok i l hi]
    rfl
theorem points_eq (a : List Letter) (ons : List (List Int)) (ml mr : Int) (s : ByteArray) : ptsF ml mr (runes s).length (splitA a ons s) 0 = ptsR ml mr (runes s).length (starts a ons s) 0 := by
  obtain ⟨k1, k2⟩ := cuts_sorted a ons s
  by_cases h : 0 < (runes s).length
  · have := pts_eq s ml mr (runes s).length h (cutsF a ons (runes s) (nuclei a s)) 0 0 k1 (fun c hc => ⟨Nat.zero_le _, by have := k2 c hc; omega, (k2 c hc).1⟩) (Nat.zero_le _) Iff.rfl
    unfold starts st0
    rw [if_pos h]
    exact this
  · rw [splitA_eq]
    have h0 : runes s = [] := List.eq_nil_of_length_eq_zero (by omega)
    have hn : nuclei a s = [] := by unfold nuclei; rw [h0]; rfl
    unfold starts st0
    rw [if_neg h, hn]
    rfl
theorem fewA_spec {a : List Letter} {ons : List (List Int)} {s : ByteArray} (h : fewA a ons s = true) : a.length ≤ 70 ∧ ons.length ≤ 40 ∧ s.size ≤ 200 := by
  simp only [fewA, Bool.and_eq_true, decide_eq_true_eq] at h
  exact ⟨h.2.1, h.2.2.1, h.2.2.2⟩
theorem onset_more (a : List Letter) (ons : List (List Int)) (ms : List Int) (s : ByteArray) : onset a (ons ++ [ms]) s = (onset a ons s || onset a [ms] s) := by
  simp only [onset, onsetR, List.any_append, List.any_cons, List.any_nil, Bool.or_false]
  cases (runes s).isEmpty <;> simp
end Go.GH
