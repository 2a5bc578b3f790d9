/-
  A result is a word; errors are two; both orders of two rules err alike. Proved here: laws of plain lists. No conditions.
-/
import Derived.Test.YtjcihlpjlpackaaDoorPd
import Derived.Test.YtjcihlpjlpackaaDoorQc
set_option linter.unusedVariables false
set_option linter.unusedSimpArgs false
namespace Go.GH
open Go
theorem resF_mem {fr : Int} {tl : List Int} {c : Int} : ∀ (w : List Int) (i : Nat) (ss : List Nat), c ∈ resF fr tl w i ss → c ∈ tl ∨ c ∈ w
  | [], i, ss, h => by
    rw [resF_nil] at h
    split at h
    · exact .inl h
    · cases h
  | d :: w, i, ss, h => by
    rw [resF_cons, List.mem_append, List.mem_append] at h
    rcases h with h | h | h
    · split at h
      · exact .inl h
      · cases h
    · split at h
      · cases h
      · rw [List.mem_singleton] at h; subst h; exact .inr (List.mem_cons_self ..)
    · rcases resF_mem w _ _ h with h | h
      · exact .inl h
      · exact .inr (List.mem_cons_of_mem _ h)
theorem okR_all {a : List Letter} {r : Rule} {s : ByteArray} (h : okR a r s = true) : allL a r.to = true ∧ allL a s = true := by
  simp only [okR, validR, consS_eq, Bool.and_eq_true] at h
  exact ⟨h.1.1.1.2.2, h.2.2⟩
/-- A result without error is a word. -/
theorem resX_word {a : List Letter} {r : Rule} {s : ByteArray} {l : List Nat} (h : (resX a r s l).2 = 0) : okR a r s = true ∧ consS a 40 (resX a r s l).1 = true := by
  unfold resX at h ⊢
  by_cases hok : okR a r s = true
  · rw [if_pos hok] at h ⊢
    refine ⟨hok, ?_⟩
    obtain ⟨h1, h2⟩ := okR_all hok
    have hm : ∀ c ∈ resF r.fr (runes r.to) (runes s) 0 l, (idx a c).isSome = true ∧ Utf8.valid c = true := fun c hc => by
      rcases resF_mem _ _ _ hc with hc | hc
      · exact ⟨List.all_eq_true.1 h1 c hc, runes_valid hc⟩
      · exact ⟨List.all_eq_true.1 h2 c hc, runes_valid hc⟩
    by_cases h40 : 40 < (runes (encs (resF r.fr (runes r.to) (runes s) 0 l))).length
    · rw [if_pos h40] at h; cases h
    · rw [if_neg h40]
      show consS a 40 (encs _) = true
      rw [consS_eq, utf8R_encs (fun c hc => (hm c hc).2), Bool.true_and, Bool.and_eq_true, decide_eq_true_eq]
      refine ⟨by omega, ?_⟩
      rw [allL, runes_encs (fun c hc => (hm c hc).2)]
      exact List.all_eq_true.2 (fun c hc => (hm c hc).1)
  · rw [if_neg hok] at h; cases h
theorem resX_code (a : List Letter) (r : Rule) (s : ByteArray) (l : List Nat) (h : okR a r s = true) : (resX a r s l).2 = 0 ∨ (resX a r s l).2 = 2 := by
  unfold resX
  rw [if_pos h]
  split
  · exact .inr rfl
  · exact .inl rfl
theorem trF_code {a : List Letter} : ∀ (l : List Rule) (out : List ByteArray) (s : ByteArray), (∀ r ∈ l, validR a r = true) → consS a 40 s = true → (trF (applyR a) l out s).2 = 0 ∨ (trF (applyR a) l out s).2 = 2
  | [], out, s, _, _ => .inl rfl
  | r :: l, out, s, hv, hs => by
    have hok : okR a r s = true := by rw [okR, hv r (List.mem_cons_self ..), hs]; rfl
    rw [trF_cons]
    by_cases h0 : (applyR a r s).2 = 0
    · rw [if_pos h0]
      exact trF_code l _ _ (fun q hq => hv q (List.mem_cons_of_mem _ hq)) (resX_word h0).2
    · rw [if_neg h0]
      exact resX_code a r s _ hok
theorem okT_spec {a : List Letter} {l : List Rule} {s : ByteArray} (h : okT a l s = true) : l.length ≤ 64 ∧ admA a = true ∧ consS a 40 s = true ∧ ∀ r ∈ l, validR a r = true := by
  simp only [okT, Bool.and_eq_true, decide_eq_true_eq, List.all_eq_true] at h
  exact ⟨h.1.1.1, h.1.1.2, h.1.2, h.2⟩
theorem casc_code (a : List Letter) (l : List Rule) (s : ByteArray) : ((cascX (traceR a l s)).2 = 1 ↔ okT a l s = false) ∧ ((cascX (traceR a l s)).2 = 0 ∨ (cascX (traceR a l s)).2 = 1 ∨ (cascX (traceR a l s)).2 = 2) := by
  have h2 : (cascX (traceR a l s)).2 = (traceR a l s).2 := by
    unfold cascX
    split
    · rename_i h; exact h.symm
    · rfl
  rw [h2]
  unfold traceR traceX
  cases h : okT a l s with
  | false => exact ⟨⟨fun _ => rfl, fun _ => rfl⟩, .inr (.inl rfl)⟩
  | true =>
    obtain ⟨_, _, h3, h4⟩ := okT_spec h
    rcases trF_code l [s] s h4 h3 with h5 | h5
    · rw [if_pos rfl, h5]; exact ⟨⟨fun h => (by omega), fun h => by cases h⟩, .inl rfl⟩
    · rw [if_pos rfl, h5]; exact ⟨⟨fun h => (by omega), fun h => by cases h⟩, .inr (.inr rfl)⟩
theorem okT_swap (a : List Letter) (r t : Rule) (s : ByteArray) : okT a [r, t] s = okT a [t, r] s := by
  unfold okT
  simp only [List.all_cons, List.all_nil, Bool.and_true, List.length_cons, List.length_nil]
  rw [Bool.and_comm (validR a r)]
theorem comm_swap (a : List Letter) (r t : Rule) (s : ByteArray) : commX (cascX (traceR a [r, t] s)) (cascX (traceR a [t, r] s)) = commX (cascX (traceR a [t, r] s)) (cascX (traceR a [r, t] s)) := by
  have h1 := (casc_code a [r, t] s).1
  have h2 := (casc_code a [t, r] s).1
  rw [okT_swap] at h1
  generalize cascX (traceR a [r, t] s) = x at *
  generalize cascX (traceR a [t, r] s) = y at *
  unfold commX
  by_cases hx : x.2 = 1
  · rw [if_pos hx, if_pos (h2.2 (h1.1 hx))]
  · rw [if_neg hx, if_neg (fun hy => hx (h1.2 (h2.1 hy)))]
    by_cases h0 : x.2 = 0 ∧ y.2 = 0
    · rw [if_pos h0, if_pos ⟨h0.2, h0.1⟩]
      congr 1
      exact decide_eq_decide.2 ⟨Eq.symm, Eq.symm⟩
    · rw [if_neg h0, if_neg (fun h => h0 ⟨h.2, h.1⟩)]
theorem comm_err (a : List Letter) (r t : Rule) (s : ByteArray) (h : ¬ ((cascX (traceR a [r, t] s)).2 = 0 ∧ (cascX (traceR a [t, r] s)).2 = 0)) :
    (commX (cascX (traceR a [r, t] s)) (cascX (traceR a [t, r] s))).1 = false ∧ ((commX (cascX (traceR a [r, t] s)) (cascX (traceR a [t, r] s))).2 = (cascX (traceR a [r, t] s)).2 ∨ (commX (cascX (traceR a [r, t] s)) (cascX (traceR a [t, r] s))).2 = (cascX (traceR a [t, r] s)).2) ∧ (commX (cascX (traceR a [r, t] s)) (cascX (traceR a [t, r] s))).2 ≠ 0 := by
  have h1 := casc_code a [r, t] s
  have h2 := casc_code a [t, r] s
  rw [okT_swap] at h1
  generalize cascX (traceR a [r, t] s) = x at *
  generalize cascX (traceR a [t, r] s) = y at *
  unfold commX
  by_cases hx : x.2 = 1
  · rw [if_pos hx]
    exact ⟨rfl, .inl hx.symm, by show (1 : Int) ≠ 0; omega⟩
  · rw [if_neg hx, if_neg h]
    refine ⟨rfl, ?_, by show (2 : Int) ≠ 0; omega⟩
    show (2 : Int) = x.2 ∨ (2 : Int) = y.2
    have hy : ¬ y.2 = 1 := fun hy => hx (h1.1.2 (h2.1.1 hy))
    have := h1.2
    have := h2.2
    omega
end Go.GH
