/-
  Patterns as plain data: items, sets of positions, and what matches. Proved here: laws of plain lists. No conditions.
-/
import Derived.Test.YtjcihlpjlpackaaDoorHu
import Derived.KernelRfl
set_option linter.unusedVariables false
set_option linter.unusedSimpArgs false
namespace Go.GH
open Go

structure Item where
  mask : Int
  lets : ByteArray
  neg : Bool
  rep : Bool
def encIt (x : Item) : List DV := [.v (.int .u32 x.mask), .v (.string x.lets), .v (.bool x.neg), .v (.bool x.rep)]
abbrev DIts (p : List Item) : DV := .isl false 4 (p.map encIt)
def properB (a : List Letter) : Bool := a.all (fun l => goodR l.rune) && decide ((a.map (·.rune)).Nodup)
def validPat (a : List Letter) (p : List Item) : Bool := properB a && decide (a.length ≤ 65) && decide (p.length ≤ 3) && p.all (fun x => overA a x.lets)
def idxs (a : List Letter) (s : ByteArray) : List Nat := (runes s).map (fun r => (idx a r).getD 0)
def listed (s : ByteArray) (r : Int) : Bool := (runes s).any (fun c => c == r)
def admB (x : Item) (l : Letter) : Bool := (hasC l.cls x.mask && (decide (x.lets = ⟨#[]⟩) || listed x.lets l.rune)) != x.neg

/-! #### letters -/
theorem mapFrom_append : ∀ (a b : List Letter) (n : Nat) (es : List (Int × Nat)), mapFrom (a ++ b) n es = mapFrom b (n + a.length) (mapFrom a n es)
  | [], b, n, es => rfl
  | l :: a, b, n, es => by
    show mapFrom (a ++ b) (n + 1) _ = mapFrom b (n + (a.length + 1)) (mapFrom a (n + 1) _)
    rw [mapFrom_append a b (n + 1)]
    congr 1
    omega
theorem mapOf_snoc {a : List Letter} {i : Nat} (h : i < a.length) : mapOf (a.take (i + 1)) = mapAdd (mapOf (a.take i)) (a[i]).rune i := by
  unfold mapOf
  rw [List.take_add_one, List.getElem?_eq_getElem h, Option.toList_some, mapFrom_append]
  have : 0 + (a.take i).length = i := by simp; omega
  rw [this]
  rfl
theorem idx_take_none {a : List Letter} {r : Int} : idx a r = none ↔ r ∉ a.map (·.rune) := by
  rw [idx_none]
  constructor
  · intro h hm
    obtain ⟨l, hl, e⟩ := List.mem_map.1 hm
    exact h l hl e
  · intro h l hl e
    exact h (List.mem_map.2 ⟨l, hl, e⟩)
theorem nodup_snoc {a : List Letter} {i : Nat} (h : i < a.length) : ((a.take (i + 1)).map (·.rune)).Nodup ↔ ((a.take i).map (·.rune)).Nodup ∧ idx (a.take i) (a[i]).rune = none := by
  rw [List.take_add_one, List.getElem?_eq_getElem h, Option.toList_some, List.map_append, idx_take_none, List.nodup_append]
  simp only [List.map_cons, List.map_nil, List.mem_singleton, List.nodup_cons, List.not_mem_nil, not_false_eq_true, List.nodup_nil, and_true, true_and]
  constructor
  · rintro ⟨h1, h2⟩
    exact ⟨h1, fun hm => h2 _ hm _ rfl rfl⟩
  · rintro ⟨h1, h2⟩
    exact ⟨h1, fun x hx y hy e => h2 (by rw [← hy, ← e]; exact hx)⟩
theorem properB_iff {a : List Letter} : properB a = true ↔ (∀ l ∈ a, goodR l.rune = true) ∧ (a.map (·.rune)).Nodup := by
  simp only [properB, Bool.and_eq_true, List.all_eq_true, decide_eq_true_eq]
theorem properB_take {a : List Letter} (h : properB a = true) (i : Nat) : (∀ l ∈ a.take i, goodR l.rune = true) ∧ ((a.take i).map (·.rune)).Nodup := by
  obtain ⟨h1, h2⟩ := properB_iff.1 h
  refine ⟨fun l hl => h1 l (List.mem_of_mem_take hl), ?_⟩
  rw [List.map_take]
  exact h2.sublist (List.take_sublist ..)

/-! #### sets of positions -/
def closedF : List Item → Nat → Nat → Nat
  | [], _, s => s
  | x :: p, k, s => closedF p (k + 1) (if x.rep && s.testBit k then s ||| 2 ^ (k + 1) else s)
def closedN (p : List Item) (s : Nat) : Nat := closedF p 0 s
def nextF (f : Item → Bool) (s : Nat) : List Item → Nat → Nat → Nat
  | [], _, acc => acc
  | x :: p, k, acc => nextF f s p (k + 1) (if s.testBit k && f x then acc ||| 2 ^ (if x.rep then k else k + 1) else acc)
def stepN (p : List Item) (f : Item → Bool) (s : Nat) : Nat := closedN p (nextF f s p 0 0)
theorem two_lt {k : Nat} (h : k < 8) : 2 ^ k < 256 := Nat.pow_lt_pow_right (by decide) h
theorem or_lt {x k : Nat} (hx : x < 256) (h : k < 8) : x ||| 2 ^ k < 256 := Nat.or_lt_two_pow (n := 8) hx (two_lt h)
theorem closedF_lt : ∀ (p : List Item) (k s : Nat), k + p.length < 8 → s < 256 → closedF p k s < 256
  | [], _, _, _, h => h
  | x :: p, k, s, h1, h2 => by
    simp only [List.length_cons] at h1
    refine closedF_lt p (k + 1) _ (by omega) ?_
    split
    · exact or_lt h2 (by omega)
    · exact h2
theorem closedN_lt {p : List Item} {s : Nat} (h1 : p.length < 8) (h2 : s < 256) : closedN p s < 256 := closedF_lt p 0 s (by omega) h2
theorem nextF_lt (f : Item → Bool) (s : Nat) : ∀ (p : List Item) (k acc : Nat), k + p.length < 8 → acc < 256 → nextF f s p k acc < 256
  | [], _, _, _, h => h
  | x :: p, k, acc, h1, h2 => by
    simp only [List.length_cons] at h1
    refine nextF_lt f s p (k + 1) _ (by omega) ?_
    split
    · refine or_lt h2 ?_
      split <;> omega
    · exact h2
theorem stepN_lt {p : List Item} (f : Item → Bool) {s : Nat} (h1 : p.length < 8) : stepN p f s < 256 := closedN_lt h1 (nextF_lt f s p 0 0 (by omega) (by omega))
theorem bit1 {s k : Nat} : s >>> k &&& 1 = 1 ↔ s.testBit k = true := by
  rw [Nat.testBit, bne_iff_ne, Nat.and_comm, Nat.one_and_eq_mod_two]
  omega
theorem bit1i {s k : Nat} : ((s >>> k &&& 1 : Nat) : Int) = 1 ↔ s.testBit k = true := by
  rw [← bit1]; omega
theorem bit0i {s k : Nat} : ((s >>> k &&& 1 : Nat) : Int) = 0 ↔ s.testBit k = false := by
  have h : s >>> k &&& 1 = 0 ∨ s >>> k &&& 1 = 1 := by rw [Nat.and_comm, Nat.one_and_eq_mod_two]; omega
  rw [← Bool.not_eq_true, ← bit1]; omega
theorem bit_or {x k j : Nat} : (x ||| 2 ^ k).testBit j = (x.testBit j || decide (k = j)) := by
  rw [Nat.testBit_or, Nat.testBit_two_pow]

/-! #### what a pattern matches -/
section
variable {β : Type} (f : Item → β → Bool)
def starM (g : List β → Bool) (h : β → Bool) : List β → Bool
  | [] => g []
  | c :: s => g (c :: s) || (h c && starM g h s)
def M : List Item → List β → Bool
  | [], s => s.isEmpty
  | x :: p, s => if x.rep then starM (M p) (f x) s else match s with
    | [] => false
    | c :: s' => f x c && M p s'
theorem M_rep_skip {x : Item} {p : List Item} (h : x.rep = true) {s : List β} (hm : M f p s = true) : M f (x :: p) s = true := by
  simp only [M, h, if_true]
  cases s with
  | nil => exact hm
  | cons c s => simp [starM, hm]
theorem M_cons (x : Item) (p : List Item) (c : β) (s : List β) : M f (x :: p) (c :: s) = if x.rep then M f p (c :: s) || (f x c && M f (x :: p) s) else f x c && M f p s := by
  simp only [M]
  split <;> simp [starM]
theorem M_nil (x : Item) (p : List Item) : M f (x :: p) [] = (x.rep && M f p []) := by
  simp only [M]
  split
  · rename_i h; simp [h, starM]
  · rename_i h; simp [h]
/-- The bits of a closed set's successor, told by places. -/
def ClosedS (p : List Item) (s : Nat) : Prop := ∀ (k : Nat) (h : k < p.length), (p[k]).rep = true → s.testBit k = true → s.testBit (k + 1) = true
theorem closedF_bit : ∀ (p : List Item) (k s j : Nat), (closedF p k s).testBit j = true ↔ ∃ i, i ≤ j ∧ s.testBit i = true ∧ ∀ m, i ≤ m → m < j → ∃ h : m - k < p.length, k ≤ m ∧ (p[m - k]).rep = true
  | [], k, s, j => by
    simp only [closedF]
    constructor
    · intro h; exact ⟨j, Nat.le_refl _, h, fun m h1 h2 => by omega⟩
    · rintro ⟨i, h1, h2, h3⟩
      rcases Nat.lt_or_ge i j with h | h
      · obtain ⟨h4, _⟩ := h3 i (Nat.le_refl _) h; simp at h4
      · obtain rfl : i = j := by omega
        exact h2
  | x :: p, k, s, j => by
    simp only [closedF]
    rw [closedF_bit p (k + 1)]
    constructor
    · rintro ⟨i, h1, h2, h3⟩
      have up : ∀ m, i ≤ m → m < j → ∃ h : m - k < (x :: p).length, k ≤ m ∧ ((x :: p)[m - k]).rep = true := fun m h4 h5 => by
        obtain ⟨h6, h7, h8⟩ := h3 m h4 h5
        refine ⟨by simp; omega, by omega, ?_⟩
        have e : m - k = (m - (k + 1)) + 1 := by omega
        simp only [e, List.getElem_cons_succ]
        exact h8
      by_cases hc : (x.rep && s.testBit k) = true
      · rw [if_pos hc, bit_or] at h2
        simp only [Bool.or_eq_true, decide_eq_true_eq, Bool.and_eq_true] at h2 hc
        rcases h2 with h2 | h2
        · exact ⟨i, h1, h2, up⟩
        · refine ⟨k, by omega, hc.2, fun m h4 h5 => ?_⟩
          by_cases hm : m = k
          · subst hm
            exact ⟨by simp, Nat.le_refl _, by simp [hc.1]⟩
          · exact up m (by omega) h5
      · rw [if_neg hc] at h2
        exact ⟨i, h1, h2, up⟩
    · rintro ⟨i, h1, h2, h3⟩
      have down : ∀ i', k < i' → i ≤ i' → ∀ m, i' ≤ m → m < j → ∃ h : m - (k + 1) < p.length, k + 1 ≤ m ∧ (p[m - (k + 1)]).rep = true := fun i' hk hi m h4 h5 => by
        obtain ⟨h6, h7, h8⟩ := h3 m (by omega) h5
        have e : m - k = (m - (k + 1)) + 1 := by omega
        simp only [List.length_cons] at h6
        refine ⟨by omega, by omega, ?_⟩
        simp only [e, List.getElem_cons_succ] at h8
        exact h8
      by_cases hik : i = k ∧ i < j
      · obtain ⟨rfl, hlt⟩ := hik
        obtain ⟨h6, h7, h8⟩ := h3 i (Nat.le_refl _) hlt
        simp only [Nat.sub_self, List.getElem_cons_zero] at h8
        refine ⟨i + 1, by omega, ?_, down (i + 1) (by omega) (by omega)⟩
        rw [if_pos (by simp [h8, h2]), bit_or]
        simp
      · refine ⟨i, h1, ?_, fun m h4 h5 => ?_⟩
        · split
          · rw [bit_or, h2]; rfl
          · exact h2
        · have : k ≤ i := by obtain ⟨_, h7, _⟩ := h3 i (Nat.le_refl _) (by omega); exact h7
          exact down i (by omega) (Nat.le_refl _) m h4 h5
theorem closedN_bit {p : List Item} {s j : Nat} : (closedN p s).testBit j = true ↔ ∃ i, i ≤ j ∧ s.testBit i = true ∧ ∀ m, i ≤ m → m < j → ∃ h : m < p.length, (p[m]).rep = true := by
  unfold closedN
  rw [closedF_bit]
  constructor
  · rintro ⟨i, h1, h2, h3⟩
    exact ⟨i, h1, h2, fun m h4 h5 => by obtain ⟨h6, _, h8⟩ := h3 m h4 h5; exact ⟨h6, h8⟩⟩
  · rintro ⟨i, h1, h2, h3⟩
    exact ⟨i, h1, h2, fun m h4 h5 => by obtain ⟨h6, h8⟩ := h3 m h4 h5; exact ⟨h6, Nat.zero_le _, h8⟩⟩
theorem closedN_closed (p : List Item) (s : Nat) : ClosedS p (closedN p s) := fun k hk hr hb => by
  obtain ⟨i, h1, h2, h3⟩ := closedN_bit.1 hb
  refine closedN_bit.2 ⟨i, by omega, h2, fun m h4 h5 => ?_⟩
  by_cases hm : m = k
  · subst hm; exact ⟨hk, hr⟩
  · exact h3 m h4 (by omega)
theorem nextF_bit (g : Item → Bool) (s : Nat) : ∀ (p : List Item) (k acc j : Nat), (nextF g s p k acc).testBit j = true ↔ acc.testBit j = true ∨ ∃ (m : Nat) (h : m < p.length), s.testBit (k + m) = true ∧ g (p[m]) = true ∧ (if (p[m]).rep then k + m else k + m + 1) = j
  | [], k, acc, j => by simp [nextF]
  | x :: p, k, acc, j => by
    simp only [nextF]
    rw [nextF_bit g s p (k + 1)]
    constructor
    · rintro (h | ⟨m, h1, h2, h3, h4⟩)
      · split at h
        · rename_i hc
          rw [bit_or] at h
          simp only [Bool.or_eq_true, decide_eq_true_eq, Bool.and_eq_true] at h hc
          rcases h with h | h
          · exact .inl h
          · exact .inr ⟨0, by simp, by simpa using hc.1, by simpa using hc.2, by simpa using h⟩
        · exact .inl h
      · exact .inr ⟨m + 1, by simp; omega, by rw [← h2]; congr 1; omega, by simpa using h3, by rw [← h4]; simp only [List.getElem_cons_succ]; split <;> omega⟩
    · rintro (h | ⟨m, h1, h2, h3, h4⟩)
      · left
        split
        · rw [bit_or, h]; rfl
        · exact h
      · cases m with
        | zero =>
          left
          simp only [List.getElem_cons_zero, Nat.add_zero] at h2 h3 h4
          rw [if_pos (by simp [h2, h3]), bit_or, h4]
          simp
        | succ m =>
          right
          simp only [List.getElem_cons_succ, List.length_cons] at h1 h3 h4
          exact ⟨m, by omega, by rw [← h2]; congr 1; omega, h3, by rw [← h4]; split <;> omega⟩
def runN (p : List Item) (s : Nat) (w : List β) : Nat := w.foldl (fun s c => stepN p (fun x => f x c) s) s
theorem drop_cons {p : List Item} {k : Nat} (h : k < p.length) : p.drop k = p[k] :: p.drop (k + 1) := List.drop_eq_getElem_cons h
theorem stepN_M (p : List Item) {s : Nat} (hs : ClosedS p s) (c : β) (w : List β) : (∃ j, j ≤ p.length ∧ (stepN p (fun x => f x c) s).testBit j = true ∧ M f (p.drop j) w = true) ↔ ∃ j, j ≤ p.length ∧ s.testBit j = true ∧ M f (p.drop j) (c :: w) = true := by
  constructor
  · rintro ⟨j, hj, hb, hm⟩
    obtain ⟨i, h1, h2, h3⟩ := closedN_bit.1 hb
    rw [nextF_bit] at h2
    rcases h2 with h2 | ⟨k, hk, h4, h5, h6⟩
    · simp at h2
    rw [Nat.zero_add] at h4 h6
    have hback : ∀ d i, j - i ≤ d → i ≤ j → (∀ m, i ≤ m → m < j → ∃ h : m < p.length, (p[m]).rep = true) → M f (p.drop i) w = true := by
      intro d
      induction d with
      | zero => intro i h1 h2 _; obtain rfl : i = j := by omega
                exact hm
      | succ d ih =>
        intro i h1 h2 h3
        by_cases e : i = j
        · subst e; exact hm
        · obtain ⟨hl, hr⟩ := h3 i (Nat.le_refl _) (by omega)
          rw [drop_cons hl]
          exact M_rep_skip f hr (ih (i + 1) (by omega) (by omega) (fun m h4 h5 => h3 m (by omega) h5))
    have hmi := hback (j - i) i (Nat.le_refl _) h1 h3
    refine ⟨k, by omega, h4, ?_⟩
    rw [drop_cons hk, M_cons]
    by_cases hr : (p[k]).rep = true
    · rw [if_pos hr] at h6 ⊢
      subst h6
      rw [drop_cons hk] at hmi
      rw [Bool.or_eq_true, Bool.and_eq_true]
      exact .inr ⟨h5, hmi⟩
    · rw [if_neg hr] at h6 ⊢
      subst h6
      rw [Bool.and_eq_true]
      exact ⟨h5, hmi⟩
  · rintro ⟨j, hj, hb, hm⟩
    have key : ∀ d j, p.length - j ≤ d → j ≤ p.length → s.testBit j = true → M f (p.drop j) (c :: w) = true → ∃ j, j ≤ p.length ∧ (stepN p (fun x => f x c) s).testBit j = true ∧ M f (p.drop j) w = true := by
      intro d
      induction d with
      | zero =>
        intro j h1 h2 hb hm
        rw [List.drop_eq_nil_of_le (by omega)] at hm
        simp [M] at hm
      | succ d ih =>
        intro j h1 h2 hb hm
        by_cases hl : j < p.length
        · have hm0 := hm
          rw [drop_cons hl, M_cons] at hm
          have hbit : f (p[j]) c = true → (stepN p (fun x => f x c) s).testBit (if (p[j]).rep then j else j + 1) = true := fun hf =>
            closedN_bit.2 ⟨_, Nat.le_refl _, (nextF_bit _ s p 0 0 _).2 (.inr ⟨j, hl, by rw [Nat.zero_add]; exact hb, hf, by rw [Nat.zero_add]⟩), fun m h4 h5 => by omega⟩
          by_cases hr : (p[j]).rep = true
          · rw [if_pos hr] at hm
            simp only [Bool.or_eq_true, Bool.and_eq_true] at hm
            rcases hm with hm | ⟨hf, hm⟩
            · exact ih (j + 1) (by omega) (by omega) (hs j hl hr hb) hm
            · refine ⟨j, h2, ?_, by rw [drop_cons hl]; exact hm⟩
              have := hbit hf
              rwa [if_pos hr] at this
          · rw [if_neg hr] at hm
            simp only [Bool.and_eq_true] at hm
            refine ⟨j + 1, by omega, ?_, hm.2⟩
            have := hbit hm.1
            rwa [if_neg hr] at this
        · rw [List.drop_eq_nil_of_le (by omega)] at hm
          simp [M] at hm
    exact key _ j (Nat.le_refl _) hj hb hm
theorem run_M (p : List Item) : ∀ (w : List β) (s : Nat), ClosedS p s → ((runN f p s w).testBit p.length = true ↔ ∃ j, j ≤ p.length ∧ s.testBit j = true ∧ M f (p.drop j) w = true)
  | [], s, hs => by
    show s.testBit p.length = true ↔ _
    constructor
    · intro h
      exact ⟨p.length, Nat.le_refl _, h, by rw [List.drop_length]; rfl⟩
    · rintro ⟨j, hj, hb, hm⟩
      have key : ∀ d j, p.length - j ≤ d → j ≤ p.length → s.testBit j = true → M f (p.drop j) ([] : List β) = true → s.testBit p.length = true := by
        intro d
        induction d with
        | zero => intro j h1 h2 hb _; obtain rfl : j = p.length := by omega
                  exact hb
        | succ d ih =>
          intro j h1 h2 hb hm
          by_cases hl : j < p.length
          · rw [drop_cons hl, M_nil, Bool.and_eq_true] at hm
            exact ih (j + 1) (by omega) (by omega) (hs j hl hm.1 hb) hm.2
          · obtain rfl : j = p.length := by omega
            exact hb
      exact key _ j (Nat.le_refl _) hj hb hm
  | c :: w, s, hs => by
    show (runN f p (stepN p (fun x => f x c) s) w).testBit p.length = true ↔ _
    rw [run_M p w (stepN p (fun x => f x c) s) (closedN_closed p _), stepN_M f p hs]
theorem auto_M (p : List Item) (w : List β) : (runN f p (closedN p 1) w).testBit p.length = M f p w := by
  rw [Bool.eq_iff_iff, run_M f p w _ (closedN_closed p 1)]
  constructor
  · rintro ⟨j, hj, hb, hm⟩
    obtain ⟨i, h1, h2, h3⟩ := closedN_bit.1 hb
    have hi : i = 0 := by
      rw [show (1 : Nat) = 2 ^ 0 from rfl, Nat.testBit_two_pow] at h2
      have := of_decide_eq_true h2
      exact this.symm
    subst hi
    have hback : ∀ d i, j - i ≤ d → i ≤ j → (∀ m, i ≤ m → m < j → ∃ h : m < p.length, (p[m]).rep = true) → M f (p.drop i) w = true := by
      intro d
      induction d with
      | zero => intro i h1 h2 _; obtain rfl : i = j := by omega
                exact hm
      | succ d ih =>
        intro i h1 h2 h3
        by_cases e : i = j
        · subst e; exact hm
        · obtain ⟨hl, hr⟩ := h3 i (Nat.le_refl _) (by omega)
          rw [drop_cons hl]
          exact M_rep_skip f hr (ih (i + 1) (by omega) (by omega) (fun m h4 h5 => h3 m (by omega) h5))
    exact hback j 0 (by omega) (by omega) h3
  · intro h
    exact ⟨0, Nat.zero_le _, closedN_bit.2 ⟨0, Nat.le_refl _, rfl, fun m h4 h5 => by omega⟩, h⟩
/-- The lengths of the beginnings that match: as the program finds them. -/
def lensF (p : List Item) : List β → Nat → Nat → List Nat
  | [], i, s => if s.testBit p.length then [i] else []
  | c :: w, i, s => (if s.testBit p.length then [i] else []) ++ if s = 0 then [] else lensF p w (i + 1) (stepN p (fun x => f x c) s)
theorem stepN_zero (p : List Item) (g : Item → Bool) : stepN p g 0 = 0 := by
  apply Nat.eq_of_testBit_eq
  intro j
  rw [Nat.zero_testBit, ← Bool.not_eq_true]
  intro h
  obtain ⟨i, _, h2, _⟩ := closedN_bit.1 h
  rw [nextF_bit] at h2
  simp at h2
theorem runN_zero (p : List Item) : ∀ (w : List β), runN f p 0 w = 0
  | [] => rfl
  | c :: w => by
    show runN f p (stepN p _ 0) w = 0
    rw [stepN_zero, runN_zero p w]
theorem lensF_eq (p : List Item) : ∀ (w : List β) (i s : Nat), lensF f p w i s = ((List.range (w.length + 1)).filter (fun n => (runN f p s (w.take n)).testBit p.length)).map (· + i)
  | [], i, s => by
    have e : (List.range (([] : List β).length + 1)) = [0] := rfl
    rw [e]
    by_cases h : s.testBit p.length = true
    · simp [lensF, runN, h]
    · simp [lensF, runN, h]
  | c :: w, i, s => by
    have e : (List.range ((c :: w).length + 1)).filter (fun n => (runN f p s ((c :: w).take n)).testBit p.length) = (if s.testBit p.length then [0] else []) ++ ((List.range (w.length + 1)).filter (fun n => (runN f p (stepN p (fun x => f x c) s) (w.take n)).testBit p.length)).map (· + 1) := by
      rw [List.length_cons, List.range_succ_eq_map, List.filter_cons]
      simp only [List.take_zero, runN, List.foldl_nil]
      rw [List.filter_map]
      by_cases h : s.testBit p.length = true
      · simp only [h, if_true]; rfl
      · simp only [h]; rfl
    rw [e, lensF, List.map_append]
    congr 1
    · split <;> simp
    · split
      · rename_i h0
        subst h0
        rw [stepN_zero, List.filter_eq_nil_iff.2 (fun n _ => by rw [runN_zero]; simp)]
        rfl
      · rw [lensF_eq p w, List.map_map]
        congr 1
        funext n
        simp only [Function.comp]
        omega
def lens (p : List Item) (w : List β) : List Nat := lensF f p w 0 (closedN p 1)
theorem lens_eq (p : List Item) (w : List β) : lens f p w = (List.range (w.length + 1)).filter (fun n => M f p (w.take n)) := by
  unfold lens
  rw [lensF_eq]
  simp only [Nat.add_zero, List.map_id', auto_M]
/-! #### concatenation and reversal -/
theorem M_append (p q : List Item) : ∀ (w : List β), M f (p ++ q) w = true ↔ ∃ n, n ≤ w.length ∧ M f p (w.take n) = true ∧ M f q (w.drop n) = true := by
  induction p with
  | nil =>
    intro w
    constructor
    · intro h; exact ⟨0, Nat.zero_le _, rfl, h⟩
    · rintro ⟨n, h1, h2, h3⟩
      simp only [M, List.isEmpty_iff, List.take_eq_nil_iff] at h2
      rcases h2 with rfl | rfl
      · exact h3
      · simpa using h3
  | cons x p ih =>
    intro w
    induction w with
    | nil =>
      rw [List.cons_append, M_nil, Bool.and_eq_true, ih []]
      constructor
      · rintro ⟨h1, n, h2, h3, h4⟩
        exact ⟨0, Nat.le_refl _, by rw [List.take_nil, M_nil, h1]; simpa using h3, by simpa using h4⟩
      · rintro ⟨n, h2, h3, h4⟩
        rw [List.take_nil, M_nil, Bool.and_eq_true] at h3
        exact ⟨h3.1, 0, Nat.le_refl _, by simpa using h3.2, by simpa using h4⟩
    | cons c w ihw =>
      rw [List.cons_append, M_cons]
      by_cases hr : x.rep = true
      · rw [if_pos hr, Bool.or_eq_true, Bool.and_eq_true, ih (c :: w)]
        rw [List.cons_append] at ihw
        rw [ihw]
        constructor
        · rintro (⟨n, h1, h2, h3⟩ | ⟨hf, n, h1, h2, h3⟩)
          · exact ⟨n, h1, M_rep_skip f hr h2, h3⟩
          · exact ⟨n + 1, by simp; omega, by rw [List.take_succ_cons, M_cons, if_pos hr, hf, h2]; simp, h3⟩
        · rintro ⟨n, h1, h2, h3⟩
          cases n with
          | zero =>
            rw [List.take_zero, M_nil, Bool.and_eq_true] at h2
            exact .inl ⟨0, Nat.zero_le _, h2.2, h3⟩
          | succ n =>
            rw [List.take_succ_cons, M_cons, if_pos hr, Bool.or_eq_true, Bool.and_eq_true] at h2
            rcases h2 with h2 | ⟨hf, h2⟩
            · exact .inl ⟨n + 1, h1, by rw [List.take_succ_cons]; exact h2, h3⟩
            · exact .inr ⟨hf, n, by simp at h1; omega, h2, h3⟩
      · rw [if_neg hr, Bool.and_eq_true, ih w]
        constructor
        · rintro ⟨hf, n, h1, h2, h3⟩
          exact ⟨n + 1, by simp; omega, by rw [List.take_succ_cons, M_cons, if_neg hr, hf, h2]; rfl, h3⟩
        · rintro ⟨n, h1, h2, h3⟩
          cases n with
          | zero =>
            rw [List.take_zero, M_nil, Bool.and_eq_true] at h2
            exact absurd h2.1 hr
          | succ n =>
            rw [List.take_succ_cons, M_cons, if_neg hr, Bool.and_eq_true] at h2
            exact ⟨h2.1, n, by simp at h1; omega, h2.2, h3⟩
theorem M_one (x : Item) : ∀ (w : List β), M f [x] w = true ↔ (x.rep = true ∧ w.all (f x) = true) ∨ (x.rep = false ∧ ∃ c, w = [c] ∧ f x c = true)
  | [] => by rw [M_nil]; simp [M]
  | c :: w => by
    rw [M_cons]
    by_cases hr : x.rep = true
    · rw [if_pos hr, Bool.or_eq_true, Bool.and_eq_true, M_one x w]
      simp [M, hr]
    · rw [if_neg hr]
      simp only [Bool.not_eq_true] at hr
      simp only [hr, Bool.false_eq_true, false_and, false_or, true_and, M, Bool.and_eq_true, List.isEmpty_iff]
      constructor
      · rintro ⟨h1, rfl⟩; exact ⟨c, rfl, h1⟩
      · rintro ⟨d, h1, h2⟩
        simp only [List.cons.injEq] at h1
        obtain ⟨rfl, rfl⟩ := h1
        exact ⟨h2, rfl⟩
theorem M_one_rev (x : Item) (w : List β) : M f [x] w.reverse = M f [x] w := by
  rw [Bool.eq_iff_iff, M_one, M_one, List.all_reverse]
  constructor
  · rintro (h | ⟨h1, c, h2, h3⟩)
    · exact .inl h
    · exact .inr ⟨h1, c, by rw [← List.reverse_reverse w, h2]; rfl, h3⟩
  · rintro (h | ⟨h1, c, h2, h3⟩)
    · exact .inl h
    · exact .inr ⟨h1, c, by rw [h2]; rfl, h3⟩
theorem M_reverse : ∀ (p : List Item) (w : List β), M f p.reverse w.reverse = M f p w
  | [], w => by simp [M]
  | x :: p, w => by
    rw [Bool.eq_iff_iff, List.reverse_cons, M_append, show x :: p = [x] ++ p from rfl, M_append]
    constructor
    · rintro ⟨n, h1, h2, h3⟩
      simp only [List.length_reverse] at h1
      refine ⟨w.length - n, by omega, ?_, ?_⟩
      · rw [← M_one_rev, ← h3]
        congr 1
        rw [List.reverse_take]
        congr 1
        omega
      · rw [← M_reverse p]
        rw [← h2, List.take_reverse]
        done
    · rintro ⟨n, h1, h2, h3⟩
      refine ⟨w.length - n, by simp, ?_, ?_⟩
      · rw [List.take_reverse, M_reverse p]
        rw [show w.length - (w.length - n) = n by omega]
        exact h3
      · rw [List.drop_reverse, show w.length - (w.length - n) = n by omega, M_one_rev]
        exact h2
end
end Go.GH
