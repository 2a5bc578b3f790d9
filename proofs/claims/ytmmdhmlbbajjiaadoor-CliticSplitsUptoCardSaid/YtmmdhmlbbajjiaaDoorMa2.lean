/-
  Part 2 of the texts behind the walks of this claim: an own layer over the kit's wp, plain laws, and walks. No conditions.
-/
import Derived.Test.YtmmdhmlbbajjiaaDoorMa1
import Derived.KernelRfl
import Derived.Lib.Builder
import Derived.Lib.UnsafeStr
import Derived.Laws.Externs
import Derived.Scope
import Derived.Test.YtmmdhmlbbajjiaaDoorProg
set_option linter.unusedVariables false
set_option linter.unusedSimpArgs false
set_option linter.deprecated false
namespace Go.GH
open Go

structure Item where
  mask : Int
  lets : ByteArray
  neg : Bool
  rep : Bool
def encIt (x : Item) : List DV := [.v (.int .u32 x.mask), .v (.string x.lets), .v (.bool x.neg), .v (.bool x.rep)]
abbrev DIts (p : List Item) : DV := .isl false 4 (p.map encIt)
def properB (a : List Letter) : Bool := a.all (fun l => goodR l.rune) && decide ((a.map (·.rune)).Nodup)
def validPat (a : List Letter) (p : List Item) : Bool := properB a && decide (a.length ≤ 65) && decide (p.length ≤ 3) && p.all (fun x => overA a x.lets)
def idxs (a : List Letter) (s : ByteArray) : List Nat := (runes s).map (fun r => (idx a r).getD 0)
def listed (s : ByteArray) (r : Int) : Bool := (runes s).any (fun c => c == r)
def admB (x : Item) (l : Letter) : Bool := (hasC l.cls x.mask && (decide (x.lets = ⟨#[]⟩) || listed x.lets l.rune)) != x.neg

/-! #### letters -/
theorem mapFrom_append : ∀ (a b : List Letter) (n : Nat) (es : List (Int × Nat)), mapFrom (a ++ b) n es = mapFrom b (n + a.length) (mapFrom a n es)
  | [], b, n, es => rfl
  | l :: a, b, n, es => by
    show mapFrom (a ++ b) (n + 1) _ = mapFrom b (n + (a.length + 1)) (mapFrom a (n + 1) _)
    rw [mapFrom_append a b (n + 1)]
    congr 1
    omega
theorem mapOf_snoc {a : List Letter} {i : Nat} (h : i < a.length) : mapOf (a.take (i + 1)) = mapAdd (mapOf (a.take i)) (a[i]).rune i := by
  unfold mapOf
  rw [List.take_add_one, List.getElem?_eq_getElem h, Option.toList_some, mapFrom_append]
  have : 0 + (a.take i).length = i := by simp; omega
  rw [this]
  rfl
theorem idx_take_none {a : List Letter} {r : Int} : idx a r = none ↔ r ∉ a.map (·.rune) := by
  rw [idx_none]
  constructor
  · intro h hm
    obtain ⟨l, hl, e⟩ := List.mem_map.1 hm
    exact h l hl e
  · intro h l hl e
    exact h (List.mem_map.2 ⟨l, hl, e⟩)
theorem nodup_snoc {a : List Letter} {i : Nat} (h : i < a.length) : ((a.take (i + 1)).map (·.rune)).Nodup ↔ ((a.take i).map (·.rune)).Nodup ∧ idx (a.take i) (a[i]).rune = none := by
  rw [List.take_add_one, List.getElem?_eq_getElem h, Option.toList_some, List.map_append, idx_take_none, List.nodup_append]
  simp only [List.map_cons, List.map_nil, List.mem_singleton, List.nodup_cons, List.not_mem_nil, not_false_eq_true, List.nodup_nil, and_true, true_and]
  constructor
  · rintro ⟨h1, h2⟩
    exact ⟨h1, fun hm => h2 _ hm _ rfl rfl⟩
  · rintro ⟨h1, h2⟩
    exact ⟨h1, fun x hx y hy e => h2 (by rw [← hy, ← e]; exact hx)⟩
theorem properB_iff {a : List Letter} : properB a = true ↔ (∀ l ∈ a, goodR l.rune = true) ∧ (a.map (·.rune)).Nodup := by
  simp only [properB, Bool.and_eq_true, List.all_eq_true, decide_eq_true_eq]
theorem properB_take {a : List Letter} (h : properB a = true) (i : Nat) : (∀ l ∈ a.take i, goodR l.rune = true) ∧ ((a.take i).map (·.rune)).Nodup := by
  obtain ⟨h1, h2⟩ := properB_iff.1 h
  refine ⟨fun l hl => h1 l (List.mem_of_mem_take hl), ?_⟩
  rw [List.map_take]
  exact h2.sublist (List.take_sublist ..)

/-! #### sets of positions -/
def closedF : List Item → Nat → Nat → Nat
  | [], _, s => s
  | x :: p, k, s => closedF p (k + 1) (if x.rep && s.testBit k then s ||| 2 ^ (k + 1) else s)
def closedN (p : List Item) (s : Nat) : Nat := closedF p 0 s
def nextF (f : Item → Bool) (s : Nat) : List Item → Nat → Nat → Nat
  | [], _, acc => acc
  | x :: p, k, acc => nextF f s p (k + 1) (if s.testBit k && f x then acc ||| 2 ^ (if x.rep then k else k + 1) else acc)
def stepN (p : List Item) (f : Item → Bool) (s : Nat) : Nat := closedN p (nextF f s p 0 0)
theorem two_lt {k : Nat} (h : k < 8) : 2 ^ k < 256 := Nat.pow_lt_pow_right (by decide) h
theorem or_lt {x k : Nat} (hx : x < 256) (h : k < 8) : x ||| 2 ^ k < 256 := Nat.or_lt_two_pow (n := 8) hx (two_lt h)
theorem closedF_lt : ∀ (p : List Item) (k s : Nat), k + p.length < 8 → s < 256 → closedF p k s < 256
  | [], _, _, _, h => h
  | x :: p, k, s, h1, h2 => by
    simp only [List.length_cons] at h1
    refine closedF_lt p (k + 1) _ (by omega) ?_
    split
    · exact or_lt h2 (by omega)
    · exact h2
theorem closedN_lt {p : List Item} {s : Nat} (h1 : p.length < 8) (h2 : s < 256) : closedN p s < 256 := closedF_lt p 0 s (by omega) h2
theorem nextF_lt (f : Item → Bool) (s : Nat) : ∀ (p : List Item) (k acc : Nat), k + p.length < 8 → acc < 256 → nextF f s p k acc < 256
  | [], _, _, _, h => h
  | x :: p, k, acc, h1, h2 => by
    simp only [List.length_cons] at h1
    refine nextF_lt f s p (k + 1) _ (by omega) ?_
    split
    · refine or_lt h2 ?_
      split <;> omega
    · exact h2
theorem stepN_lt {p : List Item} (f : Item → Bool) {s : Nat} (h1 : p.length < 8) : stepN p f s < 256 := closedN_lt h1 (nextF_lt f s p 0 0 (by omega) (by omega))
theorem bit1 {s k : Nat} : s >>> k &&& 1 = 1 ↔ s.testBit k = true := by
  rw [Nat.testBit, bne_iff_ne, Nat.and_comm, Nat.one_and_eq_mod_two]
  omega
theorem bit1i {s k : Nat} : ((s >>> k &&& 1 : Nat) : Int) = 1 ↔ s.testBit k = true := by
  rw [← bit1]; omega
theorem bit0i {s k : Nat} : ((s >>> k &&& 1 : Nat) : Int) = 0 ↔ s.testBit k = false := by
  have h : s >>> k &&& 1 = 0 ∨ s >>> k &&& 1 = 1 := by rw [Nat.and_comm, Nat.one_and_eq_mod_two]; omega
  rw [← Bool.not_eq_true, ← bit1]; omega
theorem bit_or {x k j : Nat} : (x ||| 2 ^ k).testBit j = (x.testBit j || decide (k = j)) := by
  rw [Nat.testBit_or, Nat.testBit_two_pow]

/-! #### what a pattern matches -/
section
variable {β : Type} (f : Item → β → Bool)
def starM (g : List β → Bool) (h : β → Bool) : List β → Bool
  | [] => g []
  | c :: s => g (c :: s) || (h c && starM g h s)
def M : List Item → List β → Bool
  | [], s => s.isEmpty
  | x :: p, s => if x.rep then starM (M p) (f x) s else match s with
    | [] => false
    | c :: s' => f x c && M p s'
theorem M_rep_skip {x : Item} {p : List Item} (h : x.rep = true) {s : List β} (hm : M f p s = true) : M f (x :: p) s = true := by
  simp only [M, h, if_true]
  cases s with
  | nil => exact hm
  | cons c s => simp [starM, hm]
theorem M_cons (x : Item) (p : List Item) (c : β) (s : List β) : M f (x :: p) (c :: s) = if x.rep then M f p (c :: s) || (f x c && M f (x :: p) s) else f x c && M f p s := by
  simp only [M]
  split <;> simp [starM]
theorem M_nil (x : Item) (p : List Item) : M f (x :: p) [] = (x.rep && M f p []) := by
  simp only [M]
  split
  · rename_i h; simp [h, starM]
  · rename_i h; simp [h]
/-- The bits of a closed set's successor, told by places. -/
def ClosedS (p : List Item) (s : Nat) : Prop := ∀ (k : Nat) (h : k < p.length), (p[k]).rep = true → s.testBit k = true → s.testBit (k + 1) = true
theorem closedF_bit : ∀ (p : List Item) (k s j : Nat), (closedF p k s).testBit j = true ↔ ∃ i, i ≤ j ∧ s.testBit i = true ∧ ∀ m, i ≤ m → m < j → ∃ h : m - k < p.length, k ≤ m ∧ (p[m - k]).rep = true
  | [], k, s, j => by
    simp only [closedF]
    constructor
    · intro h; exact ⟨j, Nat.le_refl _, h, fun m h1 h2 => by omega⟩
    · rintro ⟨i, h1, h2, h3⟩
      rcases Nat.lt_or_ge i j with h | h
      · obtain ⟨h4, _⟩ := h3 i (Nat.le_refl _) h; simp at h4
      · obtain rfl : i = j := by omega
        exact h2
  | x :: p, k, s, j => by
    simp only [closedF]
    rw [closedF_bit p (k + 1)]
    constructor
    · rintro ⟨i, h1, h2, h3⟩
      have up : ∀ m, i ≤ m → m < j → ∃ h : m - k < (x :: p).length, k ≤ m ∧ ((x :: p)[m - k]).rep = true := fun m h4 h5 => by
        obtain ⟨h6, h7, h8⟩ := h3 m h4 h5
        refine ⟨by simp; omega, by omega, ?_⟩
        have e : m - k = (m - (k + 1)) + 1 := by omega
        simp only [e, List.getElem_cons_succ]
        exact h8
      by_cases hc : (x.rep && s.testBit k) = true
      · rw [if_pos hc, bit_or] at h2
        simp only [Bool.or_eq_true, decide_eq_true_eq, Bool.and_eq_true] at h2 hc
        rcases h2 with h2 | h2
        · exact ⟨i, h1, h2, up⟩
        · refine ⟨k, by omega, hc.2, fun m h4 h5 => ?_⟩
          by_cases hm : m = k
          · subst hm
            exact ⟨by simp, Nat.le_refl _, by simp [hc.1]⟩
          · exact up m (by omega) h5
      · rw [if_neg hc] at h2
        exact ⟨i, h1, h2, up⟩
    · rintro ⟨i, h1, h2, h3⟩
      have down : ∀ i', k < i' → i ≤ i' → ∀ m, i' ≤ m → m < j → ∃ h : m - (k + 1) < p.length, k + 1 ≤ m ∧ (p[m - (k + 1)]).rep = true := fun i' hk hi m h4 h5 => by
        obtain ⟨h6, h7, h8⟩ := h3 m (by omega) h5
        have e : m - k = (m - (k + 1)) + 1 := by omega
        simp only [List.length_cons] at h6
        refine ⟨by omega, by omega, ?_⟩
        simp only [e, List.getElem_cons_succ] at h8
        exact h8
      by_cases hik : i = k ∧ i < j
      · obtain ⟨rfl, hlt⟩ := hik
        obtain ⟨h6, h7, h8⟩ := h3 i (Nat.le_refl _) hlt
        simp only [Nat.sub_self, List.getElem_cons_zero] at h8
        refine ⟨i + 1, by omega, ?_, down (i + 1) (by omega) (by omega)⟩
        rw [if_pos (by simp [h8, h2]), bit_or]
        simp
      · refine ⟨i, h1, ?_, fun m h4 h5 => ?_⟩
        · split
          · rw [bit_or, h2]; rfl
          · exact h2
        · have : k ≤ i := by obtain ⟨_, h7, _⟩ := h3 i (Nat.le_refl _) (by omega); exact h7
          exact down i (by omega) (Nat.le_refl _) m h4 h5
theorem closedN_bit {p : List Item} {s j : Nat} : (closedN p s).testBit j = true ↔ ∃ i, i ≤ j ∧ s.testBit i = true ∧ ∀ m, i ≤ m → m < j → ∃ h : m < p.length, (p[m]).rep = true := by
  unfold closedN
  rw [closedF_bit]
  constructor
  · rintro ⟨i, h1, h2, h3⟩
    exact ⟨i, h1, h2, fun m h4 h5 => by obtain ⟨h6, _, h8⟩ := h3 m h4 h5; exact ⟨h6, h8⟩⟩
  · rintro ⟨i, h1, h2, h3⟩
    exact ⟨i, h1, h2, fun m h4 h5 => by obtain ⟨h6, h8⟩ := h3 m h4 h5; exact ⟨h6, Nat.zero_le _, h8⟩⟩
theorem closedN_closed (p : List Item) (s : Nat) : ClosedS p (closedN p s) := fun k hk hr hb => by
  obtain ⟨i, h1, h2, h3⟩ := closedN_bit.1 hb
  refine closedN_bit.2 ⟨i, by omega, h2, fun m h4 h5 => ?_⟩
  by_cases hm : m = k
  · subst hm; exact ⟨hk, hr⟩
  · exact h3 m h4 (by omega)
theorem nextF_bit (g : Item → Bool) (s : Nat) : ∀ (p : List Item) (k acc j : Nat), (nextF g s p k acc).testBit j = true ↔ acc.testBit j = true ∨ ∃ (m : Nat) (h : m < p.length), s.testBit (k + m) = true ∧ g (p[m]) = true ∧ (if (p[m]).rep then k + m else k + m + 1) = j
  | [], k, acc, j => by simp [nextF]
  | x :: p, k, acc, j => by
    simp only [nextF]
    rw [nextF_bit g s p (k + 1)]
    constructor
    · rintro (h | ⟨m, h1, h2, h3, h4⟩)
      · split at h
        · rename_i hc
          rw [bit_or] at h
          simp only [Bool.or_eq_true, decide_eq_true_eq, Bool.and_eq_true] at h hc
          rcases h with h | h
          · exact .inl h
          · exact .inr ⟨0, by simp, by simpa using hc.1, by simpa using hc.2, by simpa using h⟩
        · exact .inl h
      · exact .inr ⟨m + 1, by simp; omega, by rw [← h2]; congr 1; omega, by simpa using h3, by rw [← h4]; simp only [List.getElem_cons_succ]; split <;> omega⟩
    · rintro (h | ⟨m, h1, h2, h3, h4⟩)
      · left
        split
        · rw [bit_or, h]; rfl
        · exact h
      · cases m with
        | zero =>
          left
          simp only [List.getElem_cons_zero, Nat.add_zero] at h2 h3 h4
          rw [if_pos (by simp [h2, h3]), bit_or, h4]
          simp
        | succ m =>
          right
          simp only [List.getElem_cons_succ, List.length_cons] at h1 h3 h4
          exact ⟨m, by omega, by rw [← h2]; congr 1; omega, h3, by rw [← h4]; split <;> omega⟩
def runN (p : List Item) (s : Nat) (w : List β) : Nat := w.foldl (fun s c => stepN p (fun x => f x c) s) s
theorem drop_cons {p : List Item} {k : Nat} (h : k < p.length) : p.drop k = p[k] :: p.drop (k + 1) := List.drop_eq_getElem_cons h
theorem stepN_M (p : List Item) {s : Nat} (hs : ClosedS p s) (c : β) (w : List β) : (∃ j, j ≤ p.length ∧ (stepN p (fun x => f x c) s).testBit j = true ∧ M f (p.drop j) w = true) ↔ ∃ j, j ≤ p.length ∧ s.testBit j = true ∧ M f (p.drop j) (c :: w) = true := by
  constructor
  · rintro ⟨j, hj, hb, hm⟩
    obtain ⟨i, h1, h2, h3⟩ := closedN_bit.1 hb
    rw [nextF_bit] at h2
    rcases h2 with h2 | ⟨k, hk, h4, h5, h6⟩
    · simp at h2
    rw [Nat.zero_add] at h4 h6
    have hback : ∀ d i, j - i ≤ d → i ≤ j → (∀ m, i ≤ m → m < j → ∃ h : m < p.length, (p[m]).rep = true) → M f (p.drop i) w = true := by
      intro d
      induction d with
      | zero => intro i h1 h2 _; obtain rfl : i = j := by omega
                exact hm
      | succ d ih =>
        intro i h1 h2 h3
        by_cases e : i = j
        · subst e; exact hm
        · obtain ⟨hl, hr⟩ := h3 i (Nat.le_refl _) (by omega)
          rw [drop_cons hl]
          exact M_rep_skip f hr (ih (i + 1) (by omega) (by omega) (fun m h4 h5 => h3 m (by omega) h5))
    have hmi := hback (j - i) i (Nat.le_refl _) h1 h3
    refine ⟨k, by omega, h4, ?_⟩
    rw [drop_cons hk, M_cons]
    by_cases hr : (p[k]).rep = true
    · rw [if_pos hr] at h6 ⊢
      subst h6
      rw [drop_cons hk] at hmi
      rw [Bool.or_eq_true, Bool.and_eq_true]
      exact .inr ⟨h5, hmi⟩
    · rw [if_neg hr] at h6 ⊢
      subst h6
      rw [Bool.and_eq_true]
      exact ⟨h5, hmi⟩
  · rintro ⟨j, hj, hb, hm⟩
    have key : ∀ d j, p.length - j ≤ d → j ≤ p.length → s.testBit j = true → M f (p.drop j) (c :: w) = true → ∃ j, j ≤ p.length ∧ (stepN p (fun x => f x c) s).testBit j = true ∧ M f (p.drop j) w = true := by
      intro d
      induction d with
      | zero =>
        intro j h1 h2 hb hm
        rw [List.drop_eq_nil_of_le (by omega)] at hm
        simp [M] at hm
      | succ d ih =>
        intro j h1 h2 hb hm
        by_cases hl : j < p.length
        · have hm0 := hm
          rw [drop_cons hl, M_cons] at hm
          have hbit : f (p[j]) c = true → (stepN p (fun x => f x c) s).testBit (if (p[j]).rep then j else j + 1) = true := fun hf =>
            closedN_bit.2 ⟨_, Nat.le_refl _, (nextF_bit _ s p 0 0 _).2 (.inr ⟨j, hl, by rw [Nat.zero_add]; exact hb, hf, by rw [Nat.zero_add]⟩), fun m h4 h5 => by omega⟩
          by_cases hr : (p[j]).rep = true
          · rw [if_pos hr] at hm
            simp only [Bool.or_eq_true, Bool.and_eq_true] at hm
            rcases hm with hm | ⟨hf, hm⟩
            · exact ih (j + 1) (by omega) (by omega) (hs j hl hr hb) hm
            · refine ⟨j, h2, ?_, by rw [drop_cons hl]; exact hm⟩
              have := hbit hf
              rwa [if_pos hr] at this
          · rw [if_neg hr] at hm
            simp only [Bool.and_eq_true] at hm
            refine ⟨j + 1, by omega, ?_, hm.2⟩
            have := hbit hm.1
            rwa [if_neg hr] at this
        · rw [List.drop_eq_nil_of_le (by omega)] at hm
          simp [M] at hm
    exact key _ j (Nat.le_refl _) hj hb hm
theorem run_M (p : List Item) : ∀ (w : List β) (s : Nat), ClosedS p s → ((runN f p s w).testBit p.length = true ↔ ∃ j, j ≤ p.length ∧ s.testBit j = true ∧ M f (p.drop j) w = true)
  | [], s, hs => by
    show s.testBit p.length = true ↔ _
    constructor
    · intro h
      exact ⟨p.length, Nat.le_refl _, h, by rw [List.drop_length]; rfl⟩
    · rintro ⟨j, hj, hb, hm⟩
      have key : ∀ d j, p.length - j ≤ d → j ≤ p.length → s.testBit j = true → M f (p.drop j) ([] : List β) = true → s.testBit p.length = true := by
        intro d
        induction d with
        | zero => intro j h1 h2 hb _; obtain rfl : j = p.length := by omega
                  exact hb
        | succ d ih =>
          intro j h1 h2 hb hm
          by_cases hl : j < p.length
          · rw [drop_cons hl, M_nil, Bool.and_eq_true] at hm
            exact ih (j + 1) (by omega) (by omega) (hs j hl hm.1 hb) hm.2
          · obtain rfl : j = p.length := by omega
            exact hb
      exact key _ j (Nat.le_refl _) hj hb hm
  | c :: w, s, hs => by
    show (runN f p (stepN p (fun x => f x c) s) w).testBit p.length = true ↔ _
    rw [run_M p w (stepN p (fun x => f x c) s) (closedN_closed p _), stepN_M f p hs]
theorem auto_M (p : List Item) (w : List β) : (runN f p (closedN p 1) w).testBit p.length = M f p w := by
  rw [Bool.eq_iff_iff, run_M f p w _ (closedN_closed p 1)]
  constructor
  · rintro ⟨j, hj, hb, hm⟩
    obtain ⟨i, h1, h2, h3⟩ := closedN_bit.1 hb
    have hi : i = 0 := by
      rw [show (1 : Nat) = 2 ^ 0 from rfl, Nat.testBit_two_pow] at h2
      have := of_decide_eq_true h2
      exact this.symm
    subst hi
    have hback : ∀ d i, j - i ≤ d → i ≤ j → (∀ m, i ≤ m → m < j → ∃ h : m < p.length, (p[m]).rep = true) → M f (p.drop i) w = true := by
      intro d
      induction d with
      | zero => intro i h1 h2 _; obtain rfl : i = j := by omega
                exact hm
      | succ d ih =>
        intro i h1 h2 h3
        by_cases e : i = j
        · subst e; exact hm
        · obtain ⟨hl, hr⟩ := h3 i (Nat.le_refl _) (by omega)
          rw [drop_cons hl]
          exact M_rep_skip f hr (ih (i + 1) (by omega) (by omega) (fun m h4 h5 => h3 m (by omega) h5))
    exact hback j 0 (by omega) (by omega) h3
  · intro h
    exact ⟨0, Nat.zero_le _, closedN_bit.2 ⟨0, Nat.le_refl _, rfl, fun m h4 h5 => by omega⟩, h⟩
/-- The lengths of the beginnings that match: as the program finds them. -/
def lensF (p : List Item) : List β → Nat → Nat → List Nat
  | [], i, s => if s.testBit p.length then [i] else []
  | c :: w, i, s => (if s.testBit p.length then [i] else []) ++ if s = 0 then [] else lensF p w (i + 1) (stepN p (fun x => f x c) s)
theorem stepN_zero (p : List Item) (g : Item → Bool) : stepN p g 0 = 0 := by
  apply Nat.eq_of_testBit_eq
  intro j
  rw [Nat.zero_testBit, ← Bool.not_eq_true]
  intro h
  obtain ⟨i, _, h2, _⟩ := closedN_bit.1 h
  rw [nextF_bit] at h2
  simp at h2
theorem runN_zero (p : List Item) : ∀ (w : List β), runN f p 0 w = 0
  | [] => rfl
  | c :: w => by
    show runN f p (stepN p _ 0) w = 0
    rw [stepN_zero, runN_zero p w]
theorem lensF_eq (p : List Item) : ∀ (w : List β) (i s : Nat), lensF f p w i s = ((List.range (w.length + 1)).filter (fun n => (runN f p s (w.take n)).testBit p.length)).map (· + i)
  | [], i, s => by
    have e : (List.range (([] : List β).length + 1)) = [0] := rfl
    rw [e]
    by_cases h : s.testBit p.length = true
    · simp [lensF, runN, h]
    · simp [lensF, runN, h]
  | c :: w, i, s => by
    have e : (List.range ((c :: w).length + 1)).filter (fun n => (runN f p s ((c :: w).take n)).testBit p.length) = (if s.testBit p.length then [0] else []) ++ ((List.range (w.length + 1)).filter (fun n => (runN f p (stepN p (fun x => f x c) s) (w.take n)).testBit p.length)).map (· + 1) := by
      rw [List.length_cons, List.range_succ_eq_map, List.filter_cons]
      simp only [List.take_zero, runN, List.foldl_nil]
      rw [List.filter_map]
      by_cases h : s.testBit p.length = true
      · simp only [h, if_true]; rfl
      · simp only [h]; rfl
    rw [e, lensF, List.map_append]
    congr 1
    · split <;> simp
    · split
      · rename_i h0
        subst h0
        rw [stepN_zero, List.filter_eq_nil_iff.2 (fun n _ => by rw [runN_zero]; simp)]
        rfl
      · rw [lensF_eq p w, List.map_map]
        congr 1
        funext n
        simp only [Function.comp]
        omega
def lens (p : List Item) (w : List β) : List Nat := lensF f p w 0 (closedN p 1)
theorem lens_eq (p : List Item) (w : List β) : lens f p w = (List.range (w.length + 1)).filter (fun n => M f p (w.take n)) := by
  unfold lens
  rw [lensF_eq]
  simp only [Nat.add_zero, List.map_id', auto_M]
/-! #### concatenation and reversal -/
theorem M_append (p q : List Item) : ∀ (w : List β), M f (p ++ q) w = true ↔ ∃ n, n ≤ w.length ∧ M f p (w.take n) = true ∧ M f q (w.drop n) = true := by
  induction p with
  | nil =>
    intro w
    constructor
    · intro h; exact ⟨0, Nat.zero_le _, rfl, h⟩
    · rintro ⟨n, h1, h2, h3⟩
      simp only [M, List.isEmpty_iff, List.take_eq_nil_iff] at h2
      rcases h2 with rfl | rfl
      · exact h3
      · simpa using h3
  | cons x p ih =>
    intro w
    induction w with
    | nil =>
      rw [List.cons_append, M_nil, Bool.and_eq_true, ih []]
      constructor
      · rintro ⟨h1, n, h2, h3, h4⟩
        exact ⟨0, Nat.le_refl _, by rw [List.take_nil, M_nil, h1]; simpa using h3, by simpa using h4⟩
      · rintro ⟨n, h2, h3, h4⟩
        rw [List.take_nil, M_nil, Bool.and_eq_true] at h3
        exact ⟨h3.1, 0, Nat.le_refl _, by simpa using h3.2, by simpa using h4⟩
    | cons c w ihw =>
      rw [List.cons_append, M_cons]
      by_cases hr : x.rep = true
      · rw [if_pos hr, Bool.or_eq_true, Bool.and_eq_true, ih (c :: w)]
        rw [List.cons_append] at ihw
        rw [ihw]
        constructor
        · rintro (⟨n, h1, h2, h3⟩ | ⟨hf, n, h1, h2, h3⟩)
          · exact ⟨n, h1, M_rep_skip f hr h2, h3⟩
          · exact ⟨n + 1, by simp; omega, by rw [List.take_succ_cons, M_cons, if_pos hr, hf, h2]; simp, h3⟩
        · rintro ⟨n, h1, h2, h3⟩
          cases n with
          | zero =>
            rw [List.take_zero, M_nil, Bool.and_eq_true] at h2
            exact .inl ⟨0, Nat.zero_le _, h2.2, h3⟩
          | succ n =>
            rw [List.take_succ_cons, M_cons, if_pos hr, Bool.or_eq_true, Bool.and_eq_true] at h2
            rcases h2 with h2 | ⟨hf, h2⟩
            · exact .inl ⟨n + 1, h1, by rw [List.take_succ_cons]; exact h2, h3⟩
            · exact .inr ⟨hf, n, by simp at h1; omega, h2, h3⟩
      · rw [if_neg hr, Bool.and_eq_true, ih w]
        constructor
        · rintro ⟨hf, n, h1, h2, h3⟩
          exact ⟨n + 1, by simp; omega, by rw [List.take_succ_cons, M_cons, if_neg hr, hf, h2]; rfl, h3⟩
        · rintro ⟨n, h1, h2, h3⟩
          cases n with
          | zero =>
            rw [List.take_zero, M_nil, Bool.and_eq_true] at h2
            exact absurd h2.1 hr
          | succ n =>
            rw [List.take_succ_cons, M_cons, if_neg hr, Bool.and_eq_true] at h2
            exact ⟨h2.1, n, by simp at h1; omega, h2.2, h3⟩
theorem M_one (x : Item) : ∀ (w : List β), M f [x] w = true ↔ (x.rep = true ∧ w.all (f x) = true) ∨ (x.rep = false ∧ ∃ c, w = [c] ∧ f x c = true)
  | [] => by rw [M_nil]; simp [M]
  | c :: w => by
    rw [M_cons]
    by_cases hr : x.rep = true
    · rw [if_pos hr, Bool.or_eq_true, Bool.and_eq_true, M_one x w]
      simp [M, hr]
    · rw [if_neg hr]
      simp only [Bool.not_eq_true] at hr
      simp only [hr, Bool.false_eq_true, false_and, false_or, true_and, M, Bool.and_eq_true, List.isEmpty_iff]
      constructor
      · rintro ⟨h1, rfl⟩; exact ⟨c, rfl, h1⟩
      · rintro ⟨d, h1, h2⟩
        simp only [List.cons.injEq] at h1
        obtain ⟨rfl, rfl⟩ := h1
        exact ⟨h2, rfl⟩
theorem M_one_rev (x : Item) (w : List β) : M f [x] w.reverse = M f [x] w := by
  rw [Bool.eq_iff_iff, M_one, M_one, List.all_reverse]
  constructor
  · rintro (h | ⟨h1, c, h2, h3⟩)
    · exact .inl h
    · exact .inr ⟨h1, c, by rw [← List.reverse_reverse w, h2]; rfl, h3⟩
  · rintro (h | ⟨h1, c, h2, h3⟩)
    · exact .inl h
    · exact .inr ⟨h1, c, by rw [h2]; rfl, h3⟩
theorem M_reverse : ∀ (p : List Item) (w : List β), M f p.reverse w.reverse = M f p w
  | [], w => by simp [M]
  | x :: p, w => by
    rw [Bool.eq_iff_iff, List.reverse_cons, M_append, show x :: p = [x] ++ p from rfl, M_append]
    constructor
    · rintro ⟨n, h1, h2, h3⟩
      simp only [List.length_reverse] at h1
      refine ⟨w.length - n, by omega, ?_, ?_⟩
      · rw [← M_one_rev, ← h3]
        congr 1
        rw [List.reverse_take]
        congr 1
        omega
      · rw [← M_reverse p]
        rw [← h2, List.take_reverse]
        done
    · rintro ⟨n, h1, h2, h3⟩
      refine ⟨w.length - n, by simp, ?_, ?_⟩
      · rw [List.take_reverse, M_reverse p]
        rw [show w.length - (w.length - n) = n by omega]
        exact h3
      · rw [List.drop_reverse, show w.length - (w.length - n) = n by omega, M_one_rev]
        exact h2
end
end Go.GH
namespace Go.GH
open Go Go.RowKit

section
variable {C : Ctx} {E : Env} {base : Base} {F : Nat → Prop} {st : St} {a : Act} {w : World} {ops : Array Oper} {rest : List Oper} {R : St → Prop}
  {t : Tmp} {ty : TypeId} {pos : String} {aft : Array Edge} {g : Option (Nat × Bool)}

theorem accD_one (sz b : Nat) (es : List (List DV)) : (accD sz b es).one = true := by cases es <;> rfl

/-! #### a pointer that is not nil -/
def DV.isPtr : DV → Bool
  | .ref _ _ | .vref _ _ _ | .ipin _ => true
  | _ => false
theorem SOps.nilCheck {xo : Operand} {d : DV} (hx : st.val xo = some d) (hp : d.isPtr = true) (hrest : SOps C ops rest (st.put t d) R)
    (hg : st.wants ops g = some true := by rfl) (ht : Nat.blt t st.n = true := by rfl) : SOps C ops (⟨some t, .nilCheck xo, ty, pos, aft, g⟩ :: rest) st R :=
  SOps.val rfl hg ht (fun base a w F hs => by
    have h1 := hs.val hx
    refine ⟨a.eval xo, ?_, h1⟩
    generalize hv : a.eval xo = v at h1
    cases h1 <;> first | (simp [DV.isPtr] at hp; done) | (simp [execOp, hv])) hrest
theorem SOps.fieldV {s f off b e n : Nat} {xo : Operand} (hx : st.val xo = some (.vref b e n)) (hs : fieldB C.P s f off = true) (hrest : SOps C ops rest (st.put t (.ref b (0 + off))) R)
    (hg : st.wants ops g = some true := by rfl) (ht : Nat.blt t st.n = true := by rfl) : SOps C ops (⟨some t, .fieldAddr s xo f, ty, pos, aft, g⟩ :: rest) st R :=
  SOps.val rfl hg ht (fun base a w F hsim => by
    have h1 := hsim.val hx
    generalize hv : a.eval xo = v at h1
    cases h1 with
    | vref => exact ⟨_, by simp [execOp, hv, run_field hs, add_plain'], .ref _ _⟩) hrest
theorem SOps.allocV {T sz : Nat} {z : Value} {cs : List DV} (hz : zeroIs C.P T z) (hrest : ∀ b, st.fresh b → SOps C ops rest ⟨st.n, (t, .vref b T sz) :: st.slots, (b, .row T sz [cs]) :: st.heap⟩ R)
    (hcs : z.cells.toList.map DV.v = cs := by rfl) (hsz : cs.length = sz := by rfl) (hb : zcellsB z = true := by rfl)
    (hg : st.wants ops g = some true := by rfl) (ht : Nat.blt t st.n = true := by rfl) : SOps C ops (⟨some t, .alloc T, ty, pos, aft, g⟩ :: rest) st R :=
  SOps.new (d := fun b => .vref b T sz) (ob := fun _ => .row T sz [cs]) rfl hg ht (fun base a w F hs => by
    have hl : z.cells.size = sz := by rw [← hsz, ← hcs]; simp
    refine ⟨w, .pointer (some ⟨w.heap.size, 0, none⟩), .cells z.cells T, Step.refl _ _, rfl, ?_, .vref (by rw [shape_new, hl]), row_new (by rw [← hcs]; simp) hsz (fun j x hx => (zcells_spec hb j x hx).2) (fun b hb => (hs.lt b hb).1) (fun j x d hx hd => ?_)⟩
    · simp [execOp, Instr.alloc, run_zeroValue hz, newVar, newRow]
    · rw [← hcs] at hd
      simp at hd
      obtain ⟨y, hy, rfl⟩ := hd
      rw [hy] at hx
      obtain rfl := Option.some.inj hx
      exact .v (zcells_spec hb j y hy).1) hrest

def ptrB (P : Program) (tp te : Nat) : Prop := P.underlying tp = some (.pointer te) ∧ ∃ j, P.info? te = some j ∧ j.size ≠ 0
theorem SOps.eqPtr {T T2 te : TypeId} {xo yo : Operand} {b e n e' n' : Nat} (hT : ptrB C.P T te) (hx : st.val xo = some (.vref b e n)) (hy : st.val yo = some (.vref b e' n')) (hrest : SOps C ops rest (st.put t (.v (.bool false))) R)
    (hg : st.wants ops g = some true := by rfl) (ht : Nat.blt t st.n = true := by rfl) : SOps C ops (⟨some t, .binOp .neq T xo yo T2, ty, pos, aft, g⟩ :: rest) st R :=
  SOps.val rfl hg ht (fun base a w F hs => by
    have h1 := hs.val hx
    have h2 := hs.val hy
    generalize hv : a.eval xo = v at h1
    generalize hv' : a.eval yo = v' at h2
    obtain ⟨hp, j, hj, hjs⟩ := hT
    cases h1; cases h2
    refine ⟨.bool false, ?_, .v trivial⟩
    simp only [execOp, hv, hv']
    exact run_binNext (by simp only [eqGuard, Sem.run_bind]; simp [Lib.run_neq_ptr_same w _ hp hj])) hrest
/-- Against nil. -/
theorem SOps.eqNil {T T2 te : TypeId} {xo yo : Operand} {d : DV} (c : Bool) (hT : ptrB C.P T te) (hx : st.val xo = some d) (hd : (d.isPtr = true ∧ c = false) ∨ (d = .v (.pointer none) ∧ c = true)) (hy : st.val yo = some (.v (.pointer none))) (hrest : SOps C ops rest (st.put t (.v (.bool c))) R)
    (hg : st.wants ops g = some true := by rfl) (ht : Nat.blt t st.n = true := by rfl) : SOps C ops (⟨some t, .binOp .eql T xo yo T2, ty, pos, aft, g⟩ :: rest) st R :=
  SOps.val rfl hg ht (fun base a w F hs => by
    have h1 := hs.val hx
    have h2 := (hs.val hy).inv_v.1
    generalize hv : a.eval xo = v at h1
    obtain ⟨hp, j, hj, hjs⟩ := hT
    refine ⟨.bool c, ?_, .v trivial⟩
    simp only [execOp, hv, h2]
    have key : ∀ (d : Nat) (q : Option Addr), q.isNone = c → (Op.equalIn (d + 1) T (.pointer q) (.pointer none)).run C.P w = .ok c w := fun d q hq => by
      cases q <;> (simp only [Option.isNone] at hq; subst hq; simp [Op.equalIn, run_underlying hp])
    have fin : ∀ (q : Option Addr), q.isNone = c → (do let v ← (do eqGuard .eql T xo yo (.pointer q) (.pointer none); binOp .eql T (.pointer q) (.pointer none) : Sem Value); pure (Next.value v) : Sem Next).run C.P w = .ok (.value (.bool c)) w := fun q hq =>
      run_binNext (by simp only [eqGuard, binOp, Op.equal, Op.maxDepth, Sem.run_bind]; simp [key 9999 q hq])
    rcases hd with ⟨hd, rfl⟩ | ⟨rfl, rfl⟩
    · cases h1 <;> first | (simp [DV.isPtr] at hd; done) | exact fin _ rfl
    · rw [h1.inv_v.1]; exact fin _ rfl) hrest

/-! #### the road of copyCheck: to unsafe.Pointer, through NoEscape, and back -/
theorem SOps.toUnsafe {src dst u : TypeId} {xo : Operand} {b e n : Nat} (hx : st.val xo = some (.vref b e n)) (hS : ptrB C.P src u) (hD : C.P.underlying dst = some .unsafePointer) (hn : 0 < n) (hrest : SOps C ops rest (st.put t (.vref b e n)) R)
    (hg : st.wants ops g = some true := by rfl) (ht : Nat.blt t st.n = true := by rfl) : SOps C ops (⟨some t, .convert src dst xo, ty, pos, aft, g⟩ :: rest) st R :=
  SOps.val rfl hg ht (fun base a w F hs => by
    have h1 := hs.val hx
    obtain ⟨hp, j, hj, hjs⟩ := hS
    generalize hv : a.eval xo = v at h1
    cases h1 with
    | vref h =>
      refine ⟨_, ?_, .vref h⟩
      rw [show execOp a.eval ⟨some t, .convert src dst xo, ty, pos, aft, g⟩ = (do pure (.value (← convert src dst (a.eval xo)))) from rfl, hv, Sem.run_bind, Lib.run_to_unsafe w ⟨b, 0, none⟩ hp hD hj hjs h hn]
      rfl) hrest
theorem SOps.fromUnsafe {src dst u : TypeId} {xo : Operand} {b e n : Nat} (hx : st.val xo = some (.vref b e n)) (hS : C.P.underlying src = some .unsafePointer) (hD : ptrB C.P dst u) (hl : liesAt C.P C.P.depth e (n / C.P.cellsOf e) 0 u 1 = true) (hrest : SOps C ops rest (st.put t (.vref b e n)) R)
    (hg : st.wants ops g = some true := by rfl) (ht : Nat.blt t st.n = true := by rfl) : SOps C ops (⟨some t, .convert src dst xo, ty, pos, aft, g⟩ :: rest) st R :=
  SOps.val rfl hg ht (fun base a w F hs => by
    have h1 := hs.val hx
    obtain ⟨hp, j, hj, hjs⟩ := hD
    generalize hv : a.eval xo = v at h1
    cases h1 with
    | vref h =>
      refine ⟨_, ?_, .vref h⟩
      rw [show execOp a.eval ⟨some t, .convert src dst xo, ty, pos, aft, g⟩ = (do pure (.value (← convert src dst (a.eval xo)))) from rfl, hv, Sem.run_bind, Lib.run_from_unsafe w ⟨b, 0, none⟩ hS hp hj h hl]
      rfl) hrest
def noEscB (P : Program) (f : FuncId) : Prop := ∃ fn, P.funcs[f]? = some fn ∧ (fn.name == "runtime.NumGoroutine") = false ∧ fn.body.isNone = true ∧ Extern.findNext fn = none ∧ Extern.find fn = some Extern.AbiNoEscape.same
theorem SOps.noEscape {f : FuncId} {xo : Operand} {ats : Array TypeId} {d : DV} (hf : noEscB C.P f) (hx : st.val xo = some d) (hrest : SOps C ops rest (st.put t d) R)
    (hg : st.wants ops g = some true := by rfl) (ht : Nat.blt t st.n = true := by rfl) : SOps C ops (⟨some t, .call { callee := .value (.func f), args := #[xo], argTypes := ats }, ty, pos, aft, g⟩ :: rest) st R :=
  SOps.val rfl hg ht (fun base a w F hs => by
    obtain ⟨fn, h1, h2, h3, h4, h5⟩ := hf
    refine ⟨a.eval xo, ?_, hs.val hx⟩
    have e1 : execOp a.eval ⟨some t, .call { callee := .value (.func f), args := #[xo], argTypes := ats }, ty, pos, aft, g⟩ = callFunc f #[a.eval xo] := by
      rw [show execOp a.eval ⟨some t, .call { callee := .value (.func f), args := #[xo], argTypes := ats }, ty, pos, aft, g⟩ = callFunc f (#[] ++ #[xo].map a.eval ++ #[]) from rfl]; simp
    rw [e1, run_callFunc_extern h1 h2 h3 h4 h5]
    simp only [Lib.run_noEscape]
    rfl) hrest

/-! #### unsafe.String over an own row of bytes -/
def dataD (gb : Nat) : List UInt8 → DV
  | [] => .v (.pointer none)
  | _ :: _ => .ref gb 0
theorem SOps.sliceData {ats : Array TypeId} {xo : Operand} {gb : Nat} {bs : List UInt8} (hx : st.val xo = some (accD 1 gb (bs.map encY))) (hrest : SOps C ops rest (st.put t (dataD gb bs)) R)
    (hg : st.wants ops g = some true := by rfl) (ht : Nat.blt t st.n = true := by rfl) : SOps C ops (⟨some t, .call { callee := .builtin .unsafeSliceData, args := #[xo], argTypes := ats }, ty, pos, aft, g⟩ :: rest) st R :=
  SOps.val rfl hg ht (fun base a w F hs => by
    have h1 := hs.val hx
    have hrun : ∀ v, a.eval xo = v → execOp a.eval ⟨some t, .call { callee := .builtin .unsafeSliceData, args := #[xo], argTypes := ats }, ty, pos, aft, g⟩ = (do pure (.value (← Builtin.unsafeSliceData_ ats ty #[v]))) := fun v hv => by
      subst hv; simp [execOp, resolve, invoke, builtin]
    cases bs with
    | nil =>
      refine ⟨_, ?_, .v trivial⟩
      rw [hrun _ h1.inv_v.1, Sem.run_bind, Lib.run_unsafeSliceData_nil]; rfl
    | cons b bs =>
      generalize hv : a.eval xo = v at h1
      simp only [List.map_cons, accD] at h1
      cases h1 with
      | @sl b' sz off len cap e n q1 q2 q3 q4 =>
        refine ⟨_, ?_, .ref _ _⟩
        rw [hrun _ hv, Sem.run_bind, Lib.run_unsafeSliceData_row (w := w) ats ty _ _ _ (by omega)]; simp) hrest
end

theorem freeze_other (w : World) (g n b : Nat) (h : b ≠ g) : (w.freeze ⟨g, 0, none⟩ n).heap[b]? = w.heap[b]? := by
  unfold World.freeze
  split
  · rfl
  · simp only [Array.getElem?_modify]; rw [if_neg (fun e => h e.symm)]
theorem shape?_freeze (w : World) (a : Addr) (n b : Nat) : (w.freeze a n).shape? b = w.shape? b := by
  unfold World.freeze
  split
  · rfl
  · unfold World.shape?
    by_cases h : a.block = b
    · subst h
      simp only [Array.getElem?_modify, if_true]
      cases hh : w.heap[a.block]? with
      | none => simp
      | some o => cases o <;> simp
    · simp only [Array.getElem?_modify]; rw [if_neg h]
theorem Step.freeze (w : World) (g n : Nat) : Step (· = g) w (w.freeze ⟨g, 0, none⟩ n) :=
  ⟨by unfold World.freeze; split <;> rfl, by unfold World.freeze; split <;> rfl, by unfold World.freeze; split <;> rfl, by unfold World.freeze; split <;> simp, fun b _ hb => freeze_other w g n b hb, fun b s h => by rw [shape?_freeze]; exact h⟩

section
variable {C : Ctx} {E : Env} {base : Base} {F : Nat → Prop} {st : St} {a : Act} {w : World} {ops : Array Oper} {rest : List Oper} {R : St → Prop}
  {t : Tmp} {ty : TypeId} {pos : String} {aft : Array Edge} {g : Option (Nat × Bool)}

/-- unsafe.String: the own row, if there is one, is let go. -/
theorem SOps.unsafeStr {pt it e gb : TypeId} {po no : Operand} {bs : List UInt8} (H1 H2 : DHeap) (hp : C.P.underlying pt = some (.pointer e)) (hc : C.P.cellsOf e = 1) (hx : st.val po = some (dataD gb bs))
    (hn : st.val no = some (.v (.int .i64 bs.length))) (hh : st.heap = H1 ++ (accH e 1 gb (bs.map encY) ++ H2)) (hrest : SOps C ops rest ⟨st.n, (t, .v (.string ⟨bs.toArray⟩)) :: st.slots, H1 ++ H2⟩ R)
    (hg : st.wants ops g = some true := by rfl) (ht : Nat.blt t st.n = true := by rfl) : SOps C ops (⟨some t, .call { callee := .builtin .unsafeString, args := #[po, no], argTypes := #[pt, it] }, ty, pos, aft, g⟩ :: rest) st R := by
  have hrun : ∀ (a : Act) v u, a.eval po = v → a.eval no = u → execOp a.eval ⟨some t, .call { callee := .builtin .unsafeString, args := #[po, no], argTypes := #[pt, it] }, ty, pos, aft, g⟩ = (do pure (.value (← Builtin.unsafeString_ #[pt, it] ty #[v, u]))) := fun a v u hv hu => by
    subst hv; subst hu; simp [execOp, resolve, invoke, builtin]
  cases bs with
  | nil =>
    have e1 : H1 ++ H2 = st.heap := by rw [hh]; rfl
    rw [e1] at hrest
    refine SOps.val rfl hg ht (fun base a w F hs => ⟨.string .empty, ?_, .v (by simp [scal, lenB])⟩) hrest
    rw [hrun a _ _ (hs.val hx).inv_v.1 (hs.val hn).inv_v.1, Sem.run_bind]
    have := Lib.run_unsafeString_none (P := C.P) w pt it ty none
    simp only [List.length_nil]
    rw [show ((0 : Nat) : Int) = 0 from rfl, this]; rfl
  | cons y bs =>
    refine SOps.op (R1 := (· = ⟨st.n, (t, .v (.string ⟨(y :: bs).toArray⟩)) :: st.slots, H1 ++ H2⟩)) hg ?_ (fun st' e => e ▸ hrest)
    intro base ok a w F hs K Q hK
    have h1 := hs.val hx
    have h2 := (hs.val hn).inv_v
    generalize hv : a.eval po = v at h1
    have hi : st.heap[H1.length]? = some (gb, .row e 1 ((y :: bs).map encY)) := by rw [hh]; simp [accH]
    obtain ⟨k1, k2, cs, c1, c2, c3, c4⟩ := hs.heap _ (List.mem_of_getElem? hi)
    simp only at c1
    cases h1 with
    | ref =>
      have hcell : ∀ (j : Nat) x, (y :: bs)[j]? = some x → w.cell? ((⟨gb, 0, none⟩ : Addr).add j) = some (.int .u8 x.toNat) := fun j x hj => by
        have hj' : ((y :: bs).map encY)[j]? = some (encY x) := by rw [List.getElem?_map, hj]; rfl
        obtain ⟨z, hz, _, hr⟩ := (c4 j _ hj').2 0 _ rfl
        have hz' := hr.inv_v.1
        rw [add_plain', cell_of_row w gb _ cs _ _ c1]
        simp only [Nat.mul_one, Nat.add_zero, Nat.zero_add] at hz ⊢
        rw [hz, hz']
      have hlen : (y :: bs).length ≤ cs.size := by simpa using c2
      have hmx : (y :: bs).length ≤ 9223372036854775807 := by
        have e0 : ((y :: bs).map encY).length = (y :: bs).length := by simp
        rw [e0] at c3; exact c3
      have hr := Lib.run_unsafeString_row (P := C.P) w pt it ty e hp hc gb cs.size (by simp [World.shape?, c1]) (y :: bs) (by simp) hlen hmx hcell
      unfold Oper.wp
      rw [hrun a _ _ hv h2.1, Sem.run_bind, hr]
      simp only [Result.andThen_ok, Sem.run_pure]
      rw [Oper.upon_value]
      refine hK _ _ _ rfl ⟨F, ?_⟩
      have hst := Step.freeze w gb (y :: bs).length
      have hw : SimF C.E base F ⟨st.n, st.slots, H1 ++ H2⟩ a (w.freeze ⟨gb, 0, none⟩ (y :: bs).length) := by
        have hF : ∀ c, F c → (w.freeze ⟨gb, 0, none⟩ (y :: bs).length).heap[c]? = w.heap[c]? := fun c hc => freeze_other w gb _ c (fun e => k2 (e ▸ hc))
        have hk := hs.keys
        rw [hh] at hk
        exact {
          keep := hs.keep.then hst (fun c hc e => by
            subst e
            rcases k1 with h | h
            · exact h
            · exact absurd hc (Nat.not_lt.2 h))
          base_lt := hs.base_lt
          sub := hs.sub
          lt := fun c hc => ⟨Nat.lt_of_lt_of_le (hs.lt c hc).1 hst.size, (hs.lt c hc).2⟩
          env := C.E.mono hF (fun _ x => x) hs.env
          size := hs.size
          slots := fun t d ht => ⟨(hs.slots t d ht).1, (hs.slots t d ht).2.mono hF hst.shape (fun _ x => x)⟩
          heap := fun p hp => by
            have hmem : p ∈ st.heap := by rw [hh]; simp only [List.mem_append] at hp ⊢; exact hp.elim .inl (fun h => .inr (.inr h))
            obtain ⟨h1, h2, h3⟩ := hs.heap p hmem
            refine ⟨h1, h2, h3.mono (freeze_other w gb _ _ (fun e => ?_)) hF hst.shape (fun _ x => x)⟩
            simp only [accH, List.map_cons, List.map_append, List.singleton_append] at hk
            rw [List.nodup_append] at hk
            obtain ⟨_, k5, k6⟩ := hk
            rw [List.nodup_cons] at k5
            rcases List.mem_append.1 hp with h | h
            · exact k6 _ (List.mem_map.2 ⟨p, h, rfl⟩) gb (List.mem_cons_self ..) e
            · exact k5.1 (List.mem_map.2 ⟨p, h, e⟩)
          keys := by
            simp only [accH, List.map_cons, List.map_append, List.singleton_append] at hk ⊢
            rw [List.nodup_append] at hk ⊢
            obtain ⟨k4, k5, k6⟩ := hk
            exact ⟨k4, (List.nodup_cons.1 k5).2, fun x hx y hy => k6 x hx y (List.mem_cons_of_mem _ hy)⟩
          defers := hs.defers }
      exact SimF.put (st := ⟨st.n, st.slots, H1 ++ H2⟩) hw (by simpa using ht) (.v (by
        show (y :: bs).toArray.size ≤ lenB
        rw [List.size_toArray]; exact hmx))
end

/-! ### regions of open order whose last operations act -/
def reqF (l : List Oper) : Nat → Nat → List Nat
  | 0, _ => []
  | f + 1, k => match l[k]? with
    | none => []
    | some o => (List.range k).filter (fun j => afterB o j) ++ (((List.range k).filter (fun j => afterB o j)).map (reqF l f)).flatten
theorem reqF_spec {l : List Oper} {L : Nat → Bool} (hc : ∀ (k : Nat) o j, l[k]? = some o → L k = true → afterB o j = true → L j = true) : ∀ (f k : Nat), L k = true → ∀ j ∈ reqF l f k, L j = true
  | 0, _, _, _, h => by simp [reqF] at h
  | f + 1, k, hk, j, h => by
    simp only [reqF] at h
    split at h
    · simp at h
    · rename_i o ho
      rcases List.mem_append.1 h with h | h
      · exact hc k o j ho hk (by simpa using (List.mem_filter.1 h).2)
      · obtain ⟨js, hjs, hj⟩ := List.mem_flatten.1 h
        obtain ⟨i, hi, rfl⟩ := List.mem_map.1 hjs
        exact reqF_spec hc f i (hc k o i ho hk (by simpa using (List.mem_filter.1 hi).2)) j hj
/-- From place m on, each operation waits for all that is listed before it. -/
def seqB (l : List Oper) (m f : Nat) : Bool := (List.range l.length).all (fun k => Nat.blt k m || (List.range k).all (fun j => (reqF l f k).any (fun x => Nat.beq x j)))
inductive SeqOk (C : Ctx) (ops : Array Oper) : (St → Prop) → List Oper → (St → Prop) → Prop
  | nil {R : St → Prop} : SeqOk C ops R [] R
  | cons {R R1 R2 : St → Prop} {o : Oper} {os : List Oper} (h : ∀ st, R st → SOps C ops [o] st R1) (k : SeqOk C ops R1 os R2) : SeqOk C ops R (o :: os) R2
theorem OpsOk.atDraw {C : Ctx} {l : List Oper} {n : Nat} {s : List (Nat × DV)} {H : DHeap} {D : List (Nat × DV)} {ts : List Nat} {srcs : List (List (Nat ⊕ Nat))} {nds : List (List (Nat × DV))} {l1 : List Oper}
    (hts : D.map (·.1) = ts) (hnodup : (D.map (·.1)).Nodup) (hsrc : ∀ i o, l1[i]? = some o → ∀ ss, srcs[i]? = some ss → ∀ x ∈ ss, srcB l1 ts i o x = true) (hnd : srcs.map (needOf D s) = nds) (hops : OpsOk C l.toArray n H l1 nds D)
    {L : Nat → Bool} {st' : St} {i : Nat} {o : Oper} (hi : l1[i]? = some o) (hLi : L i = false) (hle : (⟨n, pick2 L 0 D s, H⟩ : St).Le st') (haft : ∀ j, afterB o j = true → L j = true) (hbef : ∀ k o', l1[k]? = some o' → afterB o' i = true → L k = false) :
    SOps C l.toArray [o] st' (fun st2 => (⟨n, pick2 (fun k => if k = i then true else L k) 0 D s, H⟩ : St).Le st2) := by
  obtain ⟨nd, p, h1, h2, h3⟩ := hops.at i o hi
  refine SOps.weaken hle ?_
  have hneed : ∀ t d, getL nd t = some d → getL (pick2 L 0 D s) t = some d := by
    rw [← hnd] at h1
    obtain ⟨ss, hss, e⟩ := Option.map_eq_some_iff.1 (by simpa using h1)
    have hchk := hsrc i o hi ss hss
    subst e
    have key : ∀ (ss : List (Nat ⊕ Nat)), (∀ x ∈ ss, srcB l1 ts i o x = true) → ∀ t d, getL (needOf D s ss) t = some d → getL (pick2 L 0 D s) t = some d := by
      intro ss
      induction ss with
      | nil => intro _ t d h; simp [needOf, getL] at h
      | cons x ss ih =>
        intro hx t d h
        have ih' := ih (fun y hy => hx y (List.mem_cons_of_mem _ hy)) t d
        have hx0 := hx x (List.mem_cons_self ..)
        cases x with
        | inl j =>
          simp only [srcB, Bool.and_eq_true] at hx0
          simp only [needOf] at h
          split at h
          · rename_i q hq
            rw [getL_cons] at h
            split at h
            · rename_i e
              subst e
              obtain rfl := Option.some.inj h
              exact pick2_some D 0 j s q hnodup hq (by simpa using haft j hx0.1)
            · exact ih' h
          · exact ih' h
        | inr u =>
          simp only [srcB, List.all_eq_true] at hx0
          simp only [needOf] at h
          split at h
          · rename_i q hq
            rw [getL_cons] at h
            split at h
            · rename_i e
              simp only at e
              subst e
              obtain rfl := Option.some.inj h
              rw [pick2_none D 0 s (fun k p hk hp => ?_)]
              · exact hq
              · have h4 := hx0 (p.1, k) (by rw [List.mem_iff_getElem?]; exact ⟨k, by rw [← hts]; simp [List.getElem?_zipIdx, hk]⟩)
                simp only [hp, Nat.beq_refl, Bool.not_true, Bool.false_or, Bool.or_eq_true] at h4
                rw [Nat.zero_add]
                rcases h4 with h4 | h4
                · rw [Nat.eq_of_beq_eq_true h4]; exact hLi
                · unfold nthB at h4
                  split at h4
                  · rename_i o' ho'
                    exact hbef k o' ho' h4
                  · cases h4
            · exact ih' h
          · exact ih' h
    exact key ss hchk
  have hnl : ∀ t, getL (nd ++ pick2 L 0 D s) t = getL (pick2 L 0 D s) t := by
    intro t
    have : ∀ (nd : List (Nat × DV)), (∀ d, getL nd t = some d → getL (pick2 L 0 D s) t = some d) → getL (nd ++ pick2 L 0 D s) t = getL (pick2 L 0 D s) t := by
      intro nd
      induction nd with
      | nil => intro _; rfl
      | cons q nd ih =>
        intro h
        rw [List.cons_append, getL_cons]
        split
        · rename_i e
          exact (h q.2 (by rw [getL_cons, if_pos e])).symm
        · rename_i e
          exact ih (fun d hd => h d (by rw [getL_cons, if_neg e]; exact hd))
    exact this nd (hneed t)
  refine SOps.weaken (st' := ⟨n, nd ++ pick2 L 0 D s, H⟩) ⟨rfl, fun t d ht => .inl ((hnl t).symm.trans ht), H, .refl _, .refl _⟩ ((h3 (pick2 L 0 D s)).mono ?_)
  rintro st2 rfl
  refine ⟨rfl, fun t d ht => .inl ?_, H, .refl _, .refl _⟩
  show getL (p :: (nd ++ pick2 L 0 D s)) t = some d
  rw [getL_cons, hnl]
  have ht : getL (pick2 (fun k => if k = i then true else L k) 0 D s) t = some d := ht
  by_cases hpt : p.1 = t
  · rw [if_pos hpt]
    subst hpt
    rw [pick2_some D 0 i s p hnodup h2 (by simp)] at ht
    exact ht
  · rw [if_neg hpt, ← ht]
    have : ∀ (D : List (Nat × DV)) (b : Nat), (∀ k q, D[k]? = some q → b + k = i → q.1 ≠ t) → getL (pick2 L b D s) t = getL (pick2 (fun k => if k = i then true else L k) b D s) t := by
      intro D
      induction D with
      | nil => intro b _; rfl
      | cons q D ih =>
        intro b h
        have ih' := ih (b + 1) (fun k q' hk hb => h (k + 1) q' (by simpa using hk) (by omega))
        simp only [pick2]
        by_cases hbi : b = i
        · have hq := h 0 q rfl (by omega)
          simp only [if_pos hbi, if_true]
          rw [getL_cons, if_neg hq]
          split
          · rw [getL_cons, if_neg hq]; exact ih'
          · exact ih'
        · simp only [if_neg hbi]
          split
          · rw [getL_cons, getL_cons]
            split
            · rfl
            · exact ih'
          · exact ih'
    exact this D 0 (fun k q hk hb => by
      have : k = i := by omega
      subst this
      rw [h2] at hk
      obtain rfl := Option.some.inj hk
      exact hpt)
theorem pick2_all {L : Nat → Bool} {s : List (Nat × DV)} : ∀ (D : List (Nat × DV)) (b : Nat), (∀ k, b ≤ k → k < b + D.length → L k = true) → pick2 L b D s = D ++ s
  | [], _, _ => rfl
  | q :: D, b, h => by
    simp only [pick2, h b (Nat.le_refl _) (by simp), if_true, pick2_all D (b + 1) (fun k h1 h2 => h k (by omega) (by simp only [List.length_cons]; omega)), List.cons_append]
theorem SCode.drawSeq {C : Ctx} {id : Nat} (l1 l2 : List Oper) {n : Nat} {s : List (Nat × DV)} {H : DHeap} {Q : Exit → St → Prop} {Rend : St → Prop} (f : Nat) (hm : C.P.follows .mixedOrders = true) (D : List (Nat × DV)) (ts : List Nat) (srcs : List (List (Nat ⊕ Nat))) (nds : List (List (Nat × DV)))
    (hts : D.map (·.1) = ts) (hB : drawB l1 ts srcs = true) (hd : distB ts = true) (hord : ordB (l1 ++ l2) = true) (hseq : seqB (l1 ++ l2) l1.length f = true) (hnd : srcs.map (needOf D s) = nds) (hops : OpsOk C (l1 ++ l2).toArray n H l1 nds D)
    (hl2 : SeqOk C (l1 ++ l2).toArray (fun st => (⟨n, D ++ s, H⟩ : St).Le st) l2 Rend) (hQ : ∀ st, Rend st → ∃ s2 : St, s2.Le st ∧ Q .normal s2) : SCode C (.region id (l1 ++ l2).toArray true) ⟨n, s, H⟩ Q := by
  simp only [drawB, Bool.and_eq_true, List.all_eq_true] at hB
  obtain ⟨⟨_, hlen⟩, hsrc⟩ := hB
  have hlen := Nat.eq_of_beq_eq_true hlen
  have hnodup : (D.map (·.1)).Nodup := hts ▸ distB_spec ts hd
  have hDl : D.length = l1.length := by rw [hlen, ← hts]; simp
  have hsrc' : ∀ i o, l1[i]? = some o → ∀ ss, srcs[i]? = some ss → ∀ x ∈ ss, srcB l1 ts i o x = true := fun i o hi ss hss => by
    have hchk := hsrc (o, i) (by rw [List.mem_iff_getElem?]; exact ⟨i, by simp [List.getElem?_zipIdx, hi]⟩)
    simp only [hss, List.all_eq_true] at hchk
    exact hchk
  have hwait : ∀ (L : Nat → Bool), (∀ (k : Nat) o j, (l1 ++ l2)[k]? = some o → L k = true → afterB o j = true → L j = true) → ∀ k, l1.length ≤ k → k < (l1 ++ l2).length → (∀ o, (l1 ++ l2)[k]? = some o → ∀ j, afterB o j = true → L j = true) → ∀ j, j < k → L j = true := by
    intro L hcl k hk1 hk2 ho j hj
    have h1 := List.all_eq_true.1 hseq k (List.mem_range.2 hk2)
    simp only [Bool.or_eq_true] at h1
    rcases h1 with h1 | h1
    · exact absurd (by simpa using h1) (Nat.not_lt.2 hk1)
    · have h2 := List.all_eq_true.1 h1 j (List.mem_range.2 hj)
      obtain ⟨x, hx, hxj⟩ := List.any_eq_true.1 h2
      have := Nat.eq_of_beq_eq_true hxj
      subst this
      cases f with
      | zero => simp [reqF] at hx
      | succ f =>
        simp only [reqF, List.getElem?_eq_getElem hk2] at hx
        have ho' := ho _ (List.getElem?_eq_getElem hk2)
        rcases List.mem_append.1 hx with hx | hx
        · exact ho' x (by simpa using (List.mem_filter.1 hx).2)
        · obtain ⟨js, hjs, hjx⟩ := List.mem_flatten.1 hx
          obtain ⟨i, hi, rfl⟩ := List.mem_map.1 hjs
          exact reqF_spec hcl f i (ho' i (by simpa using (List.mem_filter.1 hi).2)) x hjx
  refine SCode.drawAny hm hord (fun L st' => ((∀ k, l1.length ≤ k → L k = false) ∧ (⟨n, pick2 L 0 D s, H⟩ : St).Le st') ∨ ∃ (j : Nat) (R : St → Prop), l1.length ≤ j ∧ (∀ k, k < j → L k = true) ∧ (∀ k, j ≤ k → L k = false) ∧ SeqOk C (l1 ++ l2).toArray R (l2.drop (j - l1.length)) Rend ∧ R st') ?_ ?_ ?_
  · refine .inl ⟨fun _ _ => rfl, ?_⟩
    have : ∀ (D : List (Nat × DV)) i, pick2 (fun _ => false) i D s = s := fun D => by
      induction D with
      | nil => intro i; rfl
      | cons p D ih => intro i; simp [pick2, ih]
    rw [this D 0]
    exact ⟨rfl, fun t d h => .inl h, H, .refl _, .refl _⟩
  · intro L st' i o hi hLi hinv haft hbef hcl
    have hil := (List.getElem?_eq_some_iff.1 hi).1
    by_cases him : i < l1.length
    · have hi1 : l1[i]? = some o := by rw [List.getElem?_append_left him] at hi; exact hi
      rcases hinv with ⟨h1, h2⟩ | ⟨j, R, hj, h1, _⟩
      · refine (OpsOk.atDraw hts hnodup hsrc' hnd hops hi1 hLi h2 haft (fun k o' hk hka => hbef k o' (by rw [List.getElem?_append_left (List.getElem?_eq_some_iff.1 hk).1]; exact hk) hka)).mono (fun st2 h3 => .inl ⟨fun k hk => ?_, h3⟩)
        show (if k = i then true else L k) = false
        rw [if_neg (by omega)]; exact h1 k hk
      · rw [h1 i (by omega)] at hLi; cases hLi
    · have him : l1.length ≤ i := Nat.not_lt.1 him
      have hall := hwait L hcl i him hil (fun o' ho' => by rw [hi] at ho'; obtain rfl := Option.some.inj ho'; exact haft)
      have hR : ∃ R : St → Prop, SeqOk C (l1 ++ l2).toArray R (l2.drop (i - l1.length)) Rend ∧ R st' ∧ ∀ k, i ≤ k → L k = false := by
        rcases hinv with ⟨h1, h2⟩ | ⟨j, R, hj, h1, h2, h3, h4⟩
        · have hi0 : i = l1.length := by
            rcases Nat.lt_or_ge l1.length i with h | h
            · have := h1 _ (Nat.le_refl _); rw [hall _ h] at this; cases this
            · omega
          subst hi0
          refine ⟨_, by rw [Nat.sub_self]; exact hl2, ?_, h1⟩
          rw [pick2_all D 0 (fun k _ hk => hall k (by omega))] at h2
          exact h2
        · have hij : i = j := by
            rcases Nat.lt_trichotomy i j with h | h | h
            · rw [h1 i h] at hLi; cases hLi
            · exact h
            · have := h2 j (Nat.le_refl _); rw [hall j h] at this; cases this
          subst hij
          exact ⟨R, h3, h4, h2⟩
      obtain ⟨R, h3, h4, h5⟩ := hR
      have hi2 : l2[i - l1.length]? = some o := by rw [List.getElem?_append_right him] at hi; exact hi
      rw [List.drop_eq_getElem_cons (List.getElem?_eq_some_iff.1 hi2).1] at h3
      have ho : l2[i - l1.length]'(List.getElem?_eq_some_iff.1 hi2).1 = o := (List.getElem?_eq_some_iff.1 hi2).2
      rw [ho] at h3
      cases h3 with
      | @cons _ R1 _ _ _ h k =>
        refine (h st' h4).mono (fun st2 h6 => .inr ⟨i + 1, R1, by omega, fun k hk => ?_, fun k hk => ?_, by rw [show i + 1 - l1.length = i - l1.length + 1 from by omega]; exact k, h6⟩)
        · show (if k = i then true else L k) = true
          by_cases hki : k = i
          · rw [if_pos hki]
          · rw [if_neg hki]; exact hall k (by omega)
        · show (if k = i then true else L k) = false
          rw [if_neg (by omega)]; exact h5 k (by omega)
  · intro L st' hall hinv
    rcases hinv with ⟨h1, h2⟩ | ⟨j, R, hj, h1, h2, h3, h4⟩
    · cases l2 with
      | nil =>
        cases hl2
        rw [pick2_all D 0 (fun k _ hk => hall k (by simp; omega))] at h2
        exact hQ _ h2
      | cons o os =>
        have := h1 l1.length (Nat.le_refl _)
        rw [hall _ (by simp)] at this; cases this
    · have hj2 : (l1 ++ l2).length ≤ j := by
        rcases Nat.lt_or_ge j (l1 ++ l2).length with h | h
        · have := h2 j (Nat.le_refl _); rw [hall j h] at this; cases this
        · exact h
      rw [List.length_append] at hj2
      rw [List.drop_eq_nil_of_le (by omega)] at h3
      cases h3
      exact hQ _ h4
theorem SCode.drawSeqAt {C : Ctx} {id : Nat} {l : List Oper} (m : Nat) {n : Nat} {s : List (Nat × DV)} {H : DHeap} {Q : Exit → St → Prop} (Rend : St → Prop) (f : Nat) (hm : C.P.follows .mixedOrders = true) (D : List (Nat × DV)) (ts : List Nat) (srcs : List (List (Nat ⊕ Nat))) (nds : List (List (Nat × DV)))
    (hts : D.map (·.1) = ts) (hB : drawB (l.take m) ts srcs = true) (hd : distB ts = true) (hord : ordB l = true) (hseq : seqB l m f = true) (hml : (l.take m).length = m) (hnd : srcs.map (needOf D s) = nds) (hops : OpsOk C l.toArray n H (l.take m) nds D)
    (hl2 : SeqOk C l.toArray (fun st => (⟨n, D ++ s, H⟩ : St).Le st) (l.drop m) Rend) (hQ : ∀ st, Rend st → ∃ s2 : St, s2.Le st ∧ Q .normal s2) : SCode C (.region id l.toArray true) ⟨n, s, H⟩ Q := by
  have e := List.take_append_drop m l
  have := SCode.drawSeq (C := C) (id := id) (l.take m) (l.drop m) (n := n) (s := s) (H := H) (Q := Q) (Rend := Rend) f hm D ts srcs nds hts hB hd (by rw [e]; exact hord) (by rw [e, hml]; exact hseq) hnd (by rw [e]; exact hops) (by rw [e]; exact hl2) hQ
  rwa [e] at this
/-- A call that is handed the last own blocks. -/
theorem SOps.callR {C : Ctx} {st : St} {ops : Array Oper} {rest : List Oper} {R : St → Prop} {t : Tmp} {ty : TypeId} {pos : String} {aft : Array Edge} {g : Option (Nat × Bool)} {f : FuncId} {xs : Array Operand} {ats : Array TypeId} {ds : List DV} (H G : DHeap) {Rr : DV → DHeap → Prop} (hf : GCall C.P C.E f ds H Rr) (hxs : st.vals xs.toList = some ds)
    (hH : st.heap = G ++ H) (hrest : ∀ d H', Rr d H' → SOps C ops rest ⟨st.n, (t, d) :: st.slots, G ++ H'⟩ R)
    (hg : st.wants ops g = some true := by rfl) (ht : Nat.blt t st.n = true := by rfl) :
    SOps C ops (⟨some t, .call { callee := .value (.func f), args := xs, argTypes := ats }, ty, pos, aft, g⟩ :: rest) st R := by
  have hv : ∀ (l : List Operand) (ds : List DV), st.vals l = some ds → (⟨st.n, st.slots, H ++ G⟩ : St).vals l = some ds := fun l => by
    induction l with
    | nil => exact fun ds h => h
    | cons x l ih =>
      intro ds h
      simp only [St.vals] at h ⊢
      split at h
      · rename_i d ds' h1 h2
        have e1 : (⟨st.n, st.slots, H ++ G⟩ : St).val x = some d := by cases x <;> exact h1
        rw [e1, ih ds' h2]; exact h
      · cases h
  have hgw : ∀ g, st.wants ops g = some true → (⟨st.n, st.slots, H ++ G⟩ : St).wants ops g = some true := fun g h => h
  refine SOps.weaken (st' := ⟨st.n, st.slots, H ++ G⟩) ⟨rfl, fun t d h => .inl h, G ++ H, List.perm_append_comm, by rw [hH]; exact List.Sublist.refl _⟩ ?_
  refine SOps.call (H := H) (G := G) hf (hv _ _ hxs) rfl (fun d H' h => ?_) (hgw _ hg) ht
  exact SOps.weaken (st' := ⟨st.n, (t, d) :: st.slots, G ++ H'⟩) ⟨rfl, fun t d h => .inl h, H' ++ G, List.perm_append_comm, List.Sublist.refl _⟩ (hrest d H' h)
/-! #### maps, told by what is found in them -/
end Go.GH
namespace Go.GH
open Go Go.RowKit
section
variable {C : Ctx} {E : Env} {base : Base} {F : Nat → Prop} {st : St} {a : Act} {w : World} {ops : Array Oper} {rest : List Oper} {R : St → Prop}
  {t : Tmp} {ty : TypeId} {pos : String} {aft : Array Edge} {g : Option (Nat × Bool)}

theorem append_zero {P : Program} {w : World} {T e sz : Nat} (hT : sliceB P T e sz = true) (ty : TypeId) (A A' : Option Addr) (len cap c' : Nat) (hcap : len ≤ cap) :
    (Builtin.append_ #[T, T] ty #[.slice A len cap, .slice A' 0 c']).run P w = .ok (.slice A len cap) w := by
  obtain ⟨hu, i, hi, hs⟩ := sliceB_spec hT
  unfold Builtin.append_
  simp only [List.getElem?_toArray, List.getElem?_cons_zero, List.getElem?_cons_succ, Sem.run_bind, run_underlying hu, Result.andThen_ok, sizeOf, typeInfo, run_program, hi, Sem.run_pure, pure_bind, Builtin.lenOf, Bool.false_eq_true, if_false, Bool.not_false, if_true, Nat.add_zero, if_pos hcap]
  cases A' with
  | none => cases A <;> simp [Builtin.firstCells, storeCells]
  | some b => cases A <;> simp [Builtin.firstCells, loadCells, loadCellsFrom, storeCells]
/-- Nothing is appended. -/
theorem SOps.append0 {T e sz : Nat} {xo yo : Operand} {d dy : DV} (hT : sliceB C.P T e sz = true) (hx : st.val xo = some d) (hd : (∃ b n, d = .sl b sz 0 n) ∨ d = .v (.slice none 0 0)) (hy : st.val yo = some dy) (hs' : SrcD st dy sz [])
    (hrest : SOps C ops rest (st.put t d) R)
    (hg : st.wants ops g = some true := by rfl) (ht : Nat.blt t st.n = true := by rfl) :
    SOps C ops (⟨some t, .call { callee := .builtin .append, args := #[xo, yo], argTypes := #[T, T] }, ty, pos, aft, g⟩ :: rest) st R :=
  SOps.val rfl hg ht (fun base a w F hs => by
    have h1 := hs.val hx
    obtain ⟨A', m, c', news, h2, h3, _⟩ := hs.src (hs.val hy) hs'
    simp only [List.length_nil] at h3
    subst h3
    refine ⟨a.eval xo, ?_, h1⟩
    have key : ∃ A len cap, a.eval xo = .slice A len cap ∧ len ≤ cap := by
      generalize a.eval xo = v at h1
      rcases hd with ⟨b, n, rfl⟩ | rfl
      · cases h1 with
        | sl q1 q2 q3 q4 => exact ⟨_, _, _, rfl, q1⟩
      · exact ⟨none, 0, 0, h1.inv_v.1, Nat.le_refl _⟩
    obtain ⟨A, len, cap, h4, h5⟩ := key
    have := append_zero (P := C.P) (w := w) hT ty A A' len cap c' h5
    rw [exec_append a xo yo T (v := .slice A len cap) (w' := w) (by rw [h2, h4]; exact this), h4]) hrest
/-- append onto a slice that owns its row, of what may be nothing. -/
theorem SOps.appendOwnE (i : Nat) {T e sz by_ b n : Nat} {xo yo : Operand} {d : DV} {es ns : List (List DV)} (hT : sliceB C.P T e sz = true) (hE : elemB C.P e sz by_ = true) (hx : st.val xo = some (.sl b sz 0 n)) (hy : st.val yo = some d)
    (hi : st.heap[i]? = some (b, .row e sz es)) (hn : es.length = n) (hs' : SrcD st d sz ns) (hB : n + ns.length ≤ lenB) (hby : (n + ns.length) * by_ ≤ 140737488355328)
    (hrest : ∀ b', SOps C ops rest ⟨st.n, (t, .sl b' sz 0 (n + ns.length)) :: st.slots, st.heap.set i (b', .row e sz (es ++ ns))⟩ R)
    (hg : st.wants ops g = some true := by rfl) (ht : Nat.blt t st.n = true := by rfl) :
    SOps C ops (⟨some t, .call { callee := .builtin .append, args := #[xo, yo], argTypes := #[T, T] }, ty, pos, aft, g⟩ :: rest) st R := by
  cases ns with
  | nil =>
    refine SOps.append0 hT hx (.inl ⟨b, n, rfl⟩) hy hs' ?_ hg ht
    have h0 := hrest b
    have e1 : st.heap.set i (b, .row e sz (es ++ [])) = st.heap := by
      rw [List.append_nil]
      apply List.ext_getElem?
      intro j
      rw [List.getElem?_set]
      split
      · rename_i e; subst e
        rw [if_pos (List.getElem?_eq_some_iff.1 hi).1]; exact hi.symm
      · rfl
    rw [e1] at h0
    exact h0
  | cons x ns => exact SOps.appendOwn i hT hE hx hy hi hn hs' (by simp) hB hby (fun b' _ => hrest b') hg ht
/-- append onto an accumulator, of what may be nothing. -/
theorem SOps.appendAccE (H1 H2 : DHeap) {T e sz by_ b : Nat} {xo yo : Operand} {d : DV} {es ns : List (List DV)} (hT : sliceB C.P T e sz = true) (hE : elemB C.P e sz by_ = true) (hx : st.val xo = some (accD sz b es)) (hy : st.val yo = some d)
    (hh : st.heap = H1 ++ (accH e sz b es ++ H2)) (hs' : SrcD st d sz ns) (hB : es.length + ns.length ≤ lenB) (hby : (es.length + ns.length) * by_ ≤ 140737488355328)
    (hrest : ∀ b', SOps C ops rest ⟨st.n, (t, accD sz b' (es ++ ns)) :: st.slots, H1 ++ (accH e sz b' (es ++ ns) ++ H2)⟩ R)
    (hg : st.wants ops g = some true := by rfl) (ht : Nat.blt t st.n = true := by rfl) :
    SOps C ops (⟨some t, .call { callee := .builtin .append, args := #[xo, yo], argTypes := #[T, T] }, ty, pos, aft, g⟩ :: rest) st R := by
  cases ns with
  | nil =>
    have h0 := hrest b
    rw [List.append_nil, ← hh] at h0
    refine SOps.append0 hT hx ?_ hy hs' h0 hg ht
    cases es with
    | nil => exact .inr rfl
    | cons x es => exact .inl ⟨b, es.length + 1, rfl⟩
  | cons x ns => exact SOps.appendAcc H1 H2 hT hE hx hy hh hs' (by simp) hB hby hrest hg ht
theorem SOps.reSlot {l : List Oper} {d d' : DV} (hd : st.get t = some d) (he : d = d') (h : SOps C ops l ⟨st.n, (t, d') :: st.slots, st.heap⟩ R) : SOps C ops l st R := by
  subst he
  have key : ∀ u e, getL ((t, d) :: st.slots) u = some e → getL st.slots u = some e := fun u e hu => by
    rw [getL_cons] at hu
    split at hu
    · rename_i h1
      simp only at h1
      subst h1
      obtain rfl := Option.some.inj hu
      exact hd
    · exact hu
  exact SOps.weaken (st' := ⟨st.n, (t, d) :: st.slots, st.heap⟩) ⟨rfl, fun u e hu => .inl (key u e hu), st.heap, .refl _, List.Sublist.refl _⟩ h
end
end Go.GH
namespace Go.GH
open Go Go.RowKit
abbrev ORes := Option (Nat × DV)
def pickO (L : Nat → Bool) : Nat → List ORes → List (Nat × DV) → List (Nat × DV)
  | _, [], s => s
  | i, none :: D, s => pickO L (i + 1) D s
  | i, some p :: D, s => if L i then p :: pickO L (i + 1) D s else pickO L (i + 1) D s
def needO (D : List ORes) (s : List (Nat × DV)) : List (Nat ⊕ Nat) → List (Nat × DV)
  | [] => []
  | .inl j :: r => match D[j]? with
    | some (some p) => p :: needO D s r
    | _ => needO D s r
  | .inr t :: r => match getL s t with
    | some d => (t, d) :: needO D s r
    | none => needO D s r
def srcO (l : List Oper) (ts : List (Option Nat)) (i : Nat) (o : Oper) : Nat ⊕ Nat → Bool
  | .inl j => afterB o j
  | .inr t => (ts.zipIdx).all (fun p => !(p.1 == some t) || Nat.beq p.2 i || nthB l p.2 (fun o' => afterB o' i))
def distO : List (Option Nat) → Bool
  | [] => true
  | none :: ts => distO ts
  | some t :: ts => ts.all (fun u => !(u == some t)) && distO ts
def resO (D : List ORes) : List (Nat × DV) := D.filterMap id
theorem pickO_none {L : Nat → Bool} {t : Nat} : ∀ (D : List ORes) (i : Nat) (s : List (Nat × DV)), (∀ k p, D[k]? = some (some p) → p.1 = t → L (i + k) = false) → getL (pickO L i D s) t = getL s t
  | [], _, _, _ => rfl
  | q :: D, i, s, h => by
    have ih := pickO_none D (i + 1) s (fun k q hk hq => by have := h (k + 1) q (by simpa using hk) hq; rwa [show i + 1 + k = i + (k + 1) from by omega])
    cases q with
    | none => exact ih
    | some p =>
      simp only [pickO]
      split
      · rename_i hl
        rw [getL_cons, if_neg (fun e => by have := h 0 p rfl e; rw [Nat.add_zero, hl] at this; cases this)]
        exact ih
      · exact ih
theorem distO_none {t : Nat} : ∀ {D : List ORes}, ((D.map (fun x => x.map (·.1))).all (fun u => !(u == some t))) = true → ∀ (k : Nat) p, D[k]? = some (some p) → p.1 ≠ t := by
  intro D h k p hk e
  have := List.all_eq_true.1 h (some p.1) (List.mem_map.2 ⟨some p, List.mem_of_getElem? hk, rfl⟩)
  simp [e] at this
theorem pickO_some {L : Nat → Bool} : ∀ (D : List ORes) (i j : Nat) (s : List (Nat × DV)) (p : Nat × DV), distO (D.map (fun x => x.map (·.1))) = true → D[j]? = some (some p) → L (i + j) = true → getL (pickO L i D s) p.1 = some p.2
  | [], _, _, _, _, _, h, _ => by simp at h
  | q :: D, i, 0, s, p, _, h, hl => by
    simp at h
    subst h
    simp only [pickO]
    rw [Nat.add_zero] at hl
    rw [if_pos hl, getL_cons, if_pos rfl]
  | q :: D, i, j + 1, s, p, hd, h, hl => by
    have hj : D[j]? = some (some p) := by simpa using h
    have hl' : L (i + 1 + j) = true := by rwa [show i + 1 + j = i + (j + 1) from by omega]
    cases q with
    | none => exact pickO_some D (i + 1) j s p (by simpa [distO] using hd) hj hl'
    | some q =>
      simp only [List.map_cons, Option.map_some, distO, Bool.and_eq_true] at hd
      have ih := pickO_some D (i + 1) j s p hd.2 hj hl'
      simp only [pickO]
      split
      · rw [getL_cons, if_neg (fun e => distO_none hd.1 j p hj e.symm)]
        exact ih
      · exact ih
theorem pickO_all {L : Nat → Bool} {s : List (Nat × DV)} : ∀ (D : List ORes) (b : Nat), (∀ k, b ≤ k → k < b + D.length → L k = true) → pickO L b D s = resO D ++ s
  | [], _, _ => rfl
  | q :: D, b, h => by
    have ih := pickO_all (s := s) D (b + 1) (fun k h1 h2 => h k (by omega) (by simp only [List.length_cons]; omega))
    cases q with
    | none => simpa [pickO, resO] using ih
    | some q => simp only [pickO, h b (Nat.le_refl _) (by simp), if_true, ih, resO, List.filterMap_cons, id, List.cons_append]
theorem pickO_false {s : List (Nat × DV)} : ∀ (D : List ORes) (i : Nat), pickO (fun _ => false) i D s = s
  | [], _ => rfl
  | none :: D, i => pickO_false D (i + 1)
  | some _ :: D, i => by simp [pickO, pickO_false D (i + 1)]
theorem pickO_set {L : Nat → Bool} {s : List (Nat × DV)} {t : Nat} {i : Nat} : ∀ (D D' : List ORes) (b : Nat), D.length = D'.length → (∀ k, b + k ≠ i → L (b + k) = true → D'[k]? = D[k]?) → (∀ k p, D'[k]? = some (some p) → b + k = i → p.1 ≠ t) → (∀ (k : Nat) p, D[k]? = some (some p) → b + k = i → p.1 ≠ t) →
    getL (pickO L b D s) t = getL (pickO (fun k => if k = i then true else L k) b D' s) t
  | [], [], _, _, _, _, _ => rfl
  | [], _ :: _, _, h, _, _, _ => by simp at h
  | _ :: _, [], _, h, _, _, _ => by simp at h
  | q :: D, q' :: D', b, hl, h1, h2, h3 => by
    have ih := pickO_set (L := L) (s := s) (t := t) (i := i) D D' (b + 1) (by simpa using hl) (fun k hk hL => by
      have := h1 (k + 1) (by omega) (by rwa [show b + (k + 1) = b + 1 + k from by omega])
      simpa using this) (fun k p hk hb => h2 (k + 1) p (by simpa using hk) (by omega)) (fun k p hk hb => h3 (k + 1) p (by simpa using hk) (by omega))
    by_cases hbi : b = i
    · have e1 : getL (pickO L b (q :: D) s) t = getL (pickO L (b + 1) D s) t := by
        cases q with
        | none => rfl
        | some p =>
          simp only [pickO]
          split
          · rw [getL_cons, if_neg (h3 0 p rfl (by omega))]
          · rfl
      have e2 : getL (pickO (fun k => if k = i then true else L k) b (q' :: D') s) t = getL (pickO (fun k => if k = i then true else L k) (b + 1) D' s) t := by
        cases q' with
        | none => rfl
        | some p =>
          simp only [pickO, if_pos hbi, if_true]
          rw [getL_cons, if_neg (h2 0 p rfl (by omega))]
      rw [e1, e2, ih]
    · by_cases hL : L b = true
      · have e : q' = q := by simpa using h1 0 (by omega) (by simpa using hL)
        subst e
        cases q' with
        | none => exact ih
        | some p =>
          simp only [pickO, if_neg hbi, hL, if_true]
          rw [getL_cons, getL_cons, ih]
      · have hL' : L b = false := by simpa using hL
        have e1 : pickO L b (q :: D) s = pickO L (b + 1) D s := by cases q <;> simp [pickO, hL']
        have e2 : pickO (fun k => if k = i then true else L k) b (q' :: D') s = pickO (fun k => if k = i then true else L k) (b + 1) D' s := by cases q' <;> simp [pickO, hbi, hL']
        rw [e1, e2, ih]

/-- How many of the chain are done. -/
def cntL (L : Nat → Bool) (T : List Nat) : Nat := (T.filter L).length
theorem cnt_prefix {L : Nat → Bool} : ∀ (T : List Nat), (∀ (j : Nat) x y, T[j]? = some x → T[j + 1]? = some y → L y = true → L x = true) → ∀ (j x : Nat), T[j]? = some x → (L x = true ↔ j < cntL L T)
  | [], _, _, _, h => by simp at h
  | a :: T, hc, j, x, hj => by
    have ih := cnt_prefix T (fun j x y h1 h2 h3 => hc (j + 1) x y (by simpa using h1) (by simpa using h2) h3)
    by_cases ha : L a = true
    · have e : cntL L (a :: T) = cntL L T + 1 := by simp [cntL, ha]
      cases j with
      | zero => simp at hj; subst hj; rw [e]; exact ⟨fun _ => by omega, fun _ => ha⟩
      | succ j => rw [ih j x (by simpa using hj), e]; omega
    · have hall : ∀ (j : Nat) x, (a :: T)[j]? = some x → ¬ L x = true := by
        intro j
        induction j with
        | zero => intro x hx; simp at hx; subst hx; exact ha
        | succ j ihj =>
          intro x hx h
          have hlt := (List.getElem?_eq_some_iff.1 hx).1
          exact ihj _ (List.getElem?_eq_getElem (by omega)) (hc j _ x (List.getElem?_eq_getElem (by omega)) hx h)
      have e : cntL L (a :: T) = 0 := by
        unfold cntL
        rw [List.filter_eq_nil_iff.2 (fun x hx => by obtain ⟨j, hj⟩ := List.mem_iff_getElem?.1 hx; exact hall j x hj)]
        rfl
      rw [e]
      exact ⟨fun h => absurd h (hall j x hj), fun h => by omega⟩
theorem cnt_set {L : Nat → Bool} {i : Nat} (hi : L i = false) : ∀ (T : List Nat), T.Nodup → cntL (fun k => if k = i then true else L k) T = cntL L T + if i ∈ T then 1 else 0
  | [], _ => rfl
  | a :: T, h => by
    have hd := List.nodup_cons.1 h
    have ih := cnt_set hi T hd.2
    unfold cntL at ih ⊢
    by_cases ha : a = i
    · subst ha
      have : (if a ∈ T then 1 else 0) = 0 := if_neg hd.1
      rw [this] at ih
      rw [List.filter_cons_of_pos (by simp), List.filter_cons_of_neg (by simp [hi]), List.length_cons, ih, if_pos (List.mem_cons_self ..)]
    · have e : (i ∈ a :: T) ↔ i ∈ T := by simp [Ne.symm ha]
      simp only [List.filter_cons, if_neg ha]
      by_cases hL : L a = true
      · simp only [hL, if_true, List.length_cons, ih, e]; omega
      · simp only [hL, e]; exact ih
inductive StgOk (C : Ctx) (ops : Array Oper) (n : Nat) (Hs : Nat → Nat → DHeap) (o : Oper) (nd : Nat → List (Nat × DV)) (r : Nat → ORes) (tl al : Bool) : List Nat → Prop
  | nil : StgOk C ops n Hs o nd r tl al []
  | cons {c : Nat} {cs : List Nat} (h : ∀ b rest, SOps C ops [o] ⟨n, nd b ++ rest, Hs b c⟩ (fun st' => ∃ b', (al = false → b' = b) ∧ st' = ⟨n, (r b').toList ++ (nd b ++ rest), Hs b' (c + tl.toNat)⟩)) (k : StgOk C ops n Hs o nd r tl al cs) : StgOk C ops n Hs o nd r tl al (c :: cs)
theorem StgOk.at {C : Ctx} {ops : Array Oper} {n : Nat} {Hs : Nat → Nat → DHeap} {o : Oper} {nd : Nat → List (Nat × DV)} {r : Nat → ORes} {tl al : Bool} {cs : List Nat} (h : StgOk C ops n Hs o nd r tl al cs) {c : Nat} (hc : c ∈ cs) : ∀ b rest, SOps C ops [o] ⟨n, nd b ++ rest, Hs b c⟩ (fun st' => ∃ b', (al = false → b' = b) ∧ st' = ⟨n, (r b').toList ++ (nd b ++ rest), Hs b' (c + tl.toNat)⟩) := by
  induction h with
  | nil => cases hc
  | cons h k ih =>
    rcases List.mem_cons.1 hc with e | hc
    · subst e; exact h
    · exact ih hc
/-- What each operation does, at each stage at which its turn may come. -/
inductive MixOk (C : Ctx) (ops : Array Oper) (n : Nat) (Hs : Nat → Nat → DHeap) : List Oper → List (Nat → List (Nat × DV)) → List (Nat → ORes) → List (Bool × Bool × List Nat) → Prop
  | nil : MixOk C ops n Hs [] [] [] []
  | cons {o : Oper} {os : List Oper} {nd : Nat → List (Nat × DV)} {nds : List (Nat → List (Nat × DV))} {r : Nat → ORes} {D : List (Nat → ORes)} {tl al : Bool} {cs : List Nat} {K : List (Bool × Bool × List Nat)}
      (h : StgOk C ops n Hs o nd r tl al cs) (k : MixOk C ops n Hs os nds D K) : MixOk C ops n Hs (o :: os) (nd :: nds) (r :: D) ((tl, al, cs) :: K)
theorem MixOk.at {C : Ctx} {ops : Array Oper} {n : Nat} {Hs : Nat → Nat → DHeap} {os : List Oper} {nds : List (Nat → List (Nat × DV))} {D : List (Nat → ORes)} {K : List (Bool × Bool × List Nat)} (h : MixOk C ops n Hs os nds D K) : ∀ (i : Nat) o, os[i]? = some o →
    ∃ nd r tl al cs, nds[i]? = some nd ∧ D[i]? = some r ∧ K[i]? = some (tl, al, cs) ∧ StgOk C ops n Hs o nd r tl al cs := by
  induction h with
  | nil => intro i o hi; simp at hi
  | cons h k ih =>
    intro i o hi
    cases i with
    | zero => simp at hi; subst hi; exact ⟨_, _, _, _, _, rfl, rfl, rfl, h⟩
    | succ i => obtain ⟨nd, r, tl, al, cs, h1, h2, h3, h4⟩ := ih i o (by simpa using hi); exact ⟨nd, r, tl, al, cs, by simpa using h1, by simpa using h2, by simpa using h3, h4⟩
def memB (l : List Nat) (x : Nat) : Bool := l.any (fun y => Nat.beq y x)
theorem memB_iff {l : List Nat} {x : Nat} : memB l x = true ↔ x ∈ l := by
  unfold memB
  rw [List.any_eq_true]
  exact ⟨fun ⟨y, h, e⟩ => Nat.eq_of_beq_eq_true e ▸ h, fun h => ⟨x, h, by simp⟩⟩
/-- The chain is one, and the stages are all that may come. -/
def mixB (l : List Oper) (ts : List (Option Nat)) (srcs : List (List (Nat ⊕ Nat))) (T : List Nat) (K : List (Bool × Bool × List Nat)) (f : Nat) : Bool :=
  ordB l && distO ts && distB T && T.all (fun x => Nat.blt x l.length) && (T.zip (T.drop 1)).all (fun p => memB (reqF l f p.2) p.1) &&
  (l.zipIdx).all (fun p => match srcs[p.2]? with
    | some ss => ss.all (srcO l ts p.2 p.1)
    | none => true) &&
  (List.range l.length).all (fun i => match K[i]? with
    | some (tl, _, cs) => (tl == memB T i) && (List.range (T.length + 1)).all (fun c => memB cs c || (T.zipIdx).any (fun p => (Nat.blt p.2 c && (memB (reqF l f p.1) i || Nat.beq p.1 i)) || (!Nat.blt p.2 c && memB (reqF l f i) p.1)))
    | none => false)

theorem SCode.drawMix {C : Ctx} {id : Nat} {l : List Oper} {n : Nat} {s : List (Nat × DV)} {H : DHeap} {Q : Exit → St → Prop} (f : Nat) (T : List Nat) (hm : C.P.follows .mixedOrders = true) (D : List (Nat → ORes)) (ts : List (Option Nat)) (srcs : List (List (Nat ⊕ Nat))) (nds : List (Nat → List (Nat × DV))) (Hs : Nat → Nat → DHeap) (K : List (Bool × Bool × List Nat))
    (hB : mixB l ts srcs T K f = true) (hts : ∀ b, D.map (fun r => (r b).map (·.1)) = ts) (hlen : D.length = l.length) (hnd : ∀ b, nds.map (fun x => x b) = srcs.map (needO (D.map (fun r => r b)) s)) (hH : ∀ b, Hs b 0 = H)
    (hcoh : ∀ (j a : Nat) tl cs (r : Nat → ORes), K[a]? = some (tl, true, cs) → D[j]? = some r → (∀ b b', r b = r b') ∨ j = a ∨ ∃ o, l[j]? = some o ∧ afterB o a = true)
    (hops : MixOk C l.toArray n Hs l nds D K) (hQ : ∀ b, Q .normal ⟨n, resO (D.map (fun r => r b)) ++ s, Hs b T.length⟩) : SCode C (.region id l.toArray true) ⟨n, s, H⟩ Q := by
  simp only [mixB, Bool.and_eq_true, List.all_eq_true] at hB
  obtain ⟨⟨⟨⟨⟨⟨hord, hdist⟩, hdT⟩, hTl⟩, hchain⟩, hsrc⟩, hstg⟩ := hB
  have hdB : ∀ b, distO ((D.map (fun r => r b)).map (fun x => x.map (·.1))) = true := fun b => by
    have := hts b
    rw [List.map_map, show ((fun x : ORes => x.map (·.1)) ∘ fun r : Nat → ORes => r b) = (fun r => (r b).map (·.1)) from rfl, this]; exact hdist
  have hTn : T.Nodup := distB_spec T hdT
  refine SCode.drawAny hm hord (fun L st' => ∃ b, (⟨n, pickO L 0 (D.map (fun r => r b)) s, Hs b (cntL L T)⟩ : St).Le st') ?_ ?_ ?_
  · refine ⟨0, ?_⟩
    rw [pickO_false, show cntL (fun _ => false) T = 0 by simp [cntL], hH]
    exact ⟨rfl, fun t d h => .inl h, H, .refl _, .refl _⟩
  · intro L st' i o hi hLi hinv haft hbef hcl
    obtain ⟨b, hle⟩ := hinv
    have hil := (List.getElem?_eq_some_iff.1 hi).1
    obtain ⟨nd, r, tl, al, cs, h1, h2, h3, h4⟩ := hops.at i o hi
    have hreq : ∀ x ∈ reqF l f i, L x = true := fun x hx => by
      cases f with
      | zero => simp [reqF] at hx
      | succ f =>
        simp only [reqF, hi] at hx
        rcases List.mem_append.1 hx with hx | hx
        · exact haft x (by simpa using (List.mem_filter.1 hx).2)
        · obtain ⟨js, hjs, hjx⟩ := List.mem_flatten.1 hx
          obtain ⟨y, hy, rfl⟩ := List.mem_map.1 hjs
          exact reqF_spec hcl f y (haft y (by simpa using (List.mem_filter.1 hy).2)) x hjx
    have hpre := cnt_prefix T (fun j x y hx hy hLy => by
      have := hchain (x, y) (by
        rw [List.mem_iff_getElem?]
        refine ⟨j, ?_⟩
        rw [List.getElem?_zip_eq_some]
        exact ⟨hx, by rw [List.getElem?_drop, Nat.add_comm]; exact hy⟩)
      exact reqF_spec hcl f y hLy x (memB_iff.1 this))
    have hst := hstg i (List.mem_range.2 hil)
    simp only [h3, Bool.and_eq_true, List.all_eq_true] at hst
    obtain ⟨htl, hst⟩ := hst
    have hcT : cntL L T ≤ T.length := List.length_filter_le _ _
    have hc : cntL L T ∈ cs := by
      have := hst (cntL L T) (List.mem_range.2 (by omega))
      simp only [Bool.or_eq_true] at this
      rcases this with h | h
      · exact memB_iff.1 h
      · obtain ⟨p, hp, h⟩ := List.any_eq_true.1 h
        obtain ⟨j, hj⟩ := List.mem_iff_getElem?.1 hp
        rw [List.getElem?_zipIdx] at hj
        obtain ⟨x, hx, e⟩ := Option.map_eq_some_iff.1 hj
        subst e
        simp only [Nat.zero_add, Bool.or_eq_true, Bool.and_eq_true] at h
        rcases h with ⟨h5, h6⟩ | ⟨h5, h6⟩
        · have hlt : j < cntL L T := by simpa using h5
          have hLx := (hpre j x hx).2 hlt
          rcases h6 with h6 | h6
          · rw [reqF_spec hcl f x hLx i (memB_iff.1 h6)] at hLi; cases hLi
          · rw [Nat.eq_of_beq_eq_true h6, hLi] at hLx; cases hLx
        · have hLx := hreq x (memB_iff.1 h6)
          have := (hpre j x hx).1 hLx
          rw [show Nat.blt j (cntL L T) = true from Nat.ble_eq_true_of_le this] at h5
          cases h5
    refine SOps.weaken hle ?_
    have hneed : ∀ t d, getL (nd b) t = some d → getL (pickO L 0 (D.map (fun r => r b)) s) t = some d := by
      have hn := congrArg (fun x => x[i]?) (hnd b)
      simp only [List.getElem?_map, h1, Option.map_some] at hn
      obtain ⟨ss, hss, e⟩ := Option.map_eq_some_iff.1 hn.symm
      have hchk := hsrc (o, i) (by rw [List.mem_iff_getElem?]; exact ⟨i, by simp [List.getElem?_zipIdx, hi]⟩)
      simp only [hss, List.all_eq_true] at hchk
      rw [← e]
      have key : ∀ (ss : List (Nat ⊕ Nat)), (∀ x ∈ ss, srcO l ts i o x = true) → ∀ t d, getL (needO (D.map (fun r => r b)) s ss) t = some d → getL (pickO L 0 (D.map (fun r => r b)) s) t = some d := by
        intro ss
        induction ss with
        | nil => intro _ t d h; simp [needO, getL] at h
        | cons x ss ih =>
          intro hx t d h
          have ih' := ih (fun y hy => hx y (List.mem_cons_of_mem _ hy)) t d
          have hx0 := hx x (List.mem_cons_self ..)
          cases x with
          | inl j =>
            simp only [srcO] at hx0
            simp only [needO] at h
            split at h
            · rename_i q hq
              rw [getL_cons] at h
              split at h
              · rename_i e
                subst e
                obtain rfl := Option.some.inj h
                exact pickO_some _ 0 j s q (hdB b) hq (by simpa using haft j hx0)
              · exact ih' h
            · exact ih' h
          | inr u =>
            simp only [srcO, List.all_eq_true] at hx0
            simp only [needO] at h
            split at h
            · rename_i q hq
              rw [getL_cons] at h
              split at h
              · rename_i e
                simp only at e
                subst e
                obtain rfl := Option.some.inj h
                rw [pickO_none _ 0 s (fun k p hk hp => ?_)]
                · exact hq
                · have h4 := hx0 (some p.1, k) (by
                    rw [List.mem_iff_getElem?]
                    refine ⟨k, ?_⟩
                    rw [← hts b, List.getElem?_zipIdx]
                    simp only [List.getElem?_map] at hk ⊢
                    cases hD : D[k]? with
                    | none => rw [hD] at hk; simp at hk
                    | some rr => rw [hD] at hk; simp at hk; simp [hk])
                  simp only [hp, BEq.rfl, Bool.not_true, Bool.false_or, Bool.or_eq_true] at h4
                  rw [Nat.zero_add]
                  rcases h4 with h4 | h4
                  · rw [Nat.eq_of_beq_eq_true h4]; exact hLi
                  · unfold nthB at h4
                    split at h4
                    · rename_i o' ho'
                      exact hbef k o' ho' h4
                    · cases h4
              · exact ih' h
            · exact ih' h
      exact key ss hchk
    have hnl : ∀ t, getL (nd b ++ pickO L 0 (D.map (fun r => r b)) s) t = getL (pickO L 0 (D.map (fun r => r b)) s) t := by
      intro t
      have : ∀ (nd : List (Nat × DV)), (∀ d, getL nd t = some d → getL (pickO L 0 (D.map (fun r => r b)) s) t = some d) → getL (nd ++ pickO L 0 (D.map (fun r => r b)) s) t = getL (pickO L 0 (D.map (fun r => r b)) s) t := by
        intro nd
        induction nd with
        | nil => intro _; rfl
        | cons q nd ih =>
          intro h
          rw [List.cons_append, getL_cons]
          split
          · rename_i e
            exact (h q.2 (by rw [getL_cons, if_pos e])).symm
          · rename_i e
            exact ih (fun d hd => h d (by rw [getL_cons, if_neg e]; exact hd))
      exact this (nd b) (hneed t)
    refine SOps.weaken (st' := ⟨n, nd b ++ pickO L 0 (D.map (fun r => r b)) s, Hs b (cntL L T)⟩) ⟨rfl, fun t d ht => .inl ((hnl t).symm.trans ht), _, .refl _, .refl _⟩ ((h4.at hc b (pickO L 0 (D.map (fun r => r b)) s)).mono ?_)
    rintro st2 ⟨b', hb', rfl⟩
    have hcnt : cntL (fun k => if k = i then true else L k) T = cntL L T + tl.toNat := by
      rw [cnt_set hLi T hTn]
      have : tl = memB T i := by simpa using htl
      subst this
      by_cases hmem : i ∈ T
      · rw [if_pos hmem, memB_iff.2 hmem]; rfl
      · rw [if_neg hmem, show memB T i = false by cases h : memB T i with | false => rfl | true => exact absurd (memB_iff.1 h) hmem]; rfl
    refine ⟨b', rfl, fun t d ht => .inl ?_, _, by rw [hcnt], .refl _⟩
    show getL ((r b').toList ++ (nd b ++ pickO L 0 (D.map (fun r => r b)) s)) t = some d
    have ht : getL (pickO (fun k => if k = i then true else L k) 0 (D.map (fun r => r b')) s) t = some d := ht
    have hDi : ∀ b, (D.map (fun r => r b))[i]? = some (r b) := fun b => by simp [h2]
    have hcase : (∃ p, r b' = some p ∧ p.1 = t) ∨ (∀ p, r b' = some p → p.1 ≠ t) := by
      cases hr : r b' with
      | none => exact .inr (fun p h => by cases h)
      | some p =>
        by_cases e : p.1 = t
        · exact .inl ⟨p, rfl, e⟩
        · exact .inr (fun q h => by cases h; exact e)
    rcases hcase with ⟨p, hp, e⟩ | hne
    · subst e
      rw [hp]
      simp only [Option.toList_some, List.singleton_append]
      rw [getL_cons, if_pos rfl]
      rw [pickO_some _ 0 i s p (hdB b') (by rw [hDi, hp]) (by simp)] at ht
      exact ht
    · have e1 : getL ((r b').toList ++ (nd b ++ pickO L 0 (D.map (fun r => r b)) s)) t = getL (nd b ++ pickO L 0 (D.map (fun r => r b)) s) t := by
        cases hr : r b' with
        | none => rfl
        | some p => simp only [Option.toList_some, List.singleton_append]; rw [getL_cons, if_neg (hne p hr)]
      rw [e1, hnl, ← ht]
      refine pickO_set _ _ 0 (by simp) (fun k hk hLk => ?_) (fun k p hk hki => ?_) (fun k p hk hki => ?_)
      · rw [Nat.zero_add] at hk hLk
        simp only [List.getElem?_map]
        cases hDk : D[k]? with
        | none => rfl
        | some rr =>
          simp only [Option.map_some]
          congr 1
          cases al with
          | false => rw [hb' rfl]
          | true =>
            rcases hcoh k i tl cs rr h3 hDk with h | h | ⟨o', ho', h⟩
            · exact h b' b
            · exact absurd h hk
            · rw [hcl k o' i ho' hLk h] at hLi; cases hLi
      · have : k = i := by omega
        subst this
        rw [hDi] at hk
        exact hne p (Option.some.inj hk)
      · have : k = i := by omega
        subst this
        have hb1 := hts b
        have hb2 := hts b'
        have := congrArg (fun x => x[k]?) (hb1.trans hb2.symm)
        simp only [List.getElem?_map, h2, Option.map_some, Option.some.injEq] at this
        rw [hDi] at hk
        rw [Option.some.inj hk] at this
        simp only [Option.map_some] at this
        obtain ⟨q, hq, e⟩ := Option.map_eq_some_iff.1 this.symm
        rw [← e]
        exact hne q hq
  · intro L st' hall hinv
    obtain ⟨b, hle⟩ := hinv
    have hcT : cntL L T = T.length := by
      unfold cntL
      rw [List.filter_eq_self.2 (fun x hx => hall x (by simpa using hTl x hx))]
    rw [pickO_all _ 0 (fun k _ hk => hall k (by simp at hk; omega)), hcT] at hle
    exact ⟨_, hle, hQ b⟩
theorem cohNone {l : List Oper} {D : List (Nat → ORes)} {K : List (Bool × Bool × List Nat)} (h : K.all (fun k => !k.2.1) = true) (j a : Nat) (tl : Bool) (cs : List Nat) (r : Nat → ORes) (hK : K[a]? = some (tl, true, cs)) (_ : D[j]? = some r) :
    (∀ b b', r b = r b') ∨ j = a ∨ ∃ o, l[j]? = some o ∧ afterB o a = true := by
  have := List.all_eq_true.1 h _ (List.mem_of_getElem? hK)
  cases this
theorem cohOne {l : List Oper} {D : List (Nat → ORes)} {K : List (Bool × Bool × List Nat)} (a0 : Nat) (h : (K.zipIdx).all (fun k => !k.1.2.1 || Nat.beq k.2 a0) = true) (hD : ∀ (j : Nat) r, D[j]? = some r → (∀ b b', r b = r b') ∨ j = a0 ∨ ∃ o, l[j]? = some o ∧ afterB o a0 = true) (j a : Nat) (tl : Bool) (cs : List Nat) (r : Nat → ORes) (hK : K[a]? = some (tl, true, cs)) (hj : D[j]? = some r) :
    (∀ b b', r b = r b') ∨ j = a ∨ ∃ o, l[j]? = some o ∧ afterB o a = true := by
  have := List.all_eq_true.1 h ((tl, true, cs), a) (by rw [List.mem_iff_getElem?]; exact ⟨a, by simp [List.getElem?_zipIdx, hK]⟩)
  simp only [Bool.not_true, Bool.false_or] at this
  obtain rfl := Nat.eq_of_beq_eq_true this
  exact hD j r hj
end Go.GH
namespace Go.GH
open Go Go.RowKit
section
variable {α : Type} {C : Ctx} {E : Env} {base : Base} {F : Nat → Prop} {st : St} {a : Act} {w : World} {ops : Array Oper} {rest : List Oper} {R : St → Prop}
  {t : Tmp} {ty : TypeId} {pos : String} {aft : Array Edge} {g : Option (Nat × Bool)}
theorem SOps.storeK (i k : Nat) {T b o elem : Nat} {xo yo : Operand} {f : α → List DV} {xs : List α} {v : α} {d : DV} (hx : st.val xo = some (.ref b o)) (hy : st.val yo = some d) (hT : oneB C.P T = true)
    (hi : st.heap[i]? = some (b, .row elem 1 (xs.map f))) (ho : o = k) (hk : k < xs.length) (hf : f v = [d]) (h1 : ∀ x, (f x).length = 1)
    (hrest : SOps C ops rest ⟨st.n, st.slots, st.heap.set i (b, .row elem 1 ((xs.set k v).map f))⟩ R) (hd : d.one = true := by rfl)
    (hg : st.wants ops g = some true := by rfl) : SOps C ops (⟨none, .store T xo yo, ty, pos, aft, g⟩ :: rest) st R := by
  refine SOps.store i k 0 (e := f (xs[k]'hk)) hx hy hT hi (by omega) (by rw [List.getElem?_map, List.getElem?_eq_getElem hk]; rfl) (by omega) hd ?_ hg
  have e1 : (f (xs[k]'hk)).set 0 d = f v := by
    have := h1 (xs[k]'hk)
    rw [hf]
    match hq : f (xs[k]'hk), this with
    | [y], _ => rfl
  rw [e1, ← List.map_set]
  exact hrest
theorem SOps.storeAK (i k : Nat) {T b o elem sz : Nat} {xo yo : Operand} {f : α → List DV} {xs : List α} {v : α} (hx : st.val xo = some (.ref b o)) (hy : st.val yo = some (.agg (f v))) (hT : aggB C.P T sz = true)
    (hi : st.heap[i]? = some (b, .row elem sz (xs.map f))) (ho : o = k * sz) (hk : k < xs.length) (hds : (f v).length = sz)
    (hrest : SOps C ops rest ⟨st.n, st.slots, st.heap.set i (b, .row elem sz ((xs.set k v).map f))⟩ R) (hd : (f v).all DV.one = true)
    (hg : st.wants ops g = some true := by rfl) : SOps C ops (⟨none, .store T xo yo, ty, pos, aft, g⟩ :: rest) st R := by
  refine SOps.storeA i k (e := f (xs[k]'hk)) hx hy hT hi ho (by rw [List.getElem?_map, List.getElem?_eq_getElem hk]; rfl) hds (fun d h => List.all_eq_true.1 hd d h) ?_ hg
  rw [← List.map_set]
  exact hrest
theorem SOps.loadK (i k : Nat) {T b o elem : Nat} {xo : Operand} {f : α → List DV} {xs : List α} {d : DV} (hx : st.val xo = some (.ref b o)) (hT : flatB C.P T = true)
    (hi : st.heap[i]? = some (b, .row elem 1 (xs.map f))) (ho : o = k) (hk : k < xs.length) (hf : f (xs[k]'hk) = [d]) (hrest : SOps C ops rest (st.put t d) R)
    (hg : st.wants ops g = some true := by rfl) (ht : Nat.blt t st.n = true := by rfl) : SOps C ops (⟨some t, .load T xo, ty, pos, aft, g⟩ :: rest) st R :=
  SOps.loadRef i k 0 (e := f (xs[k]'hk)) hx hT hi (by omega) (by rw [List.getElem?_map, List.getElem?_eq_getElem hk]; rfl) (by rw [hf]; rfl) hrest hg ht
theorem SOps.loadAK (i k : Nat) {T b o elem sz : Nat} {xo : Operand} {f : α → List DV} {xs : List α} (hx : st.val xo = some (.ref b o)) (hT : aggB C.P T sz = true)
    (hi : st.heap[i]? = some (b, .row elem sz (xs.map f))) (ho : o = k * sz) (hk : k < xs.length) (hf : (f (xs[k]'hk)).length = sz) (hrest : SOps C ops rest (st.put t (.agg (f (xs[k]'hk)))) R)
    (hg : st.wants ops g = some true := by rfl) (ht : Nat.blt t st.n = true := by rfl) : SOps C ops (⟨some t, .load T xo, ty, pos, aft, g⟩ :: rest) st R :=
  SOps.loadRefA i k 0 (e := f (xs[k]'hk)) (n := sz) hx hT hi (by omega) (by rw [List.getElem?_map, List.getElem?_eq_getElem hk]; rfl) (by omega) (by rw [List.drop_zero, List.take_of_length_le (by omega)]; exact hrest) hg ht

theorem rep_row {w : World} {F : Nat → Prop} {b elem sz : Nat} {es : List (List DV)} {v : Value} (ho : ObjRep w F b (.row elem sz es)) (hv : Rep w F v (.sl b sz 0 es.length)) : Rep w (fun c => F c ∨ c = b) v (.isl false sz es) := by
  obtain ⟨cs, k1, k2, k3, k4⟩ := ho
  cases hv with
  | @sl b sz off len cap e n q1 q2 q3 q4 =>
    refine .isl (b := b) (o := 0 * sz) (fun i j => cs.getD (i * sz + j) undef) rfl q1 k3 (fun h => by cases h) (fun _ => ⟨rfl, .inr rfl⟩) (fun i e he => (k4 _ _ he).1) (fun i e j d he hj => ?_) (fun i e j d he hj => ?_)
    · obtain ⟨x, hx, ho, hr⟩ := (k4 _ _ he).2 j d hj
      have e1 : cs.getD (i * sz + j) undef = x := by simp [Array.getD_eq_getD_getElem?, hx]
      rw [e1]
      exact ⟨by rw [cell_of_row w b _ cs _ _ k1, ← hx, Nat.zero_mul, Nat.zero_add], ho⟩
    · obtain ⟨x, hx, ho, hr⟩ := (k4 _ _ he).2 j d hj
      have e1 : cs.getD (i * sz + j) undef = x := by simp [Array.getD_eq_getD_getElem?, hx]
      rw [e1]
      exact hr.mono (fun _ _ => rfl) (fun _ _ h => h) (fun _ h => .inl h)
/-- A row that stands in a row of one's own, and is written no more. -/
theorem SOps.freezeIn {l : List Oper} (i i' k j : Nat) {b bT elem elem2 sz sz2 : Nat} {es : List (List DV)} {rows : List (List DV)} {row : List DV} (hp : C.pu = true) (hi : st.heap[i]? = some (b, .row elem2 sz2 es)) (hi' : (st.heap.eraseIdx i)[i']? = some (bT, .row elem sz rows))
    (hk : rows[k]? = some row) (hj : row[j]? = some (.sl b sz2 0 es.length))
    (h : SOps C ops l ⟨st.n, st.slots, (st.heap.eraseIdx i).set i' (bT, .row elem sz (rows.set k (row.set j (.isl false sz2 es))))⟩ R) : SOps C ops l st R := by
  intro base ok a w ⟨F, hs⟩
  have hmem := hs.heap _ (List.mem_of_getElem? hi)
  have hnew : base.w.heap.size ≤ b := hmem.1.resolve_left (ok hp b)
  have hT0 := hs.heap (bT, .row elem sz rows) ((List.eraseIdx_sublist ..).subset (List.mem_of_getElem? hi'))
  have h2 := hs.letGo hi hnew
  have hT := (h2.heap (bT, .row elem sz rows) (List.mem_of_getElem? hi')).2.2
  refine h base ok a w ⟨_, h2.write (w' := w) hi' (Step.refl _ _) ?_⟩
  obtain ⟨cs, k1, k2, k3, k4⟩ := hT
  obtain ⟨cs0, k10, _, _, k40⟩ := hT0.2.2
  have hkl := (List.getElem?_eq_some_iff.1 hk).1
  refine ⟨cs, k1, by simpa using k2, by simpa using k3, fun q e hq => ?_⟩
  rw [List.getElem?_set] at hq
  split at hq
  · rename_i hkq
    subst hkq
    obtain rfl := Option.some.inj hq
    obtain ⟨m1, m2⟩ := k4 _ _ hk
    refine ⟨by simpa using m1, fun u d hd => ?_⟩
    rw [List.getElem?_set] at hd
    split at hd
    · rename_i hju
      subst hju
      split at hd
      · obtain rfl := Option.some.inj hd
        obtain ⟨x, hx, ho, hr⟩ := (k40 _ _ hk).2 _ _ hj
        have hcs : cs0 = cs := by
          have := k10.symm.trans k1
          simpa using this
        subst hcs
        exact ⟨x, hx, ho, rep_row hmem.2.2 hr⟩
      · cases hd
    · exact m2 u d hd
  · exact k4 q e hq

/-! #### functions with their first arguments -/
theorem SOps.makeFuncB {f : FuncId} {xs : Array Operand} {ds : List DV} (hx : st.vals xs.toList = some ds) (hrest : SOps C ops rest (st.put t (.bfn f ds)) R)
    (hg : st.wants ops g = some true := by rfl) (ht : Nat.blt t st.n = true := by rfl) : SOps C ops (⟨some t, .makeFunc (.func f) xs #[], ty, pos, aft, g⟩ :: rest) st R :=
  SOps.val rfl hg ht (fun base a w F hs => by
    obtain ⟨h1, h2⟩ := hs.vals xs.toList ds hx
    refine ⟨.func (.func f) (xs.map a.eval) #[], by simp [execOp, Instr.makeFunc], .bfn (by simpa using h1) (fun j x d hj hd => ?_)⟩
    rw [eval_args] at hj
    obtain ⟨y, hy, rfl⟩ := Option.map_eq_some_iff.1 hj
    exact h2 j y d hy hd) hrest
theorem SOps.callB {f : FuncId} {xo : Operand} {xs : Array Operand} {ats : Array TypeId} {fst ds : List DV} {Rr : DV → Prop} (hx : st.val xo = some (.bfn f fst)) (hf : GCall C.P C.E f (fst ++ ds) [] (fun d H' => Rr d ∧ H' = [])) (hxs : st.vals xs.toList = some ds)
    (hrest : ∀ d, Rr d → SOps C ops rest (st.put t d) R)
    (hg : st.wants ops g = some true := by rfl) (ht : Nat.blt t st.n = true := by rfl) :
    SOps C ops (⟨some t, .call { callee := .value xo, args := xs, argTypes := ats }, ty, pos, aft, g⟩ :: rest) st R := by
  refine SOps.op (R1 := fun st' => ∃ d, Rr d ∧ st' = st.put t d) hg ?_ (fun st' ⟨d, h1, h2⟩ => h2 ▸ hrest d h1)
  intro base ok a w F hs K Q hK
  obtain ⟨h1, h2⟩ := hs.vals xs.toList ds hxs
  have h3 := hs.val hx
  generalize hv : a.eval xo = v at h3
  cases h3 with
  | @bfn _ us _ hl hr =>
    refine upon_call (H := []) (G := st.heap) hf rfl ht (vs := us ++ xs.map a.eval) rfl hs (by simp [← h1, hl]) (fun j x d hx hd => ?_) (fun d H' a' w' r s => ?_) ?_
    · rw [Array.getElem?_append, hl] at hx
      rw [List.getElem?_append] at hd
      split at hx
      · rename_i hlt
        rw [if_pos hlt] at hd
        exact hr _ x d hx hd
      · rename_i hlt
        rw [if_neg hlt] at hd
        rw [eval_args] at hx
        obtain ⟨y, hy, rfl⟩ := Option.map_eq_some_iff.1 hx
        exact h2 _ y d hy hd
    · obtain ⟨r1, rfl⟩ := r
      exact hK _ _ _ ⟨d, r1, rfl⟩ s
    · have := run_callFunc hf.1 (us ++ xs.map a.eval) w
      rw [show execOp a.eval ⟨some t, .call { callee := .value xo, args := xs, argTypes := ats }, ty, pos, aft, g⟩ = (do let d ← Deferred.ofValue (a.eval xo) (xs.map a.eval); invoke d.target d.args) from rfl, hv]
      simp only [Deferred.ofValue, invoke, pure_bind]
      simpa using this
/-- make([]T, n), told by an encoding. -/
theorem SOps.makeK {T e sz by_ : Nat} {z : Value} {lo co : Operand} {kl kc : IntKind} {m m' : Int} {f : α → List DV} (n : Nat) (v : α) (hT : sliceB C.P T e sz = true) (hE : elemB C.P e sz by_ = true) (hz : zeroIs C.P e z) (hlo : st.val lo = some (.v (.int kl m))) (hco : st.val co = some (.v (.int kc m'))) (hm : m = (n : Int)) (hm' : m' = (n : Int))
    (hf : z.cells.toList.map DV.v = f v) (hby : n * by_ ≤ 281474976710656) (hB : n ≤ lenB) (hrest : ∀ b, st.fresh b → SOps C ops rest ⟨st.n, (t, .sl b sz 0 n) :: st.slots, (b, .row e sz ((List.replicate n v).map f)) :: st.heap⟩ R) (hb : zcellsB z = true := by rfl)
    (hg : st.wants ops g = some true := by rfl) (ht : Nat.blt t st.n = true := by rfl) : SOps C ops (⟨some t, .makeSlice T lo co, ty, pos, aft, g⟩ :: rest) st R := by
  subst hm; subst hm'
  refine SOps.makeSlice n hT hE hz hlo hco hby hB (fun b hb' => ?_) hb hg ht
  rw [hf, ← List.map_replicate]
  exact hrest b hb'

/-! #### shifts and bits of small sets -/
theorem u8hasN {n : Nat} (h : n < 256) : IntKind.u8.has (n : Int) := by
  simp only [IntKind.has, IntKind.min, IntKind.max, IntKind.signed, IntKind.bits]
  have e : (2 : Int) ^ 8 = 256 := by decide
  simp only [Bool.false_eq_true, if_false, e]
  omega
theorem u8wrapN {n : Nat} (h : n < 256) : IntKind.u8.wrap (n : Int) = n := by
  unfold IntKind.wrap
  simp only [IntKind.signed, IntKind.bits]
  have e : (2 : Int) ^ 8 = 256 := by decide
  simp only [Bool.false_and, Bool.false_eq_true, if_false, e]
  omega
theorem SOps.shrN {T T2 : TypeId} {xo yo : Operand} {s k : Nat} {m : Int} (hx : st.val xo = some (.v (.int .u8 (s : Int)))) (hy : st.val yo = some (.v (.int .i64 m))) (hm : m = (k : Int)) (hk : k ≤ 8) (hs : s < 256)
    (hrest : SOps C ops rest (st.put t (.v (.int .u8 ((s >>> k : Nat) : Int)))) R)
    (hg : st.wants ops g = some true := by rfl) (ht : Nat.blt t st.n = true := by rfl) : SOps C ops (⟨some t, .binOp .shr T xo yo T2, ty, pos, aft, g⟩ :: rest) st R :=
  have hlt : s >>> k < 256 := Nat.lt_of_le_of_lt (by rw [Nat.shiftRight_eq_div_pow]; exact Nat.div_le_self ..) hs
  SOps.binRun hx hy (z := .int .u8 ((s >>> k : Nat) : Int)) (fun w => by
    subst hm
    have h0 : ¬ ((k : Int) < 0) := by omega
    have hk' : min ((k : Int)).toNat IntKind.u8.bits = k := by simp [IntKind.bits]; omega
    have e : ((s : Int)).fdiv (2 ^ k) = ((s >>> k : Nat) : Int) := by
      rw [show ((2 : Int) ^ k) = ((2 ^ k : Nat) : Int) from (by simp), Int.fdiv_eq_ediv_of_nonneg _ (Int.natCast_nonneg _), Nat.shiftRight_eq_div_pow]; exact (Int.natCast_ediv _ _).symm
    simp only [eqGuard, binOp, Op.shift, h0, hk', e, if_false]
    rfl) (u8hasN hlt) hrest hg ht
theorem SOps.shlN {T T2 : TypeId} {xo yo : Operand} {k : Nat} {m : Int} (hx : st.val xo = some (.v (.int .u8 1))) (hy : st.val yo = some (.v (.int .i64 m))) (hm : m = (k : Int)) (hk : k < 8)
    (hrest : SOps C ops rest (st.put t (.v (.int .u8 ((2 ^ k : Nat) : Int)))) R)
    (hg : st.wants ops g = some true := by rfl) (ht : Nat.blt t st.n = true := by rfl) : SOps C ops (⟨some t, .binOp .shl T xo yo T2, ty, pos, aft, g⟩ :: rest) st R :=
  have hlt : 2 ^ k < 256 := Nat.pow_lt_pow_right (by decide) hk
  SOps.binRun hx hy (z := .int .u8 ((2 ^ k : Nat) : Int)) (fun w => by
    subst hm
    have h0 : ¬ ((k : Int) < 0) := by omega
    have hk' : min ((k : Int)).toNat IntKind.u8.bits = k := by simp [IntKind.bits]; omega
    have e : IntKind.u8.wrap (1 * 2 ^ k) = ((2 ^ k : Nat) : Int) := by
      rw [Int.one_mul, ← u8wrapN hlt]; push_cast; rfl
    simp only [eqGuard, binOp, Op.shift, h0, hk', e, if_false]
    rfl) (u8hasN hlt) hrest hg ht
theorem u8and {x y : Nat} (hx : x < 256) (hy : y < 256) : IntKind.u8.wrap (BitVec.ofInt IntKind.u8.bits (x : Int) &&& BitVec.ofInt IntKind.u8.bits (y : Int)).toNat = ((x &&& y : Nat) : Int) := by
  have e : (BitVec.ofInt IntKind.u8.bits (x : Int) &&& BitVec.ofInt IntKind.u8.bits (y : Int)).toNat = x &&& y := by
    rw [BitVec.toNat_and]
    simp only [IntKind.bits, BitVec.ofInt_natCast, BitVec.toNat_ofNat]
    rw [Nat.mod_eq_of_lt hx, Nat.mod_eq_of_lt hy]
  rw [e]
  exact u8wrapN (Nat.lt_of_le_of_lt Nat.and_le_left hx)
theorem u8or {x y : Nat} (hx : x < 256) (hy : y < 256) : IntKind.u8.wrap (BitVec.ofInt IntKind.u8.bits (x : Int) ||| BitVec.ofInt IntKind.u8.bits (y : Int)).toNat = ((x ||| y : Nat) : Int) := by
  have e : (BitVec.ofInt IntKind.u8.bits (x : Int) ||| BitVec.ofInt IntKind.u8.bits (y : Int)).toNat = x ||| y := by
    rw [BitVec.toNat_or]
    simp only [IntKind.bits, BitVec.ofInt_natCast, BitVec.toNat_ofNat]
    rw [Nat.mod_eq_of_lt hx, Nat.mod_eq_of_lt hy]
  rw [e]
  exact u8wrapN (Nat.or_lt_two_pow (n := 8) hx hy)
theorem SOps.andN {T T2 : TypeId} {xo yo : Operand} {x y : Nat} (hx : st.val xo = some (.v (.int .u8 (x : Int)))) (hy : st.val yo = some (.v (.int .u8 (y : Int)))) (h1 : x < 256) (h2 : y < 256)
    (hrest : SOps C ops rest (st.put t (.v (.int .u8 ((x &&& y : Nat) : Int)))) R)
    (hg : st.wants ops g = some true := by rfl) (ht : Nat.blt t st.n = true := by rfl) : SOps C ops (⟨some t, .binOp .and T xo yo T2, ty, pos, aft, g⟩ :: rest) st R :=
  SOps.bits hx hy rfl (by rw [u8and h1 h2]; exact hrest) hg ht
theorem SOps.orN {T T2 : TypeId} {xo yo : Operand} {x y : Nat} (hx : st.val xo = some (.v (.int .u8 (x : Int)))) (hy : st.val yo = some (.v (.int .u8 (y : Int)))) (h1 : x < 256) (h2 : y < 256)
    (hrest : SOps C ops rest (st.put t (.v (.int .u8 ((x ||| y : Nat) : Int)))) R)
    (hg : st.wants ops g = some true := by rfl) (ht : Nat.blt t st.n = true := by rfl) : SOps C ops (⟨some t, .binOp .or T xo yo T2, ty, pos, aft, g⟩ :: rest) st R :=
  SOps.bits hx hy rfl (by rw [u8or h1 h2]; exact hrest) hg ht
end
end Go.GH
namespace Go.GH
open Go Go.RowKit
section
variable {α : Type} {C : Ctx} {E : Env} {base : Base} {F : Nat → Prop} {st : St} {a : Act} {w : World} {ops : Array Oper} {rest : List Oper} {R : St → Prop}
  {t : Tmp} {ty : TypeId} {pos : String} {aft : Array Edge} {g : Option (Nat × Bool)}
/-- A call that is handed own blocks, wherever they stand. -/
theorem SOps.callH {f : FuncId} {xs : Array Operand} {ats : Array TypeId} {ds : List DV} (H1 H H2 : DHeap) {Rr : DV → DHeap → Prop} (hf : GCall C.P C.E f ds H Rr) (hxs : st.vals xs.toList = some ds)
    (hH : st.heap = H1 ++ (H ++ H2)) (hrest : ∀ d H', Rr d H' → SOps C ops rest ⟨st.n, (t, d) :: st.slots, H1 ++ (H' ++ H2)⟩ R)
    (hg : st.wants ops g = some true := by rfl) (ht : Nat.blt t st.n = true := by rfl) :
    SOps C ops (⟨some t, .call { callee := .value (.func f), args := xs, argTypes := ats }, ty, pos, aft, g⟩ :: rest) st R := by
  have hv : ∀ (l : List Operand) (ds : List DV), st.vals l = some ds → (⟨st.n, st.slots, (H1 ++ H2) ++ H⟩ : St).vals l = some ds := fun l => by
    induction l with
    | nil => exact fun ds h => h
    | cons x l ih =>
      intro ds h
      simp only [St.vals] at h ⊢
      split at h
      · rename_i d ds' h1 h2
        have e1 : (⟨st.n, st.slots, (H1 ++ H2) ++ H⟩ : St).val x = some d := by cases x <;> exact h1
        rw [e1, ih ds' h2]; exact h
      · cases h
  have hgw : ∀ g, st.wants ops g = some true → (⟨st.n, st.slots, (H1 ++ H2) ++ H⟩ : St).wants ops g = some true := fun g h => h
  have hperm : ∀ H : DHeap, (H1 ++ (H ++ H2)).Perm ((H1 ++ H2) ++ H) := fun H => by
    rw [List.append_assoc]
    exact List.Perm.append_left _ List.perm_append_comm
  refine SOps.weaken (st' := ⟨st.n, st.slots, (H1 ++ H2) ++ H⟩) ⟨rfl, fun t d h => .inl h, H1 ++ (H ++ H2), (hperm H).symm, by rw [hH]; exact List.Sublist.refl _⟩ ?_
  refine SOps.callR (st := ⟨st.n, st.slots, (H1 ++ H2) ++ H⟩) H (H1 ++ H2) hf (hv _ _ hxs) rfl (fun d H' h => ?_) (hgw _ hg) ht
  exact SOps.weaken (st' := ⟨st.n, (t, d) :: st.slots, H1 ++ (H' ++ H2)⟩) ⟨rfl, fun t d h => .inl h, (H1 ++ H2) ++ H', hperm H', List.Sublist.refl _⟩ (hrest d H' h)
def accI (sz b : Nat) : List (List DV) → DV
  | [] => .isl false sz []
  | e :: es => .sl b sz 0 (es.length + 1)
theorem accI_len {sz b : Nat} : ∀ {es es' : List (List DV)}, es.length = es'.length → accI sz b es = accI sz b es'
  | [], [], _ => rfl
  | [], _ :: _, h => by simp at h
  | _ :: _, [], h => by simp at h
  | _ :: es, _ :: es', h => by simp only [List.length_cons] at h; simp only [accI, h]
theorem nil_isl {w : World} {F : Nat → Prop} {v : Value} {sz : Nat} (hv : Rep w F v (.v (.slice none 0 0))) : Rep w F v (.isl false sz []) := by
  rw [hv.inv_v.1]
  exact .isl (b := 0) (o := 0) (fun _ _ => undef) rfl (by omega) (by simp [lenB]) (fun h => by cases h) (fun h => absurd rfl h) (fun i e h => by simp at h) (fun i e j d h => by simp at h) (fun i e j d h => by simp at h)
theorem sl_isl {w : World} {F : Nat → Prop} {v : Value} {b sz : Nat} (hv : Rep w F v (.sl b sz 0 0)) : Rep w F v (.isl false sz []) := by
  cases hv with
  | sl h1 h2 h3 h4 => exact .isl (b := 0) (o := 0) (fun _ _ => undef) rfl (by omega) (by simp [lenB]) (fun h => by cases h) (fun h => absurd rfl h) (fun i e h => by simp at h) (fun i e j d h => by simp at h) (fun i e j d h => by simp at h)
theorem SOps.accDI {l : List Oper} {sz b : Nat} {es : List (List DV)} (hd : st.get t = some (accD sz b es)) (h : SOps C ops l ⟨st.n, (t, accI sz b es) :: st.slots, st.heap⟩ R) : SOps C ops l st R := by
  intro base ok a w ⟨F, hs⟩
  refine h base ok a w ⟨F, SimF.relabel hs hd (fun hv => ?_)⟩
  cases es with
  | nil => exact nil_isl hv
  | cons x es => exact hv
theorem SOps.freezeAccI {l : List Oper} (H1 H2 : DHeap) {e sz b : Nat} {es : List (List DV)} (hp : C.pu = true) (hd : st.get t = some (accI sz b es)) (hh : st.heap = H1 ++ (accH e sz b es ++ H2))
    (h : SOps C ops l ⟨st.n, (t, .isl false sz es) :: st.slots, H1 ++ H2⟩ R) : SOps C ops l st R := by
  cases es with
  | nil =>
    intro base ok a w ⟨F, hs⟩
    have e1 : st.heap = H1 ++ H2 := by rw [hh]; rfl
    have hs2 : SimF C.E base F ⟨st.n, st.slots, H1 ++ H2⟩ a w := e1 ▸ hs
    exact h base ok a w ⟨F, SimF.relabel (st := ⟨st.n, st.slots, H1 ++ H2⟩) hs2 hd (fun hv => hv)⟩
  | cons x l' =>
    have hi : st.heap[H1.length]? = some (b, .row e sz (x :: l')) := by rw [hh]; simp [accH]
    have e1 : st.heap.eraseIdx H1.length = H1 ++ H2 := by
      rw [hh, List.eraseIdx_append_of_length_le (by simp)]; simp [accH]
    refine SOps.freezeS (t := t) H1.length hp hi hd rfl ?_
    rw [e1]; exact h
theorem SCode.nilIsl {c : Code} {Q : Exit → St → Prop} {sz : Nat} (hd : st.get t = some (.v (.slice none 0 0))) (h : SCode C c ⟨st.n, (t, .isl false sz []) :: st.slots, st.heap⟩ Q) : SCode C c st Q := by
  intro base ok a w ⟨F, hs⟩
  exact h base ok a w ⟨F, SimF.relabel hs hd (fun hv => nil_isl hv)⟩
theorem SCode.slIsl {c : Code} {Q : Exit → St → Prop} {b sz len : Nat} (hd : st.get t = some (.sl b sz 0 len)) (hl : len = 0) (h : SCode C c ⟨st.n, (t, .isl false sz []) :: st.slots, st.heap⟩ Q) : SCode C c st Q := by
  subst hl
  intro base ok a w ⟨F, hs⟩
  exact h base ok a w ⟨F, SimF.relabel hs hd (fun hv => sl_isl hv)⟩
/-- A scope that no jump leaves by a label. -/
def scopeQ (Q : Exit → St → Prop) : Exit → St → Prop
  | .goto _, _ => False
  | e, st => Q e st
theorem SCode.scope {c : Code} {Q : Exit → St → Prop} (h : SCode C c st (scopeQ Q)) : SCode C (.scope c) st Q := fun base ok a w hs =>
  wp_scope_straight (wp_mono (h base ok a w hs) (fun e a' w' ⟨st', q, s⟩ => by
    cases e with
    | goto l => exact q
    | _ => exact ⟨st', q, s⟩))
theorem SCode.label {l : Nat} {Q : Exit → St → Prop} (h : Q .normal st) : SCode C (.label l) st Q := fun base ok a w hs => wp_label ⟨st, h, hs⟩
theorem rep_aggNil {w : World} {F : Nat → Prop} {v : Value} {ds : List DV} {sz : Nat} (i : Nat) (h : Rep w F v (.agg ds)) (hi : ds[i]? = some (.v (.slice none 0 0))) : Rep w F v (.agg (ds.set i (.isl false sz []))) := by
  cases h with
  | agg hl hr =>
    refine .agg (by simpa using hl) (fun j x d hx hd => ?_)
    rw [List.getElem?_set] at hd
    split at hd
    · rename_i e
      subst e
      split at hd
      · obtain rfl := Option.some.inj hd
        exact nil_isl (hr _ x _ hx hi)
      · cases hd
    · exact hr j x d hx hd
/-- What a slot holds, told otherwise. -/
theorem SOps.relab {l : List Oper} {d d' : DV} (hd : st.get t = some d) (hr : ∀ (w : World) (F : Nat → Prop) (v : Value), Rep w F v d → Rep w F v d') (h : SOps C ops l ⟨st.n, (t, d') :: st.slots, st.heap⟩ R) : SOps C ops l st R := by
  intro base ok a w ⟨F, hs⟩
  exact h base ok a w ⟨F, SimF.relabel hs hd (fun hv => hr w F _ hv)⟩
/-- A slice beside nil: if it is nil, it is a slice of nothing. -/
theorem SOps.eqNilS {T T2 te : TypeId} {xo yo : Operand} {nn : Bool} {sz : Nat} {es : List (List DV)} (hT : C.P.underlying T = some (.slice te)) (hx : st.val xo = some (.isl nn sz es)) (hy : st.val yo = some (.v (.slice none 0 0)))
    (hrest : ∀ c : Bool, (c = true → es = []) → SOps C ops rest (st.put t (.v (.bool c))) R)
    (hg : st.wants ops g = some true := by rfl) (ht : Nat.blt t st.n = true := by rfl) : SOps C ops (⟨some t, .binOp .eql T xo yo T2, ty, pos, aft, g⟩ :: rest) st R := by
  refine SOps.op (R1 := fun st' => ∃ c : Bool, (c = true → es = []) ∧ st' = st.put t (.v (.bool c))) hg ?_ (fun st' ⟨c, h1, h2⟩ => h2 ▸ hrest c h1)
  intro base ok a w F hs K Q hK
  have h1 := hs.val hx
  have h2 := (hs.val hy).inv_v.1
  generalize hv : a.eval xo = v at h1
  cases h1 with
  | @isl A len cap nn sz es b o xs hlen hcap hB hnn hA hsz hc hr =>
    have hrun : (execOp a.eval ⟨some t, .binOp .eql T xo yo T2, ty, pos, aft, g⟩).run C.P w = .ok (.value (.bool A.isNone)) w := by
      have key : ∀ (d : Nat) (q : Option Addr), (Op.equalIn (d + 1) T (.slice q len cap) (.slice none 0 0)).run C.P w = .ok q.isNone w := fun d q => by
        cases q <;> simp [Op.equalIn, run_underlying hT]
      simp only [execOp, hv, h2]
      exact run_binNext (by simp only [eqGuard, binOp, Op.equal, Op.maxDepth, Sem.run_bind]; simp [key 9999 A])
    unfold Oper.wp
    rw [hrun, Oper.upon_value]
    refine hK _ _ _ ⟨A.isNone, fun h => ?_, rfl⟩ ⟨F, hs.put (by simpa using ht) (.v trivial)⟩
    cases es with
    | nil => rfl
    | cons x l => have := (hA (by simp)).1; rw [this] at h; cases h
end
end Go.GH
namespace Go.GH
open Go Go.Proofs
variable {E : Env}
theorem aggB_28_2 : aggB Tryd.prog 28 2 = true := by kernel_rfl
theorem aggB_87_4 : aggB Tryd.prog 87 4 = true := by kernel_rfl
theorem boolTy_4 : boolTy Tryd.prog 4 = true := by kernel_rfl
theorem elemB_145_1_24 : elemB Tryd.prog 145 1 24 = true := by kernel_rfl
theorem elemB_3_1_8 : elemB Tryd.prog 3 1 8 = true := by kernel_rfl
theorem elemB_4_1_1 : elemB Tryd.prog 4 1 1 = true := by kernel_rfl
theorem elemB_87_4_32 : elemB Tryd.prog 87 4 32 = true := by kernel_rfl
theorem fieldB_28_0_0 : fieldB Tryd.prog 28 0 0 = true := by kernel_rfl
theorem fieldB_28_1_1 : fieldB Tryd.prog 28 1 1 = true := by kernel_rfl
theorem fieldB_87_0_0 : fieldB Tryd.prog 87 0 0 = true := by kernel_rfl
theorem fieldB_87_1_1 : fieldB Tryd.prog 87 1 1 = true := by kernel_rfl
theorem fieldB_87_2_2 : fieldB Tryd.prog 87 2 2 = true := by kernel_rfl
theorem fieldB_87_3_3 : fieldB Tryd.prog 87 3 3 = true := by kernel_rfl
theorem flatB_144 : flatB Tryd.prog 144 = true := by kernel_rfl
theorem flatB_145 : flatB Tryd.prog 145 = true := by kernel_rfl
theorem flatB_21 : flatB Tryd.prog 21 = true := by kernel_rfl
theorem flatB_26 : flatB Tryd.prog 26 = true := by kernel_rfl
theorem flatB_3 : flatB Tryd.prog 3 = true := by kernel_rfl
theorem flatB_4 : flatB Tryd.prog 4 = true := by kernel_rfl
theorem flatB_45 : flatB Tryd.prog 45 = true := by kernel_rfl
theorem flatB_9 : flatB Tryd.prog 9 = true := by kernel_rfl
theorem mapB_89 : mapB Tryd.prog 89 21 3 (.int .i32) := ⟨by kernel_rfl, by kernel_rfl⟩
theorem mixed_ : Tryd.prog.follows .mixedOrders = true := by kernel_rfl
theorem oneB_144 : oneB Tryd.prog 144 = true := by kernel_rfl
theorem oneB_145 : oneB Tryd.prog 145 = true := by kernel_rfl
theorem oneB_3 : oneB Tryd.prog 3 = true := by kernel_rfl
theorem oneB_4 : oneB Tryd.prog 4 = true := by kernel_rfl
theorem sliceB_144_145_1 : sliceB Tryd.prog 144 145 1 = true := by kernel_rfl
theorem sliceB_145_4_1 : sliceB Tryd.prog 145 4 1 = true := by kernel_rfl
theorem sliceB_22_28_2 : sliceB Tryd.prog 22 28 2 = true := by kernel_rfl
theorem sliceB_43_3_1 : sliceB Tryd.prog 43 3 1 = true := by kernel_rfl
theorem sliceB_45_87_4 : sliceB Tryd.prog 45 87 4 = true := by kernel_rfl
theorem sliceB_92_28_2 : sliceB Tryd.prog 92 28 2 = true := by kernel_rfl
theorem strB_9 : strB Tryd.prog 9 = true := by kernel_rfl
theorem zeroIs_144 : zeroIs Tryd.prog 144 (.slice none 0 0) := by unfold zeroIs; kernel_rfl
theorem zeroIs_145 : zeroIs Tryd.prog 145 (.slice none 0 0) := by unfold zeroIs; kernel_rfl
theorem zeroIs_28 : zeroIs Tryd.prog 28 (.agg #[.int .i32 0, .int .u32 0]) := by unfold zeroIs; kernel_rfl
theorem zeroIs_3 : zeroIs Tryd.prog 3 (.int .i64 0) := by unfold zeroIs; kernel_rfl
theorem zeroIs_4 : zeroIs Tryd.prog 4 (.bool false) := by unfold zeroIs; kernel_rfl
theorem zeroIs_87 : zeroIs Tryd.prog 87 (.agg #[.int .u32 0, .string .empty, .bool false, .bool false]) := by unfold zeroIs; kernel_rfl
def VS (E : Env) : Prop := ∀ s : ByteArray, GCall Tryd.prog E 79 [.v (.string s)] [] (fun d H => d = .v (.bool (utf8R s)) ∧ H = [])
theorem uValidRune (r : Int)  : GCall Tryd.prog E 56 [.v (.int .i32 r)] [] (fun d H => d = .v (.bool (runeOK r)) ∧ H = []) := by
 refine GCall.body (C := ⟨Tryd.prog, E, true⟩) Tryd.func56 rfl (fun _ => rfl) (by kernel_rfl) rfl ?_
 refine SCode.seqR (SOps.assign rfl (SOps.nil (SCode.seq (SCode.block (SCode.seqR (SOps.move rfl (SOps.bin rfl rfl rfl (SOps.move rfl ?_))))))))
 refine SOps.caseB 6 rfl (fun hb1 => ?_) (fun hb1 => ?_)
 ·try simp only [nmL] at hb1
  refine SOps.move rfl (SOps.bin rfl rfl rfl (SOps.pick rfl rfl (SOps.assign rfl (SOps.nil ?_))))
  refine SCode.cond rfl (fun hc2 => ?_) (fun hc2 => ?_)
  ·try simp only [nmL] at hc2
   refine SCode.seqR (SOps.assign rfl (SOps.nil (SCode.ret ?_)))
   exact ⟨_, Res.one (.tmp rfl), congrArg (fun b => DV.v (.bool b)) (by rw [Bool.eq_iff_iff]; simp only [runeOK, decide_eq_true_eq, Bool.false_eq_true, Bool.true_eq_false, beq_iff_eq]; first | omega | (simp; omega)), rfl⟩
  ·try simp only [nmL] at hc2
   refine SCode.seqR (SOps.move rfl (SOps.bin rfl rfl rfl (SOps.move rfl ?_)))
   refine SOps.caseB 13 rfl (fun hb3 => ?_) (fun hb3 => ?_)
   ·try simp only [nmL] at hb3
    refine SOps.move rfl (SOps.bin rfl rfl rfl (SOps.pick rfl rfl (SOps.assign rfl (SOps.nil ?_))))
    refine SCode.cond rfl (fun hc4 => ?_) (fun hc4 => ?_)
    ·try simp only [nmL] at hc4
     refine SCode.seqR (SOps.assign rfl (SOps.nil (SCode.ret ?_)))
     exact ⟨_, Res.one (.tmp rfl), congrArg (fun b => DV.v (.bool b)) (by rw [Bool.eq_iff_iff]; simp only [runeOK, decide_eq_true_eq, Bool.false_eq_true, Bool.true_eq_false, beq_iff_eq]; first | omega | (simp; omega)), rfl⟩
    ·try simp only [nmL] at hc4
     refine SCode.skip ?_
     show SCode _ _ _ _
     refine SCode.seqR (SOps.assign rfl (SOps.nil (SCode.ret ?_)))
     exact ⟨_, Res.one (.tmp rfl), congrArg (fun b => DV.v (.bool b)) (by rw [Bool.eq_iff_iff]; simp only [runeOK, decide_eq_true_eq, Bool.false_eq_true, Bool.true_eq_false, beq_iff_eq]; first | omega | (simp; omega)), rfl⟩
   ·try simp only [nmL] at hb3
    refine SOps.skip rfl (SOps.skip rfl (SOps.pick rfl rfl (SOps.assign rfl (SOps.nil ?_))))
    refine SCode.cond rfl (fun h => by cases h) (fun _ => ?_)
    refine SCode.skip ?_
    show SCode _ _ _ _
    refine SCode.seqR (SOps.assign rfl (SOps.nil (SCode.ret ?_)))
    exact ⟨_, Res.one (.tmp rfl), congrArg (fun b => DV.v (.bool b)) (by rw [Bool.eq_iff_iff]; simp only [runeOK, decide_eq_true_eq, Bool.false_eq_true, Bool.true_eq_false, beq_iff_eq]; first | omega | (simp; omega)), rfl⟩
 ·try simp only [nmL] at hb1
  refine SOps.skip rfl (SOps.skip rfl (SOps.pick rfl rfl (SOps.assign rfl (SOps.nil ?_))))
  refine SCode.cond rfl (fun h => by cases h) (fun _ => ?_)
  refine SCode.seqR (SOps.move rfl (SOps.bin rfl rfl rfl (SOps.move rfl ?_)))
  refine SOps.caseB 13 rfl (fun hb5 => ?_) (fun hb5 => ?_)
  ·try simp only [nmL] at hb5
   refine SOps.move rfl (SOps.bin rfl rfl rfl (SOps.pick rfl rfl (SOps.assign rfl (SOps.nil ?_))))
   refine SCode.cond rfl (fun hc6 => ?_) (fun hc6 => ?_)
   ·try simp only [nmL] at hc6
    refine SCode.seqR (SOps.assign rfl (SOps.nil (SCode.ret ?_)))
    exact ⟨_, Res.one (.tmp rfl), congrArg (fun b => DV.v (.bool b)) (by rw [Bool.eq_iff_iff]; simp only [runeOK, decide_eq_true_eq, Bool.false_eq_true, Bool.true_eq_false, beq_iff_eq]; first | omega | (simp; omega)), rfl⟩
   ·try simp only [nmL] at hc6
    refine SCode.skip ?_
    show SCode _ _ _ _
    refine SCode.seqR (SOps.assign rfl (SOps.nil (SCode.ret ?_)))
    exact ⟨_, Res.one (.tmp rfl), congrArg (fun b => DV.v (.bool b)) (by rw [Bool.eq_iff_iff]; simp only [runeOK, decide_eq_true_eq, Bool.false_eq_true, Bool.true_eq_false, beq_iff_eq]; first | omega | (simp; omega)), rfl⟩
  ·try simp only [nmL] at hb5
   refine SOps.skip rfl (SOps.skip rfl (SOps.pick rfl rfl (SOps.assign rfl (SOps.nil ?_))))
   refine SCode.cond rfl (fun h => by cases h) (fun _ => ?_)
   refine SCode.skip ?_
   show SCode _ _ _ _
   refine SCode.seqR (SOps.assign rfl (SOps.nil (SCode.ret ?_)))
   exact ⟨_, Res.one (.tmp rfl), congrArg (fun b => DV.v (.bool b)) (by rw [Bool.eq_iff_iff]; simp only [runeOK, decide_eq_true_eq, Bool.false_eq_true, Bool.true_eq_false, beq_iff_eq]; first | omega | (simp; omega)), rfl⟩
theorem uRuneCount (s : ByteArray)  : GCall Tryd.prog E 68 [.v (.string s)] [] (fun d H => d = .v (.int .i64 ((runes s).length : Int)) ∧ H = []) := by
 refine GCall.body (C := ⟨Tryd.prog, E, true⟩) Tryd.func68 rfl (fun _ => rfl) (by kernel_rfl) rfl ?_
 refine SCode.seqR (SOps.assign rfl (SOps.nil (SCode.seq (SCode.seqR (SOps.move rfl ?_)))))
 refine SOps.rangeStr rfl strB_9 (fun b0 hb_0 => ?_)
 refine SOps.nil (SCode.block ?_)
 refine SCode.fact (v_scal (t := 0) rfl) (fun hS => ?_)
 simp only [scal, lenB] at hS
 refine SCode.loop3 (fun (p : Nat) (n : Nat) (b : Nat) => (⟨10, [(2, .v (.int .i64 (n : Int))), (4, .it b)], [(b, .iter s p)]⟩ : St)) (fun (p : Nat) (n : Nat) (b : Nat) => n ≤ p ∧ n + (runesAt s p).length = (runes s).length) (fun (p : Nat) (n : Nat) (b : Nat) => s.size - p) (0) (0) (b0) (by exact ⟨Nat.le_refl _, by rw [Nat.zero_add]; rfl⟩) (St.Le.of ⟨(by first | rfl | (show some _ = some _; simp)), (by first | rfl | (show some _ = some _; simp)), trivial⟩ rfl (by first | rfl | (simp))) ?_
 rintro p n b ⟨hn, hl⟩
 refine SCode.seqR ?_
 refine SOps.next 0 rfl rfl (fun hn1 => ?_) (fun hn1 => ?_) (by first | omega | (simp only [lenB]; omega))
 ·refine SOps.extract rfl rfl (SOps.nil (SCode.seq ?_))
  refine SCode.cond rfl (fun _ => ?_) (fun h => by cases h)
  refine SCode.skip ?_
  show SCode _ _ _ _
  refine SCode.block (SCode.region (SOps.move rfl (SOps.addI rfl rfl (by first | omega | (simp only [lenB]; omega)) (by first | omega | (simp only [lenB]; omega)) (SOps.assign rfl (SOps.nil ?_)))))
  exact ⟨p + (Utf8.decode s p).2, n + 1, b, by exact ⟨by have := decode_w s p; omega, by rw [← hl, runes_len_step hn1]; omega⟩, by have := decode_w s p; omega, (St.Le.of ⟨(by first | rfl | (show some _ = some _; simp)), (by first | rfl | (show some _ = some _; simp)), trivial⟩ rfl (by first | rfl | (simp)))⟩
 ·refine SOps.extract rfl rfl (SOps.nil (SCode.seq ?_))
  refine SCode.cond rfl (fun h => by cases h) (fun _ => ?_)
  refine SCode.exit ?_
  show SCode _ _ _ _
  refine SCode.seqR (SOps.move rfl (SOps.assign rfl (SOps.nil (SCode.drop (SCode.ret ?_)))))
  exact ⟨_, Res.one (.tmp rfl), congrArg (fun n : Nat => DV.v (.int .i64 (n : Int))) (by rw [← hl, runesAt_ge hn1]; rfl), rfl⟩
theorem lHas (a : List Letter) (r : Int)  : GCall Tryd.prog E 60 [DLs a, .v (.int .i32 r)] [] (fun d H => d = .v (.bool (idx a r).isSome) ∧ H = []) := by
 refine GCall.body (C := ⟨Tryd.prog, E, true⟩) Tryd.func60 rfl (fun _ => rfl) (by kernel_rfl) rfl ?_
 refine SCode.seqR (SOps.assign rfl (SOps.nil (SCode.seq (SCode.seqR (SOps.move rfl (SOps.lenM rfl sliceB_92_28_2 (SOps.move rfl (SOps.nil (SCode.block (SCode.loop1 (fun (i : Nat) => (⟨18, [(1, .v (.int .i32 r)), (7, DLs a), (8, .v (.int .i64 (a.length : Int))), (9, .v (.int .i64 (i : Int)))], []⟩ : St)) (fun (i : Nat) => i ≤ a.length ∧ ∀ l ∈ a.take i, l.rune ≠ r) (fun (i : Nat) => a.length - i) (0) (by simp) (St.Le.of ⟨(by first | rfl | (show some _ = some _; simp)), (by first | rfl | (show some _ = some _; simp)), (by first | rfl | (show some _ = some _; simp)), (by first | rfl | (show some _ = some _; simp)), trivial⟩ rfl (by first | rfl | (simp))) ?_))))))))))
 rintro i ⟨hi, hf⟩
 refine SCode.fact (isl_len (t := 7) rfl) (fun hB => ?_)
 simp only [List.length_map, lenB] at hB
 refine SCode.seqR (SOps.bin rfl rfl rfl (SOps.nil (SCode.seq ?_)))
 refine SCode.cond rfl (fun hc1 => ?_) (fun hc1 => ?_)
 ·try simp only [nmL] at hc1
  refine SCode.skip ?_
  show SCode _ _ _ _
  refine SCode.seq (SCode.block (SCode.seqR (SOps.indexM (i) rfl rfl sliceB_92_28_2 (by omega) (by omega) (SOps.loadPinA rfl aggB_28_2 (Nat.le_of_ble_eq_true rfl) ?_))))
  refine SOps.alloc (sz := 2) zeroIs_28 (fun b0 hb_0 => ?_)
  refine SOps.storeAM 0 rfl rfl aggB_28_2 rfl (SOps.freezeRef (t := 6) 0 0 rfl rfl rfl rfl rfl (SOps.nil (SCode.seqR (SOps.fieldPin rfl fieldB_28_0_0 (SOps.loadPin rfl flatB_21 (SOps.move rfl (SOps.bin rfl rfl rfl (SOps.nil ?_))))))))
  refine SCode.cond rfl (fun hc2 => ?_) (fun hc2 => ?_)
  ·try simp only [nmL] at hc2
   refine SCode.seqR (SOps.assign rfl (SOps.nil (SCode.ret ?_)))
   exact ⟨_, Res.one (.tmp rfl), congrArg (fun b => DV.v (.bool b)) (Eq.symm (by rw [idx_drop hf (by omega) hc2]; rfl)), rfl⟩
  ·try simp only [nmL] at hc2
   refine SCode.skip ?_
   show SCode _ _ _ _
   refine SCode.region (SOps.addI rfl rfl (by omega) (by omega) (SOps.move rfl (SOps.nil ?_)))
   exact ⟨i + 1, by exact ⟨by omega, take_more hf (by omega) hc2⟩, by omega, (St.Le.of ⟨(by first | rfl | (show some _ = some _; simp)), (by first | rfl | (show some _ = some _; simp)), (by first | rfl | (show some _ = some _; simp)), (by first | rfl | (show some _ = some _; simp)), trivial⟩ rfl (by first | rfl | (simp)))⟩
 ·try simp only [nmL] at hc1
  refine SCode.exit ?_
  show SCode _ _ _ _
  refine SCode.seqR (SOps.assign rfl (SOps.nil (SCode.ret ?_)))
  exact ⟨_, Res.one (.tmp rfl), congrArg (fun b => DV.v (.bool b)) (Eq.symm (by rw [idx_none.2 (by rw [List.take_of_length_le (by omega)] at hf; exact hf)]; rfl)), rfl⟩
def admA (a : List Letter) : Bool := decide (1 ≤ a.length) && decide (a.length ≤ 65) && properB a
theorem lAdm (a : List Letter)  : GCall Tryd.prog E 59 [DLs a] [] (fun d H => d = .v (.bool (admA a)) ∧ H = []) := by
 refine GCall.body (C := ⟨Tryd.prog, E, true⟩) Tryd.func59 rfl (fun _ => rfl) (by kernel_rfl) rfl ?_
 refine SCode.seqR (SOps.assign rfl (SOps.nil (SCode.seq (SCode.seqR ?_))))
 refine SOps.fact (isl_len (t := 0) rfl) (fun hB => ?_)
 simp only [List.length_map, lenB] at hB
 refine SOps.move rfl (SOps.lenM rfl sliceB_92_28_2 (SOps.bin rfl rfl rfl (SOps.move rfl ?_)))
 refine SOps.caseB 8 rfl (fun hb1 => ?_) (fun hb1 => ?_)
 ·try simp only [nmL] at hb1
  refine SOps.skip rfl (SOps.skip rfl (SOps.skip rfl (SOps.pick rfl rfl (SOps.nil ?_))))
  refine SCode.cond rfl (fun _ => ?_) (fun h => by cases h)
  refine SCode.seqR (SOps.assign rfl (SOps.nil (SCode.ret ?_)))
  exact ⟨_, Res.one (.tmp rfl), congrArg (fun b => DV.v (.bool b)) (Eq.symm (Bool.eq_false_iff.2 (fun h => by simp only [admA, Bool.and_eq_true, decide_eq_true_eq] at h; omega))), rfl⟩
 ·try simp only [nmL] at hb1
  refine SOps.move rfl (SOps.lenM rfl sliceB_92_28_2 (SOps.bin rfl rfl rfl (SOps.pick rfl rfl (SOps.nil ?_))))
  refine SCode.cond rfl (fun hc2 => ?_) (fun hc2 => ?_)
  ·try simp only [nmL] at hc2
   refine SCode.seqR (SOps.assign rfl (SOps.nil (SCode.ret ?_)))
   exact ⟨_, Res.one (.tmp rfl), congrArg (fun b => DV.v (.bool b)) (Eq.symm (Bool.eq_false_iff.2 (fun h => by simp only [admA, Bool.and_eq_true, decide_eq_true_eq] at h; omega))), rfl⟩
  ·try simp only [nmL] at hc2
   refine SCode.skip ?_
   show SCode _ _ _ _
   refine SCode.seq (SCode.seqR (SOps.move rfl (SOps.lenM rfl sliceB_92_28_2 (SOps.move rfl (SOps.nil (SCode.block (SCode.loop1 (fun (i : Nat) => (⟨38, [(0, DLs a), (13, DLs a), (14, .v (.int .i64 (a.length : Int))), (15, .v (.int .i64 (i : Int)))], []⟩ : St)) (fun (i : Nat) => i ≤ a.length ∧ (∀ l ∈ a.take i, goodR l.rune = true) ∧ ((a.take i).map (·.rune)).Nodup) (fun (i : Nat) => a.length - i) (0) (by simp) (St.Le.of ⟨(by first | rfl | (show some _ = some _; simp)), (by first | rfl | (show some _ = some _; simp)), (by first | rfl | (show some _ = some _; simp)), (by first | rfl | (show some _ = some _; simp)), trivial⟩ rfl (by first | rfl | (simp))) ?_)))))))
   rintro i ⟨hi, hf⟩
   refine SCode.seqR (SOps.bin rfl rfl rfl (SOps.nil (SCode.seq ?_)))
   refine SCode.cond rfl (fun hc3 => ?_) (fun hc3 => ?_)
   ·try simp only [nmL] at hc3
    refine SCode.skip ?_
    show SCode _ _ _ _
    refine SCode.seq (SCode.block (SCode.seqR (SOps.move rfl (SOps.indexM (i) rfl rfl sliceB_92_28_2 (by omega) (by omega) (SOps.loadPinA rfl aggB_28_2 (Nat.le_of_ble_eq_true rfl) ?_)))))
    refine SOps.alloc (sz := 2) zeroIs_28 (fun b0 hb_0 => ?_)
    refine SOps.assign rfl (SOps.storeAM 0 rfl rfl aggB_28_2 rfl (SOps.freezeRef (t := 4) 0 0 rfl rfl rfl rfl rfl (SOps.nil (SCode.seq ?_))))
    have hi5 : i < a.length := by omega
    refine SCode.weaken (st' := (⟨38, [(0, DLs a), (3, .v (.int .i64 (i : Int))), (4, .ipin (encL (a[i]))), (13, DLs a), (14, .v (.int .i64 (a.length : Int))), (15, .v (.int .i64 (i : Int)))], []⟩ : St)) (St.Le.of ⟨rfl, rfl, rfl, rfl, rfl, rfl, trivial⟩) ?_
    rcases (show (a[i]).rune ≤ 32 ∨ (¬ (a[i]).rune ≤ 32 ∧ runeOK (a[i]).rune = false) ∨ (¬ (a[i]).rune ≤ 32 ∧ runeOK (a[i]).rune = true) from by rcases h : runeOK (a[i]).rune with _ | _ <;> simp <;> omega) with hq | ⟨hq, hq2⟩ | ⟨hq, hq2⟩
    ·refine SCode.drawPure mixed_ [(20, .ipin (encL (a[i]))), (21, .v (.int .i32 (a[i]).rune)), (22, .v (.bool true)), (23, .v (.bool true)), (24, .v (.tuple #[])), (25, .v (.tuple #[])), (26, .v (.tuple #[])), (27, .v (.tuple #[])), (28, .v (.bool true)), (29, .v (.bool true)), (30, .v (.tuple #[])), (31, .v (.tuple #[])), (32, .v (.tuple #[])), (33, .v (.tuple #[])), (34, .v (.tuple #[])), (35, .v (.tuple #[])), (36, .v (.bool true))] [20, 21, 22, 23, 24, 25, 26, 27, 28, 29, 30, 31, 32, 33, 34, 35, 36] [[.inr 4], [.inl 0], [.inl 1], [.inl 2], [.inl 3], [.inl 3], [.inl 3], [.inl 3], [.inl 3, .inl 7], [.inl 8], [.inl 9], [.inl 9], [.inl 9], [.inl 9], [.inl 9], [.inl 9], [.inl 9, .inl 15]] [[(4, .ipin (encL (a[i])))], [(20, .ipin (encL (a[i])))], [(21, .v (.int .i32 (a[i]).rune))], [(22, .v (.bool true))], [(23, .v (.bool true))], [(23, .v (.bool true))], [(23, .v (.bool true))], [(23, .v (.bool true))], [(23, .v (.bool true)), (27, .v (.tuple #[]))], [(28, .v (.bool true))], [(29, .v (.bool true))], [(29, .v (.bool true))], [(29, .v (.bool true))], [(29, .v (.bool true))], [(29, .v (.bool true))], [(29, .v (.bool true))], [(29, .v (.bool true)), (35, .v (.tuple #[]))]] rfl (by kernel_rfl) (by kernel_rfl) rfl ?_ ?_
     ·refine OpsOk.cons (fun rest => ?_) ?_
      ·refine SOps.fieldPin rfl fieldB_28_0_0 ?_
       exact SOps.nil (by first | rfl | simp_all)
      refine OpsOk.cons (fun rest => ?_) ?_
      ·refine SOps.loadPin rfl flatB_21 ?_
       exact SOps.nil (by first | rfl | simp_all)
      refine OpsOk.cons (fun rest => ?_) ?_
      ·refine SOps.bin rfl rfl rfl ?_
       exact SOps.nil (by simp only [decide_eq_true hq]; rfl)
      refine OpsOk.cons (fun rest => ?_) ?_
      ·refine SOps.move rfl ?_
       exact SOps.nil (by first | rfl | simp_all)
      refine OpsOk.cons (fun rest => ?_) ?_
      ·refine SOps.skip rfl ?_
       exact SOps.nil (by first | rfl | simp_all)
      refine OpsOk.cons (fun rest => ?_) ?_
      ·refine SOps.skip rfl ?_
       exact SOps.nil (by first | rfl | simp_all)
      refine OpsOk.cons (fun rest => ?_) ?_
      ·refine SOps.skip rfl ?_
       exact SOps.nil (by first | rfl | simp_all)
      refine OpsOk.cons (fun rest => ?_) ?_
      ·refine SOps.skip rfl ?_
       exact SOps.nil (by first | rfl | simp_all)
      refine OpsOk.cons (fun rest => ?_) ?_
      ·refine SOps.pick rfl rfl ?_
       exact SOps.nil (by first | rfl | simp_all)
      refine OpsOk.cons (fun rest => ?_) ?_
      ·refine SOps.move rfl ?_
       exact SOps.nil (by first | rfl | simp_all)
      refine OpsOk.cons (fun rest => ?_) ?_
      ·refine SOps.skip rfl ?_
       exact SOps.nil (by first | rfl | simp_all)
      refine OpsOk.cons (fun rest => ?_) ?_
      ·refine SOps.skip rfl ?_
       exact SOps.nil (by first | rfl | simp_all)
      refine OpsOk.cons (fun rest => ?_) ?_
      ·refine SOps.skip rfl ?_
       exact SOps.nil (by first | rfl | simp_all)
      refine OpsOk.cons (fun rest => ?_) ?_
      ·refine SOps.skip rfl ?_
       exact SOps.nil (by first | rfl | simp_all)
      refine OpsOk.cons (fun rest => ?_) ?_
      ·refine SOps.skip rfl ?_
       exact SOps.nil (by first | rfl | simp_all)
      refine OpsOk.cons (fun rest => ?_) ?_
      ·refine SOps.skip rfl ?_
       exact SOps.nil (by first | rfl | simp_all)
      refine OpsOk.cons (fun rest => ?_) ?_
      ·refine SOps.pick rfl rfl ?_
       exact SOps.nil (by first | rfl | simp_all)
      exact OpsOk.nil
     ·show SCode _ _ _ _
      refine SCode.cond rfl (fun _ => ?_) (fun h => by cases h)
      refine SCode.seqR (SOps.assign rfl (SOps.nil (SCode.ret ?_)))
      exact ⟨_, Res.one (.tmp rfl), congrArg (fun b => DV.v (.bool b)) (Eq.symm (Bool.eq_false_iff.2 (fun h => by have := goodR_split.1 ((properB_iff.1 (by simp only [admA, Bool.and_eq_true] at h; exact h.2)).1 _ (List.getElem_mem (show i < a.length by omega))); omega))), rfl⟩
    ·refine SCode.drawPure mixed_ [(20, .ipin (encL (a[i]))), (21, .v (.int .i32 (a[i]).rune)), (22, .v (.bool false)), (23, .v (.bool false)), (24, .ipin (encL (a[i]))), (25, .v (.int .i32 (a[i]).rune)), (26, .v (.bool false)), (27, .v (.bool true)), (28, .v (.bool true)), (29, .v (.bool true)), (30, .v (.tuple #[])), (31, .v (.tuple #[])), (32, .v (.tuple #[])), (33, .v (.tuple #[])), (34, .v (.tuple #[])), (35, .v (.tuple #[])), (36, .v (.bool true))] [20, 21, 22, 23, 24, 25, 26, 27, 28, 29, 30, 31, 32, 33, 34, 35, 36] [[.inr 4], [.inl 0], [.inl 1], [.inl 2], [.inl 3, .inr 4], [.inl 3, .inl 4], [.inl 3, .inl 5], [.inl 3, .inl 6], [.inl 3, .inl 7], [.inl 8], [.inl 9], [.inl 9], [.inl 9], [.inl 9], [.inl 9], [.inl 9], [.inl 9, .inl 15]] [[(4, .ipin (encL (a[i])))], [(20, .ipin (encL (a[i])))], [(21, .v (.int .i32 (a[i]).rune))], [(22, .v (.bool false))], [(23, .v (.bool false)), (4, .ipin (encL (a[i])))], [(23, .v (.bool false)), (24, .ipin (encL (a[i])))], [(23, .v (.bool false)), (25, .v (.int .i32 (a[i]).rune))], [(23, .v (.bool false)), (26, .v (.bool false))], [(23, .v (.bool false)), (27, .v (.bool true))], [(28, .v (.bool true))], [(29, .v (.bool true))], [(29, .v (.bool true))], [(29, .v (.bool true))], [(29, .v (.bool true))], [(29, .v (.bool true))], [(29, .v (.bool true))], [(29, .v (.bool true)), (35, .v (.tuple #[]))]] rfl (by kernel_rfl) (by kernel_rfl) rfl ?_ ?_
     ·refine OpsOk.cons (fun rest => ?_) ?_
      ·refine SOps.fieldPin rfl fieldB_28_0_0 ?_
       exact SOps.nil (by first | rfl | simp_all)
      refine OpsOk.cons (fun rest => ?_) ?_
      ·refine SOps.loadPin rfl flatB_21 ?_
       exact SOps.nil (by first | rfl | simp_all)
      refine OpsOk.cons (fun rest => ?_) ?_
      ·refine SOps.bin rfl rfl rfl ?_
       exact SOps.nil (by simp only [decide_eq_false hq]; rfl)
      refine OpsOk.cons (fun rest => ?_) ?_
      ·refine SOps.move rfl ?_
       exact SOps.nil (by first | rfl | simp_all)
      refine OpsOk.cons (fun rest => ?_) ?_
      ·refine SOps.fieldPin rfl fieldB_28_0_0 ?_
       exact SOps.nil (by first | rfl | simp_all)
      refine OpsOk.cons (fun rest => ?_) ?_
      ·refine SOps.loadPin rfl flatB_21 ?_
       exact SOps.nil (by first | rfl | simp_all)
      refine OpsOk.cons (fun rest => ?_) ?_
      ·refine SOps.callP (uValidRune _) rfl ?_
       rintro _ rfl
       exact SOps.nil (by simp only [hq2]; rfl)
      refine OpsOk.cons (fun rest => ?_) ?_
      ·refine SOps.un rfl rfl ?_
       exact SOps.nil (by first | rfl | simp_all)
      refine OpsOk.cons (fun rest => ?_) ?_
      ·refine SOps.pick rfl rfl ?_
       exact SOps.nil (by first | rfl | simp_all)
      refine OpsOk.cons (fun rest => ?_) ?_
      ·refine SOps.move rfl ?_
       exact SOps.nil (by first | rfl | simp_all)
      refine OpsOk.cons (fun rest => ?_) ?_
      ·refine SOps.skip rfl ?_
       exact SOps.nil (by first | rfl | simp_all)
      refine OpsOk.cons (fun rest => ?_) ?_
      ·refine SOps.skip rfl ?_
       exact SOps.nil (by first | rfl | simp_all)
      refine OpsOk.cons (fun rest => ?_) ?_
      ·refine SOps.skip rfl ?_
       exact SOps.nil (by first | rfl | simp_all)
      refine OpsOk.cons (fun rest => ?_) ?_
      ·refine SOps.skip rfl ?_
       exact SOps.nil (by first | rfl | simp_all)
      refine OpsOk.cons (fun rest => ?_) ?_
      ·refine SOps.skip rfl ?_
       exact SOps.nil (by first | rfl | simp_all)
      refine OpsOk.cons (fun rest => ?_) ?_
      ·refine SOps.skip rfl ?_
       exact SOps.nil (by first | rfl | simp_all)
      refine OpsOk.cons (fun rest => ?_) ?_
      ·refine SOps.pick rfl rfl ?_
       exact SOps.nil (by first | rfl | simp_all)
      exact OpsOk.nil
     ·show SCode _ _ _ _
      refine SCode.cond rfl (fun _ => ?_) (fun h => by cases h)
      refine SCode.seqR (SOps.assign rfl (SOps.nil (SCode.ret ?_)))
      exact ⟨_, Res.one (.tmp rfl), congrArg (fun b => DV.v (.bool b)) (Eq.symm (Bool.eq_false_iff.2 (fun h => by have := goodR_split.1 ((properB_iff.1 (by simp only [admA, Bool.and_eq_true] at h; exact h.2)).1 _ (List.getElem_mem (show i < a.length by omega))); rw [this.2] at hq2; cases hq2))), rfl⟩
    ·refine SCode.drawPure mixed_ [(20, .ipin (encL (a[i]))), (21, .v (.int .i32 (a[i]).rune)), (22, .v (.bool false)), (23, .v (.bool false)), (24, .ipin (encL (a[i]))), (25, .v (.int .i32 (a[i]).rune)), (26, .v (.bool true)), (27, .v (.bool false)), (28, .v (.bool false)), (29, .v (.bool false)), (30, DLs a), (31, .v (.int .i64 (i : Int))), (32, DLs (a.take i)), (33, .ipin (encL (a[i]))), (34, .v (.int .i32 (a[i]).rune)), (35, .v (.bool (idx (a.take i) (a[i]).rune).isSome)), (36, .v (.bool (idx (a.take i) (a[i]).rune).isSome))] [20, 21, 22, 23, 24, 25, 26, 27, 28, 29, 30, 31, 32, 33, 34, 35, 36] [[.inr 4], [.inl 0], [.inl 1], [.inl 2], [.inl 3, .inr 4], [.inl 3, .inl 4], [.inl 3, .inl 5], [.inl 3, .inl 6], [.inl 3, .inl 7], [.inl 8], [.inl 9, .inr 0], [.inl 9, .inr 3], [.inl 9, .inl 10, .inl 11], [.inl 9, .inr 4], [.inl 9, .inl 13], [.inl 9, .inl 12, .inl 14], [.inl 9, .inl 15]] [[(4, .ipin (encL (a[i])))], [(20, .ipin (encL (a[i])))], [(21, .v (.int .i32 (a[i]).rune))], [(22, .v (.bool false))], [(23, .v (.bool false)), (4, .ipin (encL (a[i])))], [(23, .v (.bool false)), (24, .ipin (encL (a[i])))], [(23, .v (.bool false)), (25, .v (.int .i32 (a[i]).rune))], [(23, .v (.bool false)), (26, .v (.bool true))], [(23, .v (.bool false)), (27, .v (.bool false))], [(28, .v (.bool false))], [(29, .v (.bool false)), (0, DLs a)], [(29, .v (.bool false)), (3, .v (.int .i64 (i : Int)))], [(29, .v (.bool false)), (30, DLs a), (31, .v (.int .i64 (i : Int)))], [(29, .v (.bool false)), (4, .ipin (encL (a[i])))], [(29, .v (.bool false)), (33, .ipin (encL (a[i])))], [(29, .v (.bool false)), (32, DLs (a.take i)), (34, .v (.int .i32 (a[i]).rune))], [(29, .v (.bool false)), (35, .v (.bool (idx (a.take i) (a[i]).rune).isSome))]] rfl (by kernel_rfl) (by kernel_rfl) rfl ?_ ?_
     ·refine OpsOk.cons (fun rest => ?_) ?_
      ·refine SOps.fieldPin rfl fieldB_28_0_0 ?_
       exact SOps.nil (by first | rfl | simp_all)
      refine OpsOk.cons (fun rest => ?_) ?_
      ·refine SOps.loadPin rfl flatB_21 ?_
       exact SOps.nil (by first | rfl | simp_all)
      refine OpsOk.cons (fun rest => ?_) ?_
      ·refine SOps.bin rfl rfl rfl ?_
       exact SOps.nil (by simp only [decide_eq_false hq]; rfl)
      refine OpsOk.cons (fun rest => ?_) ?_
      ·refine SOps.move rfl ?_
       exact SOps.nil (by first | rfl | simp_all)
      refine OpsOk.cons (fun rest => ?_) ?_
      ·refine SOps.fieldPin rfl fieldB_28_0_0 ?_
       exact SOps.nil (by first | rfl | simp_all)
      refine OpsOk.cons (fun rest => ?_) ?_
      ·refine SOps.loadPin rfl flatB_21 ?_
       exact SOps.nil (by first | rfl | simp_all)
      refine OpsOk.cons (fun rest => ?_) ?_
      ·refine SOps.callP (uValidRune _) rfl ?_
       rintro _ rfl
       exact SOps.nil (by simp only [hq2]; rfl)
      refine OpsOk.cons (fun rest => ?_) ?_
      ·refine SOps.un rfl rfl ?_
       exact SOps.nil (by first | rfl | simp_all)
      refine OpsOk.cons (fun rest => ?_) ?_
      ·refine SOps.pick rfl rfl ?_
       exact SOps.nil (by first | rfl | simp_all)
      refine OpsOk.cons (fun rest => ?_) ?_
      ·refine SOps.move rfl ?_
       exact SOps.nil (by first | rfl | simp_all)
      refine OpsOk.cons (fun rest => ?_) ?_
      ·refine SOps.move rfl ?_
       exact SOps.nil (by first | rfl | simp_all)
      refine OpsOk.cons (fun rest => ?_) ?_
      ·refine SOps.move rfl ?_
       exact SOps.nil (by first | rfl | simp_all)
      refine OpsOk.cons (fun rest => ?_) ?_
      ·refine SOps.sliceT (n1 := 0) (i) sliceB_92_28_2 rfl rfl (by omega) (by omega) ?_
       exact SOps.nil (by first | rfl | simp_all)
      refine OpsOk.cons (fun rest => ?_) ?_
      ·refine SOps.fieldPin rfl fieldB_28_0_0 ?_
       exact SOps.nil (by first | rfl | simp_all)
      refine OpsOk.cons (fun rest => ?_) ?_
      ·refine SOps.loadPin rfl flatB_21 ?_
       exact SOps.nil (by first | rfl | simp_all)
      refine OpsOk.cons (fun rest => ?_) ?_
      ·refine SOps.callP (lHas _ _) rfl ?_
       rintro _ rfl
       exact SOps.nil (by first | rfl | simp_all)
      refine OpsOk.cons (fun rest => ?_) ?_
      ·refine SOps.pick rfl rfl ?_
       exact SOps.nil (by first | rfl | simp_all)
      exact OpsOk.nil
     ·show SCode _ _ _ _
      refine SCode.cond rfl (fun hc4 => ?_) (fun hc4 => ?_)
      ·try simp only [nmL] at hc4
       refine SCode.seqR (SOps.assign rfl (SOps.nil (SCode.ret ?_)))
       exact ⟨_, Res.one (.tmp rfl), congrArg (fun b => DV.v (.bool b)) (Eq.symm (Bool.eq_false_iff.2 (fun h => by have := ((nodup_snoc (show i < a.length by omega)).1 (properB_take (by simp only [admA, Bool.and_eq_true] at h; exact h.2) (i + 1)).2).2; rw [this] at hc4; cases hc4))), rfl⟩
      ·try simp only [nmL] at hc4
       refine SCode.skip ?_
       show SCode _ _ _ _
       refine SCode.region (SOps.addI rfl rfl (by omega) (by omega) (SOps.move rfl (SOps.nil ?_)))
       exact ⟨i + 1, by exact ⟨by omega, take_more hf.1 (by omega) (goodR_split.2 ⟨by omega, hq2⟩), (nodup_snoc (by omega)).2 ⟨hf.2, by cases h : idx (a.take i) (a[i]).rune with | none => rfl | some k => rw [h] at hc4; cases hc4⟩⟩, by omega, (St.Le.of ⟨(by first | rfl | (show some _ = some _; simp)), (by first | rfl | (show some _ = some _; simp)), (by first | rfl | (show some _ = some _; simp)), (by first | rfl | (show some _ = some _; simp)), trivial⟩ rfl (by first | rfl | (simp)))⟩
   ·try simp only [nmL] at hc3
    refine SCode.exit ?_
    show SCode _ _ _ _
    refine SCode.seqR (SOps.assign rfl (SOps.nil (SCode.ret ?_)))
    exact ⟨_, Res.one (.tmp rfl), congrArg (fun b => DV.v (.bool b)) (Eq.symm (by simp only [admA, Bool.and_eq_true, decide_eq_true_eq]; exact ⟨⟨by omega, by omega⟩, properB_iff.2 ⟨by rw [List.take_of_length_le (by omega)] at hf; exact hf.1, by rw [List.take_of_length_le (by omega)] at hf; exact hf.2⟩⟩)), rfl⟩
def consS (a : List Letter) (n : Nat) (s : ByteArray) : Bool := utf8R s && decide ((runes s).length ≤ n) && (runes s).all (fun r => (idx a r).isSome)
theorem lCons (hV : VS E) (a : List Letter) (n : Nat) (s : ByteArray)  : GCall Tryd.prog E 61 [.v (.string s), .v (.int .i64 (n : Int)), .bfn 60 [DLs a]] [] (fun d H => d = .v (.bool (consS a n s)) ∧ H = []) := by
 refine GCall.body (C := ⟨Tryd.prog, E, true⟩) Tryd.func61 rfl (fun _ => rfl) (by kernel_rfl) rfl ?_
 refine SCode.seqR (SOps.assign rfl (SOps.nil (SCode.seq (SCode.seqR (SOps.move rfl (SOps.callP (hV _) rfl ?_))))))
 rintro _ rfl
 refine SOps.un rfl rfl (SOps.nil ?_)
 refine SCode.cond rfl (fun hc1 => ?_) (fun hc1 => ?_)
 ·try simp only [nmL] at hc1
  refine SCode.seqR (SOps.assign rfl (SOps.nil (SCode.ret ?_)))
  exact ⟨_, Res.one (.tmp rfl), congrArg (fun b => DV.v (.bool b)) (Eq.symm (Bool.eq_false_iff.2 (fun h => by simp only [consS, Bool.and_eq_true] at h; rw [h.1.1] at hc1; cases hc1))), rfl⟩
 ·try simp only [nmL] at hc1
  refine SCode.skip ?_
  show SCode _ _ _ _
  refine SCode.seqR (SOps.assign rfl (SOps.nil (SCode.seq (SCode.seqR (SOps.move rfl ?_)))))
  refine SOps.rangeStr rfl strB_9 (fun b0 hb_0 => ?_)
  refine SOps.nil (SCode.block ?_)
  refine SCode.fact (v_scal (t := 0) rfl) (fun hS => ?_)
  simp only [scal, lenB] at hS
  refine SCode.loop3 (fun (p : Nat) (c : Nat) (b : Nat) => (⟨29, [(1, .v (.int .i64 (n : Int))), (2, .bfn 60 [DLs a]), (7, .v (.int .i64 (c : Int))), (14, .it b)], [(b, .iter s p)]⟩ : St)) (fun (p : Nat) (c : Nat) (b : Nat) => c ≤ p ∧ c ≤ n ∧ c + (runesAt s p).length = (runes s).length ∧ (runesAt s p).all (fun r => (idx a r).isSome) = (runes s).all (fun r => (idx a r).isSome)) (fun (p : Nat) (c : Nat) (b : Nat) => s.size - p) (0) (0) (b0) (by exact ⟨Nat.le_refl _, Nat.zero_le _, by rw [Nat.zero_add]; rfl, rfl⟩) (St.Le.of ⟨(by first | rfl | (show some _ = some _; simp)), (by first | rfl | (show some _ = some _; simp)), (by first | rfl | (show some _ = some _; simp)), (by first | rfl | (show some _ = some _; simp)), trivial⟩ rfl (by first | rfl | (simp))) ?_
  rintro p c b ⟨hc, hcn, hl, hf⟩
  refine SCode.seqR ?_
  refine SOps.next 0 rfl rfl (fun hn2 => ?_) (fun hn2 => ?_) (by first | omega | (simp only [lenB]; omega))
  ·refine SOps.extract rfl rfl (SOps.nil (SCode.seq ?_))
   refine SCode.cond rfl (fun _ => ?_) (fun h => by cases h)
   refine SCode.skip ?_
   show SCode _ _ _ _
   refine SCode.block (SCode.seqR (SOps.extract rfl rfl (SOps.assign rfl (SOps.nil (SCode.seqR (SOps.move rfl (SOps.addI rfl rfl (by first | omega | (simp only [lenB]; omega)) (by first | omega | (simp only [lenB]; omega)) (SOps.assign rfl (SOps.nil (SCode.seqR (SOps.move rfl (SOps.move rfl (SOps.bin rfl rfl rfl (SOps.move rfl ?_))))))))))))))
   refine SOps.caseB 23 rfl (fun hb3 => ?_) (fun hb3 => ?_)
   ·try simp only [nmL] at hb3
    refine SOps.skip rfl (SOps.skip rfl (SOps.skip rfl (SOps.skip rfl (SOps.pick rfl rfl (SOps.nil ?_)))))
    refine SCode.cond rfl (fun _ => ?_) (fun h => by cases h)
    refine SCode.seqR (SOps.assign rfl (SOps.nil (SCode.drop (SCode.ret ?_))))
    exact ⟨_, Res.one (.tmp rfl), congrArg (fun b => DV.v (.bool b)) (Eq.symm (Bool.eq_false_iff.2 (fun h => by simp only [consS, Bool.and_eq_true, decide_eq_true_eq] at h; rw [runes_len_step hn2] at hl; omega))), rfl⟩
   ·try simp only [nmL] at hb3
    refine SOps.move rfl (SOps.move rfl (SOps.callB rfl (lHas _ _) rfl ?_))
    rintro _ rfl
    refine SOps.un rfl rfl (SOps.pick rfl rfl (SOps.nil ?_))
    refine SCode.cond rfl (fun hc4 => ?_) (fun hc4 => ?_)
    ·try simp only [nmL] at hc4
     refine SCode.seqR (SOps.assign rfl (SOps.nil (SCode.drop (SCode.ret ?_))))
     exact ⟨_, Res.one (.tmp rfl), congrArg (fun b => DV.v (.bool b)) (Eq.symm (Bool.eq_false_iff.2 (fun h => by simp only [consS, Bool.and_eq_true] at h; rw [← hf, runes_step hn2, hc4] at h; simp at h))), rfl⟩
    ·try simp only [nmL] at hc4
     refine SCode.skip ?_
     exact ⟨p + (Utf8.decode s p).2, c + 1, b, by refine ⟨by have := decode_w s p; omega, by omega, by rw [← hl, runes_len_step hn2]; omega, ?_⟩; rw [← hf, runes_step hn2, hc4]; rfl, by have := decode_w s p; omega, (St.Le.of ⟨(by first | rfl | (show some _ = some _; simp)), (by first | rfl | (show some _ = some _; simp)), (by first | rfl | (show some _ = some _; simp)), (by first | rfl | (show some _ = some _; simp)), trivial⟩ rfl (by first | rfl | (simp)))⟩
  ·refine SOps.extract rfl rfl (SOps.nil (SCode.seq ?_))
   refine SCode.cond rfl (fun h => by cases h) (fun _ => ?_)
   refine SCode.exit ?_
   show SCode _ _ _ _
   refine SCode.seqR (SOps.assign rfl (SOps.nil (SCode.drop (SCode.ret ?_))))
   exact ⟨_, Res.one (.tmp rfl), congrArg (fun b => DV.v (.bool b)) (Eq.symm (by rw [consS, hc1, ← hf, ← hl, runesAt_ge hn2]; simp; omega)), rfl⟩
theorem lIsWord (hV : VS E) (a : List Letter) (s : ByteArray)  : GCall Tryd.prog E 91 [DLs a, .v (.string s)] [] (fun d H => d = .v (.bool (consS a 40 s)) ∧ H = []) := by
 refine GCall.body (C := ⟨Tryd.prog, E, true⟩) Tryd.func91 rfl (fun _ => rfl) (by kernel_rfl) rfl ?_
 refine SCode.seqR (SOps.assign rfl (SOps.nil (SCode.seqR (SOps.move rfl (SOps.move rfl (SOps.makeFuncB rfl (SOps.callP (lCons hV _ 40 _) rfl ?_)))))))
 rintro _ rfl
 refine SOps.assign rfl (SOps.nil (SCode.ret ?_))
 exact ⟨_, Res.one (.tmp rfl), rfl, rfl⟩
theorem pProper (a : List Letter)  : GCall Tryd.prog E 80 [DLs a] [] (fun d H => d = (if properB a then .tup [.imap ((mapOf a).map encE), .v (.bool (decide ((a.length : Int) ≤ 65)))] else .tup [.v (.map none), .v (.bool false)]) ∧ H = []) := by
 refine GCall.body (C := ⟨Tryd.prog, E, true⟩) Tryd.func80 rfl (fun _ => rfl) (by kernel_rfl) rfl ?_
 refine SCode.seqR (SOps.assign rfl (SOps.assign rfl (SOps.nil (SCode.seqR (SOps.move rfl (SOps.lenM rfl sliceB_22_28_2 ?_))))))
 refine SOps.makeMapN mapB_89 rfl (fun b0 hb_0 => ?_)
 refine SOps.assign rfl (SOps.nil (SCode.seq (SCode.seqR (SOps.move rfl (SOps.lenM rfl sliceB_22_28_2 (SOps.move rfl (SOps.nil (SCode.block (SCode.loop2 (fun (i : Nat) (b : Nat) => (⟨47, [(0, DLs a), (4, .mp b), (12, DLs a), (13, .v (.int .i64 (a.length : Int))), (14, .v (.int .i64 (i : Int)))], [(b, .map ((mapOf (a.take i)).map encE))]⟩ : St)) (fun (i : Nat) (b : Nat) => i ≤ a.length ∧ (∀ l ∈ a.take i, goodR l.rune = true) ∧ ((a.take i).map (·.rune)).Nodup) (fun (i : Nat) (b : Nat) => a.length - i) (0) (b0) (by simp) (St.Le.of ⟨(by first | rfl | (show some _ = some _; simp)), (by first | rfl | (show some _ = some _; simp)), (by first | rfl | (show some _ = some _; simp)), (by first | rfl | (show some _ = some _; simp)), (by first | rfl | (show some _ = some _; simp)), trivial⟩ rfl (by first | rfl | (simp))) ?_)))))))))
 rintro i b ⟨hi, hf⟩
 refine SCode.fact (isl_len (t := 0) rfl) (fun hB => ?_)
 simp only [List.length_map, lenB] at hB
 refine SCode.seqR (SOps.bin rfl rfl rfl (SOps.nil (SCode.seq ?_)))
 refine SCode.cond rfl (fun hc1 => ?_) (fun hc1 => ?_)
 ·try simp only [nmL] at hc1
  refine SCode.skip ?_
  show SCode _ _ _ _
  refine SCode.seq (SCode.block (SCode.seqR (SOps.move rfl (SOps.indexM (i) rfl rfl sliceB_22_28_2 (by omega) (by omega) (SOps.loadPinA rfl aggB_28_2 (Nat.le_of_ble_eq_true rfl) ?_)))))
  refine SOps.alloc (sz := 2) zeroIs_28 (fun b1 hb_1 => ?_)
  refine SOps.assign rfl (SOps.storeAM 0 rfl rfl aggB_28_2 rfl (SOps.freezeRef (t := 6) 0 0 rfl rfl rfl rfl rfl (SOps.nil (SCode.seq (SCode.seqR (SOps.move rfl (SOps.fieldPin rfl fieldB_28_0_0 (SOps.loadPin rfl flatB_21 ?_))))))))
  refine SOps.lookupOM 0 (idx (a.take i) (a[i]).rune) (fun i => DV.v (.int .i64 ((i : Nat) : Int))) rfl rfl rfl mapB_89 (keys_enc _) zeroIs_3 (lookup_mapOf _ _) (fun y2 hy2 => ?_) (fun hy2 => ?_)
  ·refine SOps.move rfl (SOps.extract rfl rfl (SOps.extract rfl rfl (SOps.assign rfl (SOps.assign rfl (SOps.nil (SCode.seqR (SOps.move rfl (SOps.move rfl (SOps.skip rfl (SOps.skip rfl (SOps.skip rfl (SOps.pick rfl rfl (SOps.move rfl (SOps.skip rfl (SOps.skip rfl (SOps.skip rfl (SOps.skip rfl (SOps.pick rfl rfl (SOps.nil ?_)))))))))))))))))))
   refine SCode.cond rfl (fun _ => ?_) (fun h => by cases h)
   refine SCode.seqR (SOps.assign rfl (SOps.assign rfl (SOps.nil (SCode.drop (SCode.ret ?_)))))
   exact ⟨_, Res.two (.tmp rfl) (.tmp rfl), by rw [if_neg (fun h => by have := ((nodup_snoc (show i < a.length by omega)).1 (properB_take h (i + 1)).2).2; rw [this] at hy2; cases hy2)], rfl⟩
  ·refine SOps.move rfl (SOps.extract rfl rfl (SOps.extract rfl rfl (SOps.assign rfl (SOps.assign rfl (SOps.nil (SCode.seqR (SOps.move rfl (SOps.move rfl (SOps.fieldPin rfl fieldB_28_0_0 (SOps.loadPin rfl flatB_21 (SOps.bin rfl rfl rfl (SOps.pick rfl rfl (SOps.move rfl ?_)))))))))))))
   refine SOps.caseB 32 rfl (fun hb3 => ?_) (fun hb3 => ?_)
   ·try simp only [nmL] at hb3
    refine SOps.skip rfl (SOps.skip rfl (SOps.skip rfl (SOps.skip rfl (SOps.pick rfl rfl (SOps.nil ?_)))))
    refine SCode.cond rfl (fun _ => ?_) (fun h => by cases h)
    refine SCode.seqR (SOps.assign rfl (SOps.assign rfl (SOps.nil (SCode.drop (SCode.ret ?_)))))
    exact ⟨_, Res.two (.tmp rfl) (.tmp rfl), by rw [if_neg (fun h => by have := goodR_split.1 ((properB_iff.1 h).1 _ (List.getElem_mem (show i < a.length by omega))); omega)], rfl⟩
   ·try simp only [nmL] at hb3
    refine SOps.fieldPin rfl fieldB_28_0_0 (SOps.loadPin rfl flatB_21 (SOps.callP (uValidRune _) rfl ?_))
    rintro _ rfl
    refine SOps.un rfl rfl (SOps.pick rfl rfl (SOps.nil ?_))
    refine SCode.cond rfl (fun hc4 => ?_) (fun hc4 => ?_)
    ·try simp only [nmL] at hc4
     refine SCode.seqR (SOps.assign rfl (SOps.assign rfl (SOps.nil (SCode.drop (SCode.ret ?_)))))
     exact ⟨_, Res.two (.tmp rfl) (.tmp rfl), by rw [if_neg (fun h => by have := goodR_split.1 ((properB_iff.1 h).1 _ (List.getElem_mem (show i < a.length by omega))); rw [this.2] at hc4; cases hc4)], rfl⟩
    ·try simp only [nmL] at hc4
     refine SCode.skip ?_
     show SCode _ _ _ _
     refine SCode.region (SOps.move rfl (SOps.fieldPin rfl fieldB_28_0_0 (SOps.loadPin rfl flatB_21 (SOps.move rfl (SOps.mapUpdate 0 rfl rfl rfl rfl mapB_89 rfl (keys_enc _) (SOps.nil ?_))))))
     show SCode _ _ _ _
     refine SCode.region (SOps.addI rfl rfl (by omega) (by omega) (SOps.move rfl (SOps.nil ?_)))
     exact ⟨i + 1, b, ⟨by omega, take_more hf.1 (by omega) (goodR_split.2 ⟨by omega, hc4⟩), (nodup_snoc (by omega)).2 ⟨hf.2, hy2⟩⟩, by omega, St.Le.of ⟨rfl, rfl, rfl, rfl, rfl, trivial⟩ rfl (congrArg (fun x => [(b, DO.map x)]) (by rw [mapOf_snoc (by omega)]; exact (upd_enc _ _ _ (by rw [findE_mapOf]; exact hy2)).symm))⟩
 ·try simp only [nmL] at hc1
  refine SCode.exit ?_
  show SCode _ _ _ _
  refine SCode.seqR (SOps.freezeMap (t := 4) 0 rfl rfl rfl (SOps.move rfl (SOps.move rfl (SOps.lenM rfl sliceB_22_28_2 (SOps.bin rfl rfl rfl (SOps.assign rfl (SOps.assign rfl (SOps.nil (SCode.drop (SCode.ret ?_))))))))))
  rw [List.take_of_length_le (by omega)] at hf ⊢
  exact ⟨_, Res.two (.tmp rfl) (.tmp rfl), by rw [if_pos (properB_iff.2 hf)], rfl⟩
theorem pOver (hV : VS E) (a : List Letter) (s : ByteArray) (hs : s.size ≤ 1048576) : GCall Tryd.prog E 81 [DMap a, .v (.string s)] [] (fun d H => d = (if overA a s then .tup [DNats (idxs a s), .v (.bool true)] else .tup [.v (.slice none 0 0), .v (.bool false)]) ∧ H = []) := by
 refine GCall.body (C := ⟨Tryd.prog, E, true⟩) Tryd.func81 rfl (fun _ => rfl) (by kernel_rfl) rfl ?_
 refine SCode.seqR (SOps.assign rfl (SOps.assign rfl (SOps.nil (SCode.seq (SCode.seqR (SOps.move rfl (SOps.callP (hV _) rfl ?_)))))))
 rintro _ rfl
 refine SOps.un rfl rfl (SOps.nil ?_)
 refine SCode.cond rfl (fun hc1 => ?_) (fun hc1 => ?_)
 ·try simp only [nmL] at hc1
  refine SCode.seqR (SOps.assign rfl (SOps.assign rfl (SOps.nil (SCode.ret ?_))))
  have hov : overA a s = false := Bool.eq_false_iff.2 (fun h => by simp only [overA, Bool.and_eq_true] at h; rw [h.1] at hc1; cases hc1)
  exact ⟨_, Res.two (.tmp rfl) (.tmp rfl), by rw [hov]; rfl, rfl⟩
 ·try simp only [nmL] at hc1
  refine SCode.skip ?_
  show SCode _ _ _ _
  refine SCode.seqR (SOps.assign rfl (SOps.nil (SCode.seq (SCode.seqR (SOps.move rfl ?_)))))
  refine SOps.rangeStr rfl strB_9 (fun b0 hb_0 => ?_)
  refine SOps.nil (SCode.block (SCode.loop4 (fun (p : Nat) (b : Nat) (l : List Nat) (c : Nat) => (⟨32, [(0, DMap a), (6, accD 1 c (l.map encN)), (15, .it b)], [(b, .iter s p)] ++ (accH 3 1 c (l.map encN) ++ [])⟩ : St)) (fun (p : Nat) (b : Nat) (l : List Nat) (c : Nat) => l.length ≤ p ∧ (runesAt s p).all (fun r => (idx a r).isSome) = (runes s).all (fun r => (idx a r).isSome) ∧ l ++ (runesAt s p).map (fun r => (idx a r).getD 0) = idxs a s) (fun (p : Nat) (b : Nat) (l : List Nat) (c : Nat) => s.size - p) (0) (b0) ([]) (0) (by exact ⟨Nat.le_refl _, rfl, rfl⟩) (St.Le.of ⟨(by first | rfl | (show some _ = some _; simp)), (by first | rfl | (show some _ = some _; simp)), (by first | rfl | (show some _ = some _; simp)), trivial⟩ rfl (by first | rfl | (simp))) ?_))
  rintro p b l c ⟨hln, ho, hl⟩
  refine SCode.seqR ?_
  refine SOps.next 0 rfl rfl (fun hn2 => ?_) (fun hn2 => ?_) (by first | omega | (simp only [lenB]; omega))
  ·refine SOps.extract rfl rfl (SOps.nil (SCode.seq ?_))
   refine SCode.cond rfl (fun _ => ?_) (fun h => by cases h)
   refine SCode.skip ?_
   show SCode _ _ _ _
   refine SCode.block (SCode.seqR (SOps.extract rfl rfl (SOps.assign rfl (SOps.nil (SCode.seqR (SOps.move rfl (SOps.move rfl ?_)))))))
   refine SOps.lookupIM (idx a ((Utf8.decode s p).1 : Int)) (fun i => DV.v (.int .i64 ((i : Nat) : Int))) rfl rfl mapB_89 (keys_enc _) zeroIs_3 (lookup_mapOf _ _) (fun y3 hy3 => ?_) (fun hy3 => ?_)
   ·refine SOps.move rfl (SOps.extract rfl rfl (SOps.extract rfl rfl (SOps.assign rfl (SOps.assign rfl (SOps.nil (SCode.seq (SCode.seqR (SOps.move rfl (SOps.un rfl rfl (SOps.nil ?_))))))))))
    refine SCode.cond rfl (fun h => by cases h) (fun _ => ?_)
    refine SCode.skip ?_
    show SCode _ _ _ _
    refine SCode.region (SOps.move rfl (SOps.move rfl (SOps.litF rfl sliceB_43_3_1 zeroIs_3 rfl ?_)))
    refine SOps.appendAcc [_] [] sliceB_43_3_1 elemB_3_1_8 rfl rfl rfl SrcD.isl (by simp) (by first | (simp [lenB] <;> (first | omega | (simp only [lenB]; omega))) | (simp only [lenB]; (first | omega | (simp only [lenB]; omega)))) (by first | (simp <;> (first | omega | (simp only [lenB]; omega))) | (first | omega | (simp only [lenB]; omega))) (fun b1 => ?_)
    refine SOps.assign rfl (SOps.nil ?_)
    exact ⟨p + (Utf8.decode s p).2, b, l ++ [y3], b1, ⟨by have := decode_w s p; simp; omega, by rw [← ho, runes_step hn2, hy3]; rfl, by rw [← hl, runesAt_lt hn2]; simp [hy3]⟩, by have := decode_w s p; omega, St.Le.of ⟨rfl, (by show some _ = some _; rw [List.map_append]; rfl), rfl, trivial⟩ rfl (by rw [List.map_append]; rfl)⟩
   ·refine SOps.move rfl (SOps.extract rfl rfl (SOps.extract rfl rfl (SOps.assign rfl (SOps.assign rfl (SOps.nil (SCode.seq (SCode.seqR (SOps.move rfl (SOps.un rfl rfl (SOps.nil ?_))))))))))
    refine SCode.cond rfl (fun _ => ?_) (fun h => by cases h)
    refine SCode.seqR (SOps.assign rfl (SOps.assign rfl (SOps.nil (SCode.drop (SCode.ret ?_)))))
    have hov : overA a s = false := Bool.eq_false_iff.2 (fun h => by simp only [overA, Bool.and_eq_true] at h; rw [← ho, runes_step hn2, hy3] at h; simp at h)
    exact ⟨_, Res.two (.tmp rfl) (.tmp rfl), by rw [hov]; rfl, rfl⟩
  ·refine SOps.extract rfl rfl (SOps.nil (SCode.seq ?_))
   refine SCode.cond rfl (fun h => by cases h) (fun _ => ?_)
   refine SCode.exit ?_
   show SCode _ _ _ _
   refine SCode.seqR (SOps.freezeAcc (t := 6) [_] [] rfl rfl rfl (SOps.move rfl (SOps.assign rfl (SOps.assign rfl (SOps.nil (SCode.drop (SCode.ret ?_)))))))
   have hov : overA a s = true := by rw [overA, hc1, ← ho, runesAt_ge hn2]; rfl
   obtain rfl : l = idxs a s := by rw [← hl, runesAt_ge hn2]; simp
   exact ⟨_, Res.two (.tmp rfl) (.tmp rfl), by rw [hov]; rfl, rfl⟩
theorem pValid (hV : VS E) (a : List Letter) (p : List Item) (hp : ∀ x ∈ p, x.lets.size ≤ 1048576) : GCall Tryd.prog E 62 [DLs a, DIts p] [] (fun d H => d = .v (.bool (validPat a p)) ∧ H = []) := by
 refine GCall.body (C := ⟨Tryd.prog, E, true⟩) Tryd.func62 rfl (fun _ => rfl) (by kernel_rfl) rfl ?_
 refine SCode.seqR (SOps.assign rfl (SOps.nil (SCode.seqR (SOps.move rfl ?_))))
 by_cases hpr : properB a = true
 ·refine SOps.callP (pProper _) rfl ?_
  rintro _ rfl
  rw [if_pos hpr]
  refine SOps.move rfl (SOps.extract rfl rfl (SOps.extract rfl rfl (SOps.assign rfl (SOps.assign rfl (SOps.nil (SCode.seq (SCode.seqR ?_)))))))
  refine SOps.fact (isl_len (t := 1) rfl) (fun hB => ?_)
  simp only [List.length_map, lenB] at hB
  refine SOps.move rfl (SOps.un rfl rfl (SOps.move rfl ?_))
  refine SOps.caseB 18 rfl (fun hb1 => ?_) (fun hb1 => ?_)
  ·try simp only [nmL] at hb1
   refine SOps.skip rfl (SOps.skip rfl (SOps.skip rfl (SOps.pick rfl rfl (SOps.nil ?_))))
   refine SCode.cond rfl (fun _ => ?_) (fun h => by cases h)
   refine SCode.seqR (SOps.assign rfl (SOps.nil (SCode.ret ?_)))
   exact ⟨_, Res.one (.tmp rfl), congrArg (fun b => DV.v (.bool b)) (Eq.symm (Bool.eq_false_iff.2 (fun h => by simp only [validPat, Bool.and_eq_true, decide_eq_true_eq] at h; omega))), rfl⟩
  ·try simp only [nmL] at hb1
   refine SOps.move rfl (SOps.lenM rfl sliceB_45_87_4 (SOps.bin rfl rfl rfl (SOps.pick rfl rfl (SOps.nil ?_))))
   refine SCode.cond rfl (fun hc2 => ?_) (fun hc2 => ?_)
   ·try simp only [nmL] at hc2
    refine SCode.seqR (SOps.assign rfl (SOps.nil (SCode.ret ?_)))
    exact ⟨_, Res.one (.tmp rfl), congrArg (fun b => DV.v (.bool b)) (Eq.symm (Bool.eq_false_iff.2 (fun h => by simp only [validPat, Bool.and_eq_true, decide_eq_true_eq] at h; omega))), rfl⟩
   ·try simp only [nmL] at hc2
    refine SCode.skip ?_
    show SCode _ _ _ _
    refine SCode.seq (SCode.seqR (SOps.move rfl (SOps.lenM rfl sliceB_45_87_4 (SOps.move rfl (SOps.nil (SCode.block (SCode.loop1 (fun (i : Nat) => (⟨39, [(5, DMap a), (23, DIts p), (24, .v (.int .i64 (p.length : Int))), (25, .v (.int .i64 (i : Int)))], []⟩ : St)) (fun (i : Nat) => i ≤ p.length ∧ ∀ x ∈ p.take i, overA a x.lets = true) (fun (i : Nat) => p.length - i) (0) (by simp) (St.Le.of ⟨(by first | rfl | (show some _ = some _; simp)), (by first | rfl | (show some _ = some _; simp)), (by first | rfl | (show some _ = some _; simp)), (by first | rfl | (show some _ = some _; simp)), trivial⟩ rfl (by first | rfl | (simp))) ?_)))))))
    rintro i ⟨hi, hf⟩
    refine SCode.seqR (SOps.bin rfl rfl rfl (SOps.nil (SCode.seq ?_)))
    refine SCode.cond rfl (fun hc3 => ?_) (fun hc3 => ?_)
    ·try simp only [nmL] at hc3
     refine SCode.skip ?_
     show SCode _ _ _ _
     refine SCode.seq (SCode.block (SCode.seqR (SOps.indexM (i) rfl rfl sliceB_45_87_4 (by first | omega | (simp only [lenB]; omega)) (by first | omega | (simp only [lenB]; omega)) (SOps.loadPinA rfl aggB_87_4 (Nat.le_of_ble_eq_true rfl) ?_))))
     refine SOps.alloc (sz := 4) zeroIs_87 (fun b0 hb_0 => ?_)
     refine SOps.storeAM 0 rfl rfl aggB_87_4 rfl (SOps.freezeRef (t := 8) 0 0 rfl rfl rfl rfl rfl (SOps.nil (SCode.seqR (SOps.move rfl (SOps.fieldPin rfl fieldB_87_1_1 (SOps.loadPin rfl flatB_9 ?_))))))
     have hz := hp _ (List.getElem_mem (show i < p.length by omega))
     rcases hov : overA a (p[i]).lets with _ | _
     ·refine SOps.callP (pOver hV a _ hz) rfl ?_
      rintro _ rfl
      rw [hov]
      show SOps _ _ _ ⟨_, (33, .tup [.v (.slice none 0 0), .v (.bool false)]) :: _, _⟩ _
      refine SOps.move rfl (SOps.extract rfl rfl (SOps.extract rfl rfl (SOps.assign rfl (SOps.assign rfl (SOps.nil (SCode.seqR (SOps.move rfl (SOps.un rfl rfl (SOps.nil ?_)))))))))
      refine SCode.cond rfl (fun _ => ?_) (fun h => by cases h)
      refine SCode.seqR (SOps.assign rfl (SOps.nil (SCode.ret ?_)))
      exact ⟨_, Res.one (.tmp rfl), congrArg (fun b => DV.v (.bool b)) (Eq.symm (Bool.eq_false_iff.2 (fun h => by simp only [validPat, Bool.and_eq_true, List.all_eq_true] at h; rw [h.2 _ (List.getElem_mem (show i < p.length by omega))] at hov; cases hov))), rfl⟩
     ·refine SOps.callP (pOver hV a _ hz) rfl ?_
      rintro _ rfl
      rw [hov]
      show SOps _ _ _ ⟨_, (33, .tup [DNats _, .v (.bool true)]) :: _, _⟩ _
      refine SOps.move rfl (SOps.extract rfl rfl (SOps.extract rfl rfl (SOps.assign rfl (SOps.assign rfl (SOps.nil (SCode.seqR (SOps.move rfl (SOps.un rfl rfl (SOps.nil ?_)))))))))
      refine SCode.cond rfl (fun h => by cases h) (fun _ => ?_)
      refine SCode.skip ?_
      show SCode _ _ _ _
      refine SCode.region (SOps.addI rfl rfl (by first | omega | (simp only [lenB]; omega)) (by first | omega | (simp only [lenB]; omega)) (SOps.move rfl (SOps.nil ?_)))
      exact ⟨i + 1, by exact ⟨by omega, take_more hf (by omega) hov⟩, by omega, (St.Le.of ⟨(by first | rfl | (show some _ = some _; simp)), (by first | rfl | (show some _ = some _; simp)), (by first | rfl | (show some _ = some _; simp)), (by first | rfl | (show some _ = some _; simp)), trivial⟩ rfl (by first | rfl | (simp)))⟩
    ·try simp only [nmL] at hc3
     refine SCode.exit ?_
     show SCode _ _ _ _
     refine SCode.seqR (SOps.assign rfl (SOps.nil (SCode.ret ?_)))
     exact ⟨_, Res.one (.tmp rfl), congrArg (fun b => DV.v (.bool b)) (Eq.symm (by simp only [validPat, hpr, Bool.true_and, Bool.and_eq_true, decide_eq_true_eq, List.all_eq_true]; exact ⟨⟨by omega, by omega⟩, all_of (by omega) hf⟩)), rfl⟩
 ·refine SOps.callP (pProper _) rfl ?_
  rintro _ rfl
  rw [if_neg hpr]
  refine SOps.move rfl (SOps.extract rfl rfl (SOps.extract rfl rfl (SOps.assign rfl (SOps.assign rfl (SOps.nil (SCode.seq (SCode.seqR ?_)))))))
  refine SOps.fact (isl_len (t := 1) rfl) (fun hB => ?_)
  simp only [List.length_map, lenB] at hB
  refine SOps.move rfl (SOps.un rfl rfl (SOps.move rfl (SOps.skip rfl (SOps.skip rfl (SOps.skip rfl (SOps.pick rfl rfl (SOps.nil ?_)))))))
  refine SCode.cond rfl (fun _ => ?_) (fun h => by cases h)
  refine SCode.seqR (SOps.assign rfl (SOps.nil (SCode.ret ?_)))
  exact ⟨_, Res.one (.tmp rfl), congrArg (fun b => DV.v (.bool b)) (Eq.symm (Bool.eq_false_iff.2 (fun h => by simp only [validPat, Bool.and_eq_true] at h; exact hpr h.1.1.1))), rfl⟩
theorem pRead (hV : VS E) (a : List Letter) (p : List Item) (s : ByteArray) (hp : ∀ x ∈ p, x.lets.size ≤ 1048576) (hs : s.size ≤ 1048576) : GCall Tryd.prog E 103 [DLs a, DIts p, .v (.string s)] [] (fun d H => d = (if (validPat a p && overA a s) then .tup [DNats (idxs a s), .v (.bool true)] else .tup [.v (.slice none 0 0), .v (.bool false)]) ∧ H = []) := by
 refine GCall.body (C := ⟨Tryd.prog, E, true⟩) Tryd.func103 rfl (fun _ => rfl) (by kernel_rfl) rfl ?_
 refine SCode.seqR (SOps.assign rfl (SOps.assign rfl (SOps.nil (SCode.seq (SCode.seqR (SOps.move rfl (SOps.move rfl (SOps.callP (pValid hV _ _ (by assumption)) rfl ?_))))))))
 rintro _ rfl
 refine SOps.un rfl rfl (SOps.nil ?_)
 refine SCode.cond rfl (fun hc1 => ?_) (fun hc1 => ?_)
 ·try simp only [nmL] at hc1
  have hvp : validPat a p = false := hc1
  refine SCode.seqR (SOps.assign rfl (SOps.assign rfl (SOps.nil (SCode.ret ?_))))
  exact ⟨_, Res.two (.tmp rfl) (.tmp rfl), by rw [hvp]; rfl, rfl⟩
 ·try simp only [nmL] at hc1
  have hvp : validPat a p = true := hc1
  have hpr : properB a = true := by simp only [validPat, Bool.and_eq_true] at hvp; exact hvp.1.1.1
  refine SCode.skip ?_
  show SCode _ _ _ _
  refine SCode.seqR (SOps.move rfl (SOps.callP (pProper _) rfl ?_))
  rintro _ rfl; rw [if_pos hpr]
  refine SOps.move rfl (SOps.extract rfl rfl (SOps.extract rfl rfl (SOps.assign rfl (SOps.assign rfl (SOps.nil (SCode.seqR (SOps.move rfl (SOps.move rfl (SOps.callP (pOver hV a _ hs) rfl ?_)))))))))
  rintro _ rfl
  rcases hov : overA a s with _ | _
  ·show SOps _ _ _ ⟨_, (21, .tup [.v (.slice none 0 0), .v (.bool false)]) :: _, _⟩ _
   refine SOps.extract rfl rfl (SOps.extract rfl rfl (SOps.assign rfl (SOps.assign rfl (SOps.nil (SCode.ret ?_)))))
   exact ⟨_, Res.two (.tmp rfl) (.tmp rfl), by rw [hvp]; rfl, rfl⟩
  ·show SOps _ _ _ ⟨_, (21, .tup [DNats _, .v (.bool true)]) :: _, _⟩ _
   refine SOps.extract rfl rfl (SOps.extract rfl rfl (SOps.assign rfl (SOps.assign rfl (SOps.nil (SCode.ret ?_)))))
   exact ⟨_, Res.two (.tmp rfl) (.tmp rfl), by rw [hvp]; rfl, rfl⟩
theorem pAdmits (x : Item) (l : Letter)  : GCall Tryd.prog E 110 [.agg (encIt x), .agg (encL l)] [] (fun d H => d = .v (.bool (admB x l)) ∧ H = []) := by
 refine GCall.body (C := ⟨Tryd.prog, E, true⟩) Tryd.func110 rfl (fun _ => rfl) (by kernel_rfl) rfl ?_
 refine SCode.seqR (SOps.boxAM rfl rfl (SOps.boxAM rfl rfl (SOps.assign rfl (SOps.nil (SCode.seqR (SOps.fieldPin rfl fieldB_28_1_1 (SOps.loadPin rfl flatB_26 (SOps.fieldPin rfl fieldB_87_0_0 (SOps.loadPin rfl flatB_26 (SOps.bits rfl rfl rfl (SOps.fieldPin rfl fieldB_87_0_0 (SOps.loadPin rfl flatB_26 (SOps.bin rfl rfl rfl (SOps.assign rfl (SOps.nil (SCode.seq (SCode.seqR (SOps.move rfl (SOps.move rfl ?_)))))))))))))))))))
 refine SOps.caseB 17 rfl (fun hb1 => ?_) (fun hb1 => ?_)
 ·try simp only [nmL] at hb1
  refine SOps.fieldPin rfl fieldB_87_1_1 (SOps.loadPin rfl flatB_9 (SOps.bin rfl rfl rfl (SOps.pick rfl rfl (SOps.nil ?_))))
  refine SCode.cond rfl (fun hc2 => ?_) (fun hc2 => ?_)
  ·try simp only [nmL] at hc2
   refine SCode.seqR (SOps.assign rfl (SOps.nil (SCode.seqR (SOps.fieldPin rfl fieldB_87_1_1 (SOps.loadPin rfl flatB_9 ?_)))))
   refine SOps.rangeStr rfl strB_9 (fun b0 hb_0 => ?_)
   refine SOps.nil (SCode.block ?_)
   refine SCode.fact (v_scal (t := 23) rfl) (fun hS => ?_)
   simp only [scal, lenB] at hS
   refine SCode.loop3 (fun (p : Nat) (f : Bool) (b : Nat) => (⟨39, [(2, .ipin (encIt x)), (3, .ipin (encL l)), (5, .v (.bool f)), (24, .it b)], [(b, .iter x.lets p)]⟩ : St)) (fun (p : Nat) (f : Bool) (b : Nat) => (f || (runesAt x.lets p).any (fun c => c == l.rune)) = listed x.lets l.rune) (fun (p : Nat) (f : Bool) (b : Nat) => x.lets.size - p) (0) (false) (b0) (by rfl) (St.Le.of ⟨(by first | rfl | (show some _ = some _; simp)), (by first | rfl | (show some _ = some _; simp)), (by first | rfl | (show some _ = some _; simp)), (by first | rfl | (show some _ = some _; simp)), trivial⟩ rfl (by first | rfl | (simp))) ?_
   rintro p f b hf
   refine SCode.seqR ?_
   refine SOps.next 0 rfl rfl (fun hn3 => ?_) (fun hn3 => ?_) (by first | omega | (simp only [lenB]; omega))
   ·refine SOps.extract rfl rfl (SOps.nil (SCode.seq ?_))
    refine SCode.cond rfl (fun _ => ?_) (fun h => by cases h)
    refine SCode.skip ?_
    show SCode _ _ _ _
    refine SCode.block (SCode.seqR (SOps.extract rfl rfl (SOps.assign rfl (SOps.nil (SCode.region (SOps.move rfl (SOps.move rfl ?_)))))))
    refine SOps.caseB 29 rfl (fun hb4 => ?_) (fun hb4 => ?_)
    ·try simp only [nmL] at hb4
     refine SOps.skip rfl (SOps.skip rfl (SOps.skip rfl (SOps.skip rfl (SOps.pick rfl rfl (SOps.assign rfl (SOps.nil ?_))))))
     first
      | exact ⟨p + (Utf8.decode x.lets p).2, true, b, by rw [← hf, hb4]; rfl, by have := decode_w x.lets p; omega, St.Le.of ⟨rfl, rfl, (by rw [hb4]; rfl), rfl, trivial⟩⟩
      | exact ⟨p + (Utf8.decode x.lets p).2, _, b, by rw [← hf, hb4, runesAt_lt hn3]; simp only [List.any_cons, Bool.false_or] <;> rfl, by have := decode_w x.lets p; omega, St.Le.of ⟨rfl, rfl, rfl, rfl, trivial⟩⟩
    ·try simp only [nmL] at hb4
     refine SOps.move rfl (SOps.fieldPin rfl fieldB_28_0_0 (SOps.loadPin rfl flatB_21 (SOps.bin rfl rfl rfl (SOps.pick rfl rfl (SOps.assign rfl (SOps.nil ?_))))))
     first
      | exact ⟨p + (Utf8.decode x.lets p).2, true, b, by rw [← hf, hb4]; rfl, by have := decode_w x.lets p; omega, St.Le.of ⟨rfl, rfl, (by rw [hb4]; rfl), rfl, trivial⟩⟩
      | exact ⟨p + (Utf8.decode x.lets p).2, _, b, by rw [← hf, hb4, runesAt_lt hn3]; simp only [List.any_cons, Bool.false_or] <;> rfl, by have := decode_w x.lets p; omega, St.Le.of ⟨rfl, rfl, rfl, rfl, trivial⟩⟩
   ·refine SOps.extract rfl rfl (SOps.nil (SCode.seq ?_))
    refine SCode.cond rfl (fun h => by cases h) (fun _ => ?_)
    refine SCode.exit ?_
    show SCode _ _ _ _
    refine SCode.seqR (SOps.move rfl (SOps.fieldPin rfl fieldB_87_2_2 (SOps.loadPin rfl flatB_4 (SOps.boolNe rfl rfl boolTy_4 (SOps.assign rfl (SOps.nil (SCode.drop (SCode.ret ?_))))))))
    exact ⟨_, Res.one (.tmp rfl), congrArg (fun b => DV.v (.bool b)) (by rw [runesAt_ge hn3] at hf; simp only [List.any_nil, Bool.or_false] at hf; rw [hf, admB, show hasC l.cls x.mask = true from beq_iff_eq.2 hb1, decide_eq_false hc2] <;> rfl), rfl⟩
  ·try simp only [nmL] at hc2
   refine SCode.skip ?_
   show SCode _ _ _ _
   refine SCode.seqR (SOps.move rfl (SOps.fieldPin rfl fieldB_87_2_2 (SOps.loadPin rfl flatB_4 (SOps.boolNe rfl rfl boolTy_4 (SOps.assign rfl (SOps.nil (SCode.ret ?_)))))))
   exact ⟨_, Res.one (.tmp rfl), congrArg (fun b => DV.v (.bool b)) (by rw [admB, show hasC l.cls x.mask = true from beq_iff_eq.2 hb1]; simp_all), rfl⟩
 ·try simp only [nmL] at hb1
  refine SOps.skip rfl (SOps.skip rfl (SOps.skip rfl (SOps.pick rfl rfl (SOps.nil ?_))))
  refine SCode.cond rfl (fun h => by cases h) (fun _ => ?_)
  refine SCode.skip ?_
  show SCode _ _ _ _
  refine SCode.seqR (SOps.move rfl (SOps.fieldPin rfl fieldB_87_2_2 (SOps.loadPin rfl flatB_4 (SOps.boolNe rfl rfl boolTy_4 (SOps.assign rfl (SOps.nil (SCode.ret ?_)))))))
  exact ⟨_, Res.one (.tmp rfl), congrArg (fun b => DV.v (.bool b)) (by rw [admB, show hasC l.cls x.mask = false from beq_eq_false_iff_ne.2 hb1, beq_eq_false_iff_ne.2 hb1] <;> rfl), rfl⟩
theorem pClosed (p : List Item) (s : Nat) (hp : p.length < 8) (hs : s < 256) : GCall Tryd.prog E 109 [DIts p, .v (.int .u8 ((s : Nat) : Int))] [] (fun d H => d = .v (.int .u8 ((closedN p s : Nat) : Int)) ∧ H = []) := by
 refine GCall.body (C := ⟨Tryd.prog, E, true⟩) Tryd.func109 rfl (fun _ => rfl) (by kernel_rfl) rfl ?_
 refine SCode.seqR (SOps.assign rfl (SOps.nil (SCode.seq (SCode.seqR (SOps.move rfl (SOps.lenM rfl sliceB_45_87_4 (SOps.move rfl (SOps.nil (SCode.block (SCode.loop2 (fun (i : Nat) (c : Nat) => (⟨30, [(1, .v (.int .u8 ((c : Nat) : Int))), (7, DIts p), (8, .v (.int .i64 (p.length : Int))), (9, .v (.int .i64 (i : Int)))], []⟩ : St)) (fun (i : Nat) (c : Nat) => i ≤ p.length ∧ c < 256 ∧ closedF (p.drop i) i c = closedN p s) (fun (i : Nat) (c : Nat) => p.length - i) (0) (s) (by exact ⟨Nat.zero_le _, hs, rfl⟩) (St.Le.of ⟨(by first | rfl | (show some _ = some _; simp)), (by first | rfl | (show some _ = some _; simp)), (by first | rfl | (show some _ = some _; simp)), (by first | rfl | (show some _ = some _; simp)), trivial⟩ rfl (by first | rfl | (simp))) ?_))))))))))
 rintro i c ⟨hi, hcs, hf⟩
 refine SCode.seqR (SOps.bin rfl rfl rfl (SOps.nil (SCode.seq ?_)))
 refine SCode.cond rfl (fun hc1 => ?_) (fun hc1 => ?_)
 ·try simp only [nmL] at hc1
  refine SCode.skip ?_
  show SCode _ _ _ _
  refine SCode.seq (SCode.block (SCode.seqR (SOps.move rfl (SOps.indexM (i) rfl rfl sliceB_45_87_4 (by omega) (by omega) (SOps.loadPinA rfl aggB_87_4 (Nat.le_of_ble_eq_true rfl) ?_)))))
  refine SOps.alloc (sz := 4) zeroIs_87 (fun b0 hb_0 => ?_)
  refine SOps.assign rfl (SOps.storeAM 0 rfl rfl aggB_87_4 rfl (SOps.freezeRef (t := 6) 0 0 rfl rfl rfl rfl rfl (SOps.nil (SCode.seqR ?_))))
  have hdr := drop_cons (show i < p.length by omega)
  refine SOps.fieldPin rfl fieldB_87_3_3 (SOps.loadPin rfl flatB_4 (SOps.move rfl ?_))
  refine SOps.caseB 16 rfl (fun hb2 => ?_) (fun hb2 => ?_)
  ·try simp only [nmL] at hb2
   refine SOps.move rfl (SOps.move rfl (SOps.shrN (k := i) rfl rfl (by omega) (by omega) (by omega) (SOps.andN (y := 1) rfl rfl (by first | omega | (exact Nat.lt_of_le_of_lt (by rw [Nat.shiftRight_eq_div_pow]; exact Nat.div_le_self ..) (by omega)) | exact two_lt (by omega)) (by first | omega | (exact Nat.lt_of_le_of_lt (by rw [Nat.shiftRight_eq_div_pow]; exact Nat.div_le_self ..) (by omega)) | exact two_lt (by omega)) (SOps.bin rfl rfl rfl (SOps.pick rfl rfl (SOps.nil ?_))))))
   refine SCode.cond rfl (fun hc3 => ?_) (fun hc3 => ?_)
   ·try simp only [nmL] at hc3
    refine SCode.region (SOps.move rfl (SOps.move rfl (SOps.addI rfl rfl (by omega) (by omega) (SOps.shlN (k := (i + 1)) rfl rfl (by omega) (by omega) (SOps.orN rfl rfl (by first | omega | (exact Nat.lt_of_le_of_lt (by rw [Nat.shiftRight_eq_div_pow]; exact Nat.div_le_self ..) (by omega)) | exact two_lt (by omega)) (by first | omega | (exact Nat.lt_of_le_of_lt (by rw [Nat.shiftRight_eq_div_pow]; exact Nat.div_le_self ..) (by omega)) | exact two_lt (by omega)) (SOps.assign rfl (SOps.nil ?_)))))))
    show SCode _ _ _ _
    refine SCode.region (SOps.addI rfl rfl (by omega) (by omega) (SOps.move rfl (SOps.nil ?_)))
    first
     | exact ⟨i + 1, c ||| 2 ^ (i + 1), ⟨by omega, or_lt hcs (by omega), by rw [← hf, hdr]; simp only [closedF]; rw [if_pos (by rw [hb2, bit1i.1 hc3]; rfl)]⟩, by omega, St.Le.of ⟨rfl, rfl, rfl, rfl, trivial⟩⟩
     | exact ⟨i + 1, c, ⟨by omega, hcs, by rw [← hf, hdr]; simp only [closedF]; rw [if_neg (by rw [hb2]; simp; exact Bool.eq_false_iff.2 (fun h => hc3 (bit1i.2 h)))]⟩, by omega, St.Le.of ⟨rfl, rfl, rfl, rfl, trivial⟩⟩
     | exact ⟨i + 1, c, ⟨by omega, hcs, by rw [← hf, hdr]; simp only [closedF]; rw [if_neg (by rw [hb2]; simp)]⟩, by omega, St.Le.of ⟨rfl, rfl, rfl, rfl, trivial⟩⟩
   ·try simp only [nmL] at hc3
    refine SCode.skip ?_
    show SCode _ _ _ _
    refine SCode.region (SOps.addI rfl rfl (by omega) (by omega) (SOps.move rfl (SOps.nil ?_)))
    first
     | exact ⟨i + 1, c ||| 2 ^ (i + 1), ⟨by omega, or_lt hcs (by omega), by rw [← hf, hdr]; simp only [closedF]; rw [if_pos (by rw [hb2, bit1i.1 hc3]; rfl)]⟩, by omega, St.Le.of ⟨rfl, rfl, rfl, rfl, trivial⟩⟩
     | exact ⟨i + 1, c, ⟨by omega, hcs, by rw [← hf, hdr]; simp only [closedF]; rw [if_neg (by rw [hb2]; simp; exact Bool.eq_false_iff.2 (fun h => hc3 (bit1i.2 h)))]⟩, by omega, St.Le.of ⟨rfl, rfl, rfl, rfl, trivial⟩⟩
     | exact ⟨i + 1, c, ⟨by omega, hcs, by rw [← hf, hdr]; simp only [closedF]; rw [if_neg (by rw [hb2]; simp)]⟩, by omega, St.Le.of ⟨rfl, rfl, rfl, rfl, trivial⟩⟩
  ·try simp only [nmL] at hb2
   refine SOps.skip rfl (SOps.skip rfl (SOps.skip rfl (SOps.skip rfl (SOps.skip rfl (SOps.pick rfl rfl (SOps.nil ?_))))))
   refine SCode.cond rfl (fun h => by cases h) (fun _ => ?_)
   refine SCode.skip ?_
   show SCode _ _ _ _
   refine SCode.region (SOps.addI rfl rfl (by omega) (by omega) (SOps.move rfl (SOps.nil ?_)))
   first
    | exact ⟨i + 1, c ||| 2 ^ (i + 1), ⟨by omega, or_lt hcs (by omega), by rw [← hf, hdr]; simp only [closedF]; rw [if_pos (by rw [hb2, bit1i.1 hc3]; rfl)]⟩, by omega, St.Le.of ⟨rfl, rfl, rfl, rfl, trivial⟩⟩
    | exact ⟨i + 1, c, ⟨by omega, hcs, by rw [← hf, hdr]; simp only [closedF]; rw [if_neg (by rw [hb2]; simp; exact Bool.eq_false_iff.2 (fun h => hc3 (bit1i.2 h)))]⟩, by omega, St.Le.of ⟨rfl, rfl, rfl, rfl, trivial⟩⟩
    | exact ⟨i + 1, c, ⟨by omega, hcs, by rw [← hf, hdr]; simp only [closedF]; rw [if_neg (by rw [hb2]; simp)]⟩, by omega, St.Le.of ⟨rfl, rfl, rfl, rfl, trivial⟩⟩
 ·try simp only [nmL] at hc1
  refine SCode.exit ?_
  show SCode _ _ _ _
  refine SCode.seqR (SOps.move rfl (SOps.assign rfl (SOps.nil (SCode.ret ?_))))
  exact ⟨_, Res.one (.tmp rfl), congrArg (fun n : Nat => DV.v (.int .u8 (n : Int))) (by rw [← hf, List.drop_eq_nil_of_le (by omega)]; rfl), rfl⟩
def atL (a : List Letter) (c : Nat) : Letter := a.getD c ⟨0, 0⟩
theorem atL_lt {a : List Letter} {c : Nat} (h : c < a.length) : atL a c = a[c] := by simp [atL, h]
def admF (a : List Letter) (x : Item) (c : Nat) : Bool := admB x (atL a c)
def tbl (a : List Letter) (p : List Item) : List (List Bool) := p.map (fun x => a.map (admB x))
def encRow (l : List Bool) : List DV := [DBools l]
abbrev DTbl (t : List (List Bool)) : DV := .isl false 1 (t.map encRow)
theorem tbl_len (a : List Letter) (p : List Item) : (tbl a p).length = p.length := by simp [tbl]
theorem tbl_row {a : List Letter} {p : List Item} {i : Nat} (h : i < (tbl a p).length) : ((tbl a p)[i]).length = a.length := by simp [tbl]
theorem tbl_at {a : List Letter} {p : List Item} {i c : Nat} (h : i < (tbl a p).length) (h2 : c < ((tbl a p)[i]).length) (hi : i < p.length) (hc : c < a.length) : ((tbl a p)[i])[c] = admF a (p[i]) c := by
  simp [tbl, admF, atL_lt hc]
theorem pNext (a : List Letter) (p : List Item) (s c : Nat) (hp : p.length < 8) (hs : s < 256) (hc : c < a.length) : GCall Tryd.prog E 111 [.v (.int .u8 ((s : Nat) : Int)), .v (.int .i64 (c : Int)), .ipin [DIts p], .ipin [DTbl (tbl a p)]] [] (fun d H => d = .v (.int .u8 ((stepN p (fun x => admF a x c) s : Nat) : Int)) ∧ H = []) := by
 refine GCall.body (C := ⟨Tryd.prog, E, true⟩) Tryd.func111 rfl (fun _ => rfl) (by kernel_rfl) rfl ?_
 refine SCode.seqR (SOps.assign rfl (SOps.nil (SCode.seqR (SOps.assign rfl (SOps.nil (SCode.seq (SCode.seqR (SOps.loadPin rfl flatB_45 (SOps.lenM rfl sliceB_45_87_4 (SOps.move rfl (SOps.nil (SCode.block (SCode.loop2 (fun (i : Nat) (n : Nat) => (⟨47, [(0, .v (.int .u8 ((s : Nat) : Int))), (1, .v (.int .i64 (c : Int))), (2, .ipin [DIts p]), (3, .ipin [DTbl (tbl a p)]), (7, .v (.int .u8 ((n : Nat) : Int))), (10, DIts p), (11, .v (.int .i64 (p.length : Int))), (12, .v (.int .i64 (i : Int)))], []⟩ : St)) (fun (i : Nat) (n : Nat) => i ≤ p.length ∧ n < 256 ∧ nextF (fun x => admF a x c) s (p.drop i) i n = nextF (fun x => admF a x c) s p 0 0) (fun (i : Nat) (n : Nat) => p.length - i) (0) (0) (by exact ⟨Nat.zero_le _, by decide, rfl⟩) (St.Le.of ⟨(by first | rfl | (show some _ = some _; simp)), (by first | rfl | (show some _ = some _; simp)), (by first | rfl | (show some _ = some _; simp)), (by first | rfl | (show some _ = some _; simp)), (by first | rfl | (show some _ = some _; simp)), (by first | rfl | (show some _ = some _; simp)), (by first | rfl | (show some _ = some _; simp)), (by first | rfl | (show some _ = some _; simp)), trivial⟩ rfl (by first | rfl | (simp))) ?_)))))))))))))
 rintro i n ⟨hi, hn, hf⟩
 refine SCode.seqR (SOps.bin rfl rfl rfl (SOps.nil (SCode.seq ?_)))
 refine SCode.cond rfl (fun hc1 => ?_) (fun hc1 => ?_)
 ·try simp only [nmL] at hc1
  refine SCode.skip ?_
  show SCode _ _ _ _
  refine SCode.seq (SCode.block (SCode.seqR ?_))
  have hdr := drop_cons (show i < p.length by omega)
  refine SOps.move rfl (SOps.indexM (i) rfl rfl sliceB_45_87_4 (by first | omega | (rw [tbl_len]; omega) | (rw [tbl_row]; omega)) (by first | omega | (rw [tbl_len]; omega) | (rw [tbl_row]; omega)) (SOps.loadPinA rfl aggB_87_4 (Nat.le_of_ble_eq_true rfl) ?_))
  refine SOps.alloc (sz := 4) zeroIs_87 (fun b0 hb_0 => ?_)
  refine SOps.assign rfl (SOps.storeAM 0 rfl rfl aggB_87_4 rfl (SOps.freezeRef (t := 9) 0 0 rfl rfl rfl rfl rfl (SOps.nil (SCode.seq (SCode.seqR (SOps.move rfl (SOps.move rfl (SOps.shrN (k := i) rfl rfl (by first | omega | (rw [tbl_len]; omega) | (rw [tbl_row]; omega)) (by first | omega | (rw [tbl_len]; omega) | (rw [tbl_row]; omega)) (by first | omega | (rw [tbl_len]; omega) | (rw [tbl_row]; omega)) (SOps.andN (y := 1) rfl rfl (by first | omega | (exact Nat.lt_of_le_of_lt (by rw [Nat.shiftRight_eq_div_pow]; exact Nat.div_le_self ..) (by omega)) | exact two_lt (by omega)) (by first | omega | (exact Nat.lt_of_le_of_lt (by rw [Nat.shiftRight_eq_div_pow]; exact Nat.div_le_self ..) (by omega)) | exact two_lt (by omega)) (SOps.bin rfl rfl rfl (SOps.move rfl ?_)))))))))))
  refine SOps.caseB 22 rfl (fun hb2 => ?_) (fun hb2 => ?_)
  ·try simp only [nmL] at hb2
   refine SOps.skip rfl (SOps.skip rfl (SOps.skip rfl (SOps.skip rfl (SOps.skip rfl (SOps.skip rfl (SOps.skip rfl (SOps.skip rfl (SOps.pick rfl rfl (SOps.nil ?_)))))))))
   refine SCode.cond rfl (fun _ => ?_) (fun h => by cases h)
   refine SCode.exit ?_
   show SCode _ _ _ _
   refine SCode.region (SOps.addI rfl rfl (by first | omega | (rw [tbl_len]; omega) | (rw [tbl_row]; omega)) (by first | omega | (rw [tbl_len]; omega) | (rw [tbl_row]; omega)) (SOps.move rfl (SOps.nil ?_)))
   first
    | exact ⟨i + 1, n, ⟨by omega, hn, by rw [← hf, hdr]; simp only [nextF]; rw [if_neg (by rw [bit0i.1 hb2]; simp)]⟩, by omega, St.Le.of ⟨rfl, rfl, rfl, rfl, rfl, rfl, rfl, rfl, trivial⟩⟩
    | exact ⟨i + 1, n, ⟨by omega, hn, by rw [← hf, hdr]; simp only [nextF]; rw [if_neg (by rw [tbl_at _ _ (by omega) hc] at hc3; rw [hc3]; simp)]⟩, by omega, St.Le.of ⟨rfl, rfl, rfl, rfl, rfl, rfl, rfl, rfl, trivial⟩⟩
    | exact ⟨i + 1, n ||| 2 ^ i, ⟨by omega, or_lt hn (by omega), by rw [← hf, hdr]; simp only [nextF]; rw [if_pos (by rw [tbl_at _ _ (by omega) hc] at hc3; simp only [Bool.and_eq_true]; exact ⟨by cases h : s.testBit i with | true => rfl | false => exact absurd (bit0i.2 h) hb2, hc3⟩), if_pos hc4]⟩, by omega, St.Le.of ⟨rfl, rfl, rfl, rfl, rfl, rfl, rfl, rfl, trivial⟩⟩
    | exact ⟨i + 1, n ||| 2 ^ (i + 1), ⟨by omega, or_lt hn (by omega), by rw [← hf, hdr]; simp only [nextF]; rw [if_pos (by rw [tbl_at _ _ (by omega) hc] at hc3; simp only [Bool.and_eq_true]; exact ⟨by cases h : s.testBit i with | true => rfl | false => exact absurd (bit0i.2 h) hb2, hc3⟩), if_neg (by rw [hc4]; simp)]⟩, by omega, St.Le.of ⟨rfl, rfl, rfl, rfl, rfl, rfl, rfl, rfl, trivial⟩⟩
  ·try simp only [nmL] at hb2
   refine SOps.loadPin rfl flatB_144 (SOps.move rfl (SOps.indexM (i) rfl rfl sliceB_144_145_1 (by first | omega | (rw [tbl_len]; omega) | (rw [tbl_row]; omega)) (by first | omega | (rw [tbl_len]; omega) | (rw [tbl_row]; omega)) (SOps.loadPin rfl flatB_145 (SOps.move rfl (SOps.indexM (c) rfl rfl sliceB_145_4_1 (by first | omega | (rw [tbl_len]; omega) | (rw [tbl_row]; omega)) (by first | omega | (rw [tbl_len]; omega) | (rw [tbl_row]; omega)) (SOps.loadPin rfl flatB_4 (SOps.un rfl rfl (SOps.pick rfl rfl (SOps.nil ?_)))))))))
   refine SCode.cond rfl (fun hc3 => ?_) (fun hc3 => ?_)
   ·try simp only [nmL] at hc3
    refine SCode.exit ?_
    show SCode _ _ _ _
    refine SCode.region (SOps.addI rfl rfl (by first | omega | (rw [tbl_len]; omega) | (rw [tbl_row]; omega)) (by first | omega | (rw [tbl_len]; omega) | (rw [tbl_row]; omega)) (SOps.move rfl (SOps.nil ?_)))
    first
     | exact ⟨i + 1, n, ⟨by omega, hn, by rw [← hf, hdr]; simp only [nextF]; rw [if_neg (by rw [bit0i.1 hb2]; simp)]⟩, by omega, St.Le.of ⟨rfl, rfl, rfl, rfl, rfl, rfl, rfl, rfl, trivial⟩⟩
     | exact ⟨i + 1, n, ⟨by omega, hn, by rw [← hf, hdr]; simp only [nextF]; rw [if_neg (by rw [tbl_at _ _ (by omega) hc] at hc3; rw [hc3]; simp)]⟩, by omega, St.Le.of ⟨rfl, rfl, rfl, rfl, rfl, rfl, rfl, rfl, trivial⟩⟩
     | exact ⟨i + 1, n ||| 2 ^ i, ⟨by omega, or_lt hn (by omega), by rw [← hf, hdr]; simp only [nextF]; rw [if_pos (by rw [tbl_at _ _ (by omega) hc] at hc3; simp only [Bool.and_eq_true]; exact ⟨by cases h : s.testBit i with | true => rfl | false => exact absurd (bit0i.2 h) hb2, hc3⟩), if_pos hc4]⟩, by omega, St.Le.of ⟨rfl, rfl, rfl, rfl, rfl, rfl, rfl, rfl, trivial⟩⟩
     | exact ⟨i + 1, n ||| 2 ^ (i + 1), ⟨by omega, or_lt hn (by omega), by rw [← hf, hdr]; simp only [nextF]; rw [if_pos (by rw [tbl_at _ _ (by omega) hc] at hc3; simp only [Bool.and_eq_true]; exact ⟨by cases h : s.testBit i with | true => rfl | false => exact absurd (bit0i.2 h) hb2, hc3⟩), if_neg (by rw [hc4]; simp)]⟩, by omega, St.Le.of ⟨rfl, rfl, rfl, rfl, rfl, rfl, rfl, rfl, trivial⟩⟩
   ·try simp only [nmL] at hc3
    refine SCode.skip ?_
    show SCode _ _ _ _
    refine SCode.seqR (SOps.fieldPin rfl fieldB_87_3_3 (SOps.loadPin rfl flatB_4 (SOps.nil ?_)))
    refine SCode.cond rfl (fun hc4 => ?_) (fun hc4 => ?_)
    ·try simp only [nmL] at hc4
     refine SCode.region (SOps.move rfl (SOps.move rfl (SOps.shlN (k := i) rfl rfl (by first | omega | (rw [tbl_len]; omega) | (rw [tbl_row]; omega)) (by first | omega | (rw [tbl_len]; omega) | (rw [tbl_row]; omega)) (SOps.orN rfl rfl (by first | omega | (exact Nat.lt_of_le_of_lt (by rw [Nat.shiftRight_eq_div_pow]; exact Nat.div_le_self ..) (by omega)) | exact two_lt (by omega)) (by first | omega | (exact Nat.lt_of_le_of_lt (by rw [Nat.shiftRight_eq_div_pow]; exact Nat.div_le_self ..) (by omega)) | exact two_lt (by omega)) (SOps.assign rfl (SOps.nil ?_))))))
     show SCode _ _ _ _
     refine SCode.region (SOps.addI rfl rfl (by first | omega | (rw [tbl_len]; omega) | (rw [tbl_row]; omega)) (by first | omega | (rw [tbl_len]; omega) | (rw [tbl_row]; omega)) (SOps.move rfl (SOps.nil ?_)))
     first
      | exact ⟨i + 1, n, ⟨by omega, hn, by rw [← hf, hdr]; simp only [nextF]; rw [if_neg (by rw [bit0i.1 hb2]; simp)]⟩, by omega, St.Le.of ⟨rfl, rfl, rfl, rfl, rfl, rfl, rfl, rfl, trivial⟩⟩
      | exact ⟨i + 1, n, ⟨by omega, hn, by rw [← hf, hdr]; simp only [nextF]; rw [if_neg (by rw [tbl_at _ _ (by omega) hc] at hc3; rw [hc3]; simp)]⟩, by omega, St.Le.of ⟨rfl, rfl, rfl, rfl, rfl, rfl, rfl, rfl, trivial⟩⟩
      | exact ⟨i + 1, n ||| 2 ^ i, ⟨by omega, or_lt hn (by omega), by rw [← hf, hdr]; simp only [nextF]; rw [if_pos (by rw [tbl_at _ _ (by omega) hc] at hc3; simp only [Bool.and_eq_true]; exact ⟨by cases h : s.testBit i with | true => rfl | false => exact absurd (bit0i.2 h) hb2, hc3⟩), if_pos hc4]⟩, by omega, St.Le.of ⟨rfl, rfl, rfl, rfl, rfl, rfl, rfl, rfl, trivial⟩⟩
      | exact ⟨i + 1, n ||| 2 ^ (i + 1), ⟨by omega, or_lt hn (by omega), by rw [← hf, hdr]; simp only [nextF]; rw [if_pos (by rw [tbl_at _ _ (by omega) hc] at hc3; simp only [Bool.and_eq_true]; exact ⟨by cases h : s.testBit i with | true => rfl | false => exact absurd (bit0i.2 h) hb2, hc3⟩), if_neg (by rw [hc4]; simp)]⟩, by omega, St.Le.of ⟨rfl, rfl, rfl, rfl, rfl, rfl, rfl, rfl, trivial⟩⟩
    ·try simp only [nmL] at hc4
     refine SCode.region (SOps.move rfl (SOps.move rfl (SOps.addI rfl rfl (by first | omega | (rw [tbl_len]; omega) | (rw [tbl_row]; omega)) (by first | omega | (rw [tbl_len]; omega) | (rw [tbl_row]; omega)) (SOps.shlN (k := (i + 1)) rfl rfl (by first | omega | (rw [tbl_len]; omega) | (rw [tbl_row]; omega)) (by first | omega | (rw [tbl_len]; omega) | (rw [tbl_row]; omega)) (SOps.orN rfl rfl (by first | omega | (exact Nat.lt_of_le_of_lt (by rw [Nat.shiftRight_eq_div_pow]; exact Nat.div_le_self ..) (by omega)) | exact two_lt (by omega)) (by first | omega | (exact Nat.lt_of_le_of_lt (by rw [Nat.shiftRight_eq_div_pow]; exact Nat.div_le_self ..) (by omega)) | exact two_lt (by omega)) (SOps.assign rfl (SOps.nil ?_)))))))
     show SCode _ _ _ _
     refine SCode.region (SOps.addI rfl rfl (by first | omega | (rw [tbl_len]; omega) | (rw [tbl_row]; omega)) (by first | omega | (rw [tbl_len]; omega) | (rw [tbl_row]; omega)) (SOps.move rfl (SOps.nil ?_)))
     first
      | exact ⟨i + 1, n, ⟨by omega, hn, by rw [← hf, hdr]; simp only [nextF]; rw [if_neg (by rw [bit0i.1 hb2]; simp)]⟩, by omega, St.Le.of ⟨rfl, rfl, rfl, rfl, rfl, rfl, rfl, rfl, trivial⟩⟩
      | exact ⟨i + 1, n, ⟨by omega, hn, by rw [← hf, hdr]; simp only [nextF]; rw [if_neg (by rw [tbl_at _ _ (by omega) hc] at hc3; rw [hc3]; simp)]⟩, by omega, St.Le.of ⟨rfl, rfl, rfl, rfl, rfl, rfl, rfl, rfl, trivial⟩⟩
      | exact ⟨i + 1, n ||| 2 ^ i, ⟨by omega, or_lt hn (by omega), by rw [← hf, hdr]; simp only [nextF]; rw [if_pos (by rw [tbl_at _ _ (by omega) hc] at hc3; simp only [Bool.and_eq_true]; exact ⟨by cases h : s.testBit i with | true => rfl | false => exact absurd (bit0i.2 h) hb2, hc3⟩), if_pos hc4]⟩, by omega, St.Le.of ⟨rfl, rfl, rfl, rfl, rfl, rfl, rfl, rfl, trivial⟩⟩
      | exact ⟨i + 1, n ||| 2 ^ (i + 1), ⟨by omega, or_lt hn (by omega), by rw [← hf, hdr]; simp only [nextF]; rw [if_pos (by rw [tbl_at _ _ (by omega) hc] at hc3; simp only [Bool.and_eq_true]; exact ⟨by cases h : s.testBit i with | true => rfl | false => exact absurd (bit0i.2 h) hb2, hc3⟩), if_neg (by rw [hc4]; simp)]⟩, by omega, St.Le.of ⟨rfl, rfl, rfl, rfl, rfl, rfl, rfl, rfl, trivial⟩⟩
 ·try simp only [nmL] at hc1
  refine SCode.exit ?_
  show SCode _ _ _ _
  refine SCode.seqR (SOps.loadPin rfl flatB_45 (SOps.move rfl (SOps.callP (pClosed _ _ (by omega) (by omega)) rfl ?_)))
  rintro _ rfl
  refine SOps.assign rfl (SOps.nil (SCode.ret ?_))
  exact ⟨_, Res.one (.tmp rfl), congrArg (fun n : Nat => DV.v (.int .u8 (n : Int))) (by rw [stepN, ← hf, List.drop_eq_nil_of_le (by omega)]; rfl), rfl⟩
def dv1 (d : DV) : List DV := [d]
def rowsI (T : List (List Bool)) (i : Nat) : List DV := (T.take i).map (fun r => DBools r) ++ List.replicate (T.length - i) (.v (.slice none 0 0))
theorem rowsI_zero (T : List (List Bool)) : rowsI T 0 = List.replicate T.length (.v (.slice none 0 0)) := by simp [rowsI]
theorem rowsI_len {T : List (List Bool)} {i : Nat} (h : i ≤ T.length) : (rowsI T i).length = T.length := by simp [rowsI]; omega
theorem rowsI_set {T : List (List Bool)} {i : Nat} (h : i < T.length) : (rowsI T i).set i (DBools (T[i])) = rowsI T (i + 1) := by
  unfold rowsI
  have e : T.length - i = (T.length - (i + 1)) + 1 := by omega
  rw [List.set_append_right _ _ (by simp; omega), e, List.replicate_succ]
  have e2 : i - ((T.take i).map (fun r => DBools r)).length = 0 := by simp; omega
  rw [e2, List.set_cons_zero, List.take_add_one, List.getElem?_eq_getElem h, List.map_append, List.append_assoc]
  rfl
theorem rowsI_full (T : List (List Bool)) : (rowsI T T.length).map dv1 = T.map encRow := by
  simp [rowsI, dv1, encRow, Function.comp_def]
def rowJ (l : List Bool) (j : Nat) : List Bool := l.take j ++ List.replicate (l.length - j) false
theorem rowJ_zero (l : List Bool) : rowJ l 0 = List.replicate l.length false := by simp [rowJ]
theorem rowJ_len {l : List Bool} {j : Nat} (h : j ≤ l.length) : (rowJ l j).length = l.length := by simp [rowJ]; omega
theorem rowJ_set {l : List Bool} {j : Nat} (h : j < l.length) : (rowJ l j).set j (l[j]) = rowJ l (j + 1) := by
  unfold rowJ
  have e : l.length - j = (l.length - (j + 1)) + 1 := by omega
  rw [List.set_append_right _ _ (by simp; omega), e, List.replicate_succ]
  have e2 : j - (l.take j).length = 0 := by simp; omega
  rw [e2, List.set_cons_zero, List.take_add_one, List.getElem?_eq_getElem h, List.append_assoc]
  rfl
theorem rowJ_full (l : List Bool) : rowJ l l.length = l := by simp [rowJ]
theorem pMachine (a : List Letter) (p : List Item) (hp : p.length < 8) (ha : a.length ≤ 1048576) : GCall Tryd.prog E 108 [DLs a, DIts p] [] (fun d H => d = .fn 111 [.ipin [DIts p], .ipin [DTbl (tbl a p)]] ∧ H = []) := by
 refine GCall.body (C := ⟨Tryd.prog, E, true⟩) Tryd.func108 rfl (fun _ => rfl) (by kernel_rfl) rfl ?_
 refine SCode.seqR (SOps.boxF rfl rfl rfl (SOps.assign rfl (SOps.nil (SCode.seqR (SOps.loadPin rfl flatB_45 (SOps.lenM rfl sliceB_45_87_4 ?_))))))
 refine SOps.makeK (f := dv1) (p.length) (.v (.slice none 0 0)) sliceB_144_145_1 elemB_145_1_24 zeroIs_145 rfl rfl (by first | omega | (rw [rowsI_len (by rw [tbl_len]; omega), tbl_len]; omega) | (rw [List.length_set, rowsI_len (by rw [tbl_len]; omega), tbl_len]; omega) | (rw [rowJ_len (by simp; omega)]; simp; omega) | (simp; omega)) (by first | omega | (rw [rowsI_len (by rw [tbl_len]; omega), tbl_len]; omega) | (rw [List.length_set, rowsI_len (by rw [tbl_len]; omega), tbl_len]; omega) | (rw [rowJ_len (by simp; omega)]; simp; omega) | (simp; omega)) rfl (by first | omega | (rw [rowsI_len (by rw [tbl_len]; omega), tbl_len]; omega) | (rw [List.length_set, rowsI_len (by rw [tbl_len]; omega), tbl_len]; omega) | (rw [rowJ_len (by simp; omega)]; simp; omega) | (simp; omega)) (by simp only [lenB]; omega) (fun b0 hb_0 => ?_)
 refine SOps.alloc (sz := 1) zeroIs_144 (fun b1 hb_1 => ?_)
 refine SOps.storeM 0 rfl rfl oneB_144 rfl (SOps.nil (SCode.seq (SCode.seqR (SOps.loadPin rfl flatB_45 (SOps.lenM rfl sliceB_45_87_4 (SOps.move rfl (SOps.nil (SCode.block (SCode.loop1 (fun (i : Nat) => (⟨45, [(0, DLs a), (3, .ipin [DIts p]), (5, .ref b1 0), (13, DIts p), (14, .v (.int .i64 (p.length : Int))), (15, .v (.int .i64 (i : Int)))], [(b1, .row 144 1 [[.sl b0 1 0 p.length]]), (b0, .row 145 1 ((rowsI (tbl a p) i).map dv1))]⟩ : St)) (fun (i : Nat) => i ≤ p.length) (fun (i : Nat) => p.length - i) (0) (by exact Nat.zero_le _) (St.Le.of ⟨rfl, rfl, rfl, rfl, rfl, rfl, trivial⟩ rfl (by rw [rowsI_zero, tbl_len]; rfl)) ?_)))))))))
 rintro i hi
 refine SCode.seqR (SOps.bin rfl rfl rfl (SOps.nil (SCode.seq ?_)))
 refine SCode.cond rfl (fun hc1 => ?_) (fun hc1 => ?_)
 ·try simp only [nmL] at hc1
  refine SCode.skip ?_
  show SCode _ _ _ _
  refine SCode.seq (SCode.block (SCode.seqR (SOps.move rfl (SOps.indexM (i) rfl rfl sliceB_45_87_4 (by first | omega | (rw [rowsI_len (by rw [tbl_len]; omega), tbl_len]; omega) | (rw [List.length_set, rowsI_len (by rw [tbl_len]; omega), tbl_len]; omega) | (rw [rowJ_len (by simp; omega)]; simp; omega) | (simp; omega)) (by first | omega | (rw [rowsI_len (by rw [tbl_len]; omega), tbl_len]; omega) | (rw [List.length_set, rowsI_len (by rw [tbl_len]; omega), tbl_len]; omega) | (rw [rowJ_len (by simp; omega)]; simp; omega) | (simp; omega)) (SOps.loadPinA rfl aggB_87_4 (Nat.le_of_ble_eq_true rfl) ?_)))))
  refine SOps.alloc (sz := 4) zeroIs_87 (fun b2 hb_2 => ?_)
  refine SOps.assign rfl (SOps.storeAM 0 rfl rfl aggB_87_4 rfl (SOps.freezeRef (t := 7) 0 0 rfl rfl rfl rfl rfl (SOps.nil (SCode.seq ?_))))
  have hi3 : i < p.length := by omega
  refine SCode.weaken (st' := (⟨45, [(0, DLs a), (3, .ipin [DIts p]), (5, .ref b1 0), (6, .v (.int .i64 (i : Int))), (7, .ipin (encIt (p[i]))), (13, DIts p), (14, .v (.int .i64 (p.length : Int))), (15, .v (.int .i64 (i : Int)))], [(b1, .row 144 1 [[.sl b0 1 0 p.length]]), (b0, .row 145 1 ((rowsI (tbl a p) i).map dv1))]⟩ : St)) (St.Le.of ⟨rfl, rfl, rfl, rfl, rfl, rfl, rfl, rfl, trivial⟩) ?_
  refine SCode.drawMix 8 [4, 5, 6] mixed_ [fun b => some (20, .sl b0 1 0 p.length), fun b => some (21, .v (.int .i64 (i : Int))), fun b => some (22, DLs a), fun b => some (23, .v (.int .i64 (a.length : Int))), fun b => some (24, .sl b 1 0 a.length), fun b => some (25, .ref b0 ((0 + i) * 1)), fun b => none] [some 20, some 21, some 22, some 23, some 24, some 25, none] [[.inr 5], [.inr 6], [.inr 0], [.inl 2], [.inl 3], [.inl 0, .inl 1], [.inl 5, .inl 4]] [fun b => [(5, .ref b1 0)], fun b => [(6, .v (.int .i64 (i : Int)))], fun b => [(0, DLs a)], fun b => [(22, DLs a)], fun b => [(23, .v (.int .i64 (a.length : Int)))], fun b => [(20, .sl b0 1 0 p.length), (21, .v (.int .i64 (i : Int)))], fun b => [(25, .ref b0 ((0 + i) * 1)), (24, .sl b 1 0 a.length)]] (fun b c => match c with | 0 => [(b1, .row 144 1 [[.sl b0 1 0 p.length]]), (b0, .row 145 1 ((rowsI (tbl a p) i).map dv1))] | 1 => [(b, .row 4 1 ((List.replicate a.length false).map encB)), (b1, .row 144 1 [[.sl b0 1 0 p.length]]), (b0, .row 145 1 ((rowsI (tbl a p) i).map dv1))] | 2 => [(b, .row 4 1 ((List.replicate a.length false).map encB)), (b1, .row 144 1 [[.sl b0 1 0 p.length]]), (b0, .row 145 1 ((rowsI (tbl a p) i).map dv1))] | _ => [(b, .row 4 1 ((List.replicate a.length false).map encB)), (b1, .row 144 1 [[.sl b0 1 0 p.length]]), (b0, .row 145 1 (((rowsI (tbl a p) i).set i (.sl b 1 0 a.length)).map dv1))]) [(false, false, [0, 1]), (false, false, [0, 1]), (false, false, [0]), (false, false, [0]), (true, true, [0]), (true, false, [1]), (true, false, [2])] (by kernel_rfl) (fun _ => rfl) rfl (fun _ => rfl) (fun _ => rfl) (cohOne 4 rfl (fun j r hj => by match j, hj with | 0, hj => exact .inl (by simp at hj; subst hj; intros; rfl) | 1, hj => exact .inl (by simp at hj; subst hj; intros; rfl) | 2, hj => exact .inl (by simp at hj; subst hj; intros; rfl) | 3, hj => exact .inl (by simp at hj; subst hj; intros; rfl) | 4, hj => exact .inr (.inl rfl) | 5, hj => exact .inl (by simp at hj; subst hj; intros; rfl) | 6, hj => exact .inl (by simp at hj; subst hj; intros; rfl) | q + 7, hj => simp at hj)) ?_ ?_
  ·refine MixOk.cons ?_ ?_
   ·refine StgOk.cons (fun b rest => ?_) ?_
    ·refine SOps.loadRef 0 0 0 rfl flatB_144 rfl rfl rfl rfl ?_
     exact SOps.nil ⟨b, fun _ => rfl, by first | rfl | simp_all⟩
    refine StgOk.cons (fun b rest => ?_) ?_
    ·refine SOps.loadRef 1 0 0 rfl flatB_144 rfl rfl rfl rfl ?_
     exact SOps.nil ⟨b, fun _ => rfl, by first | rfl | simp_all⟩
    exact StgOk.nil
   refine MixOk.cons ?_ ?_
   ·refine StgOk.cons (fun b rest => ?_) ?_
    ·refine SOps.move rfl ?_
     exact SOps.nil ⟨b, fun _ => rfl, by first | rfl | simp_all⟩
    refine StgOk.cons (fun b rest => ?_) ?_
    ·refine SOps.move rfl ?_
     exact SOps.nil ⟨b, fun _ => rfl, by first | rfl | simp_all⟩
    exact StgOk.nil
   refine MixOk.cons ?_ ?_
   ·refine StgOk.cons (fun b rest => ?_) ?_
    ·refine SOps.move rfl ?_
     exact SOps.nil ⟨b, fun _ => rfl, by first | rfl | simp_all⟩
    exact StgOk.nil
   refine MixOk.cons ?_ ?_
   ·refine StgOk.cons (fun b rest => ?_) ?_
    ·refine SOps.lenM rfl sliceB_22_28_2 ?_
     exact SOps.nil ⟨b, fun _ => rfl, by first | rfl | simp_all⟩
    exact StgOk.nil
   refine MixOk.cons ?_ ?_
   ·refine StgOk.cons (fun b rest => ?_) ?_
    ·refine SOps.makeK (f := encB) (a.length) (false) sliceB_145_4_1 elemB_4_1_1 zeroIs_4 rfl rfl (by first | omega | (rw [rowsI_len (by rw [tbl_len]; omega), tbl_len]; omega) | (rw [List.length_set, rowsI_len (by rw [tbl_len]; omega), tbl_len]; omega) | (rw [rowJ_len (by simp; omega)]; simp; omega) | (simp; omega)) (by first | omega | (rw [rowsI_len (by rw [tbl_len]; omega), tbl_len]; omega) | (rw [List.length_set, rowsI_len (by rw [tbl_len]; omega), tbl_len]; omega) | (rw [rowJ_len (by simp; omega)]; simp; omega) | (simp; omega)) rfl (by first | omega | (rw [rowsI_len (by rw [tbl_len]; omega), tbl_len]; omega) | (rw [List.length_set, rowsI_len (by rw [tbl_len]; omega), tbl_len]; omega) | (rw [rowJ_len (by simp; omega)]; simp; omega) | (simp; omega)) (by simp only [lenB]; omega) (fun b3 hb_3 => ?_)
     exact SOps.nil ⟨b3, (fun h => by cases h), rfl⟩
    exact StgOk.nil
   refine MixOk.cons ?_ ?_
   ·refine StgOk.cons (fun b rest => ?_) ?_
    ·refine SOps.indexS (i) rfl rfl sliceB_144_145_1 (by first | omega | (rw [rowsI_len (by rw [tbl_len]; omega), tbl_len]; omega) | (rw [List.length_set, rowsI_len (by rw [tbl_len]; omega), tbl_len]; omega) | (rw [rowJ_len (by simp; omega)]; simp; omega) | (simp; omega)) (by first | omega | (rw [rowsI_len (by rw [tbl_len]; omega), tbl_len]; omega) | (rw [List.length_set, rowsI_len (by rw [tbl_len]; omega), tbl_len]; omega) | (rw [rowJ_len (by simp; omega)]; simp; omega) | (simp; omega)) ?_
     exact SOps.nil ⟨b, fun _ => rfl, by first | rfl | simp_all⟩
    exact StgOk.nil
   refine MixOk.cons ?_ ?_
   ·refine StgOk.cons (fun b rest => ?_) ?_
    ·refine SOps.storeK 2 (i) rfl rfl oneB_145 rfl (by first | omega | (rw [rowsI_len (by rw [tbl_len]; omega), tbl_len]; omega) | (rw [List.length_set, rowsI_len (by rw [tbl_len]; omega), tbl_len]; omega) | (rw [rowJ_len (by simp; omega)]; simp; omega) | (simp; omega)) (by first | omega | (rw [rowsI_len (by rw [tbl_len]; omega), tbl_len]; omega) | (rw [List.length_set, rowsI_len (by rw [tbl_len]; omega), tbl_len]; omega) | (rw [rowJ_len (by simp; omega)]; simp; omega) | (simp; omega)) rfl (fun _ => rfl) ?_
     exact SOps.nil ⟨b, fun _ => rfl, by first | rfl | simp_all⟩
    exact StgOk.nil
   exact MixOk.nil
  ·intro bM
   show SCode _ _ _ _
   refine SCode.seqR (SOps.move rfl (SOps.lenM rfl sliceB_22_28_2 (SOps.move rfl (SOps.nil (SCode.block (SCode.loop1 (fun (j : Nat) => (⟨45, [(0, DLs a), (3, .ipin [DIts p]), (5, .ref b1 0), (6, .v (.int .i64 (i : Int))), (7, .ipin (encIt (p[i]))), (13, DIts p), (14, .v (.int .i64 (p.length : Int))), (15, .v (.int .i64 (i : Int))), (26, DLs a), (27, .v (.int .i64 (a.length : Int))), (28, .v (.int .i64 (j : Int)))], [(bM, .row 4 1 ((rowJ (a.map (admB (p[i]))) j).map encB)), (b1, .row 144 1 [[.sl b0 1 0 p.length]]), (b0, .row 145 1 (((rowsI (tbl a p) i).set i (.sl bM 1 0 a.length)).map dv1))]⟩ : St)) (fun (j : Nat) => j ≤ a.length) (fun (j : Nat) => a.length - j) (0) (by exact Nat.zero_le _) (St.Le.of ⟨rfl, rfl, rfl, rfl, rfl, rfl, rfl, rfl, rfl, rfl, rfl, trivial⟩ rfl (by rw [rowJ_zero, List.length_map]; rfl)) ?_))))))
   rintro j hj
   refine SCode.seqR (SOps.bin rfl rfl rfl (SOps.nil (SCode.seq ?_)))
   refine SCode.cond rfl (fun hc2 => ?_) (fun hc2 => ?_)
   ·try simp only [nmL] at hc2
    refine SCode.skip ?_
    show SCode _ _ _ _
    refine SCode.seq (SCode.block (SCode.seqR (SOps.move rfl (SOps.indexM (j) rfl rfl sliceB_22_28_2 (by first | omega | (rw [rowsI_len (by rw [tbl_len]; omega), tbl_len]; omega) | (rw [List.length_set, rowsI_len (by rw [tbl_len]; omega), tbl_len]; omega) | (rw [rowJ_len (by simp; omega)]; simp; omega) | (simp; omega)) (by first | omega | (rw [rowsI_len (by rw [tbl_len]; omega), tbl_len]; omega) | (rw [List.length_set, rowsI_len (by rw [tbl_len]; omega), tbl_len]; omega) | (rw [rowJ_len (by simp; omega)]; simp; omega) | (simp; omega)) (SOps.loadPinA rfl aggB_28_2 (Nat.le_of_ble_eq_true rfl) ?_)))))
    refine SOps.alloc (sz := 2) zeroIs_28 (fun b4 hb_4 => ?_)
    refine SOps.assign rfl (SOps.storeAM 0 rfl rfl aggB_28_2 rfl (SOps.freezeRef (t := 9) 0 0 rfl rfl rfl rfl rfl (SOps.nil ?_)))
    have hj3 : j < a.length := by omega
    refine SCode.weaken (st' := (⟨45, [(0, DLs a), (3, .ipin [DIts p]), (5, .ref b1 0), (6, .v (.int .i64 (i : Int))), (7, .ipin (encIt (p[i]))), (8, .v (.int .i64 (j : Int))), (9, .ipin (encL (a[j]))), (13, DIts p), (14, .v (.int .i64 (p.length : Int))), (15, .v (.int .i64 (i : Int))), (26, DLs a), (27, .v (.int .i64 (a.length : Int))), (28, .v (.int .i64 (j : Int)))], [(bM, .row 4 1 ((rowJ (a.map (admB (p[i]))) j).map encB)), (b1, .row 144 1 [[.sl b0 1 0 p.length]]), (b0, .row 145 1 (((rowsI (tbl a p) i).set i (.sl bM 1 0 a.length)).map dv1))]⟩ : St)) (St.Le.of ⟨rfl, rfl, rfl, rfl, rfl, rfl, rfl, rfl, rfl, rfl, rfl, rfl, rfl, trivial⟩) ?_
    refine SCode.drawMix 11 [8, 9] mixed_ [fun b => some (33, .sl b0 1 0 p.length), fun b => some (34, .v (.int .i64 (i : Int))), fun b => some (35, .ref b0 ((0 + i) * 1)), fun b => some (36, .sl bM 1 0 a.length), fun b => some (37, .v (.int .i64 (j : Int))), fun b => some (38, .agg (encIt (p[i]))), fun b => some (39, .agg (encL (a[j]))), fun b => some (40, .v (.bool (admB (p[i]) (a[j])))), fun b => some (41, .ref bM ((0 + j) * 1)), fun b => none] [some 33, some 34, some 35, some 36, some 37, some 38, some 39, some 40, some 41, none] [[.inr 5], [.inr 6], [.inl 0, .inl 1], [.inl 2], [.inr 8], [.inr 7], [.inr 9], [.inl 5, .inl 6], [.inl 3, .inl 4], [.inl 8, .inl 7]] [fun b => [(5, .ref b1 0)], fun b => [(6, .v (.int .i64 (i : Int)))], fun b => [(33, .sl b0 1 0 p.length), (34, .v (.int .i64 (i : Int)))], fun b => [(35, .ref b0 ((0 + i) * 1))], fun b => [(8, .v (.int .i64 (j : Int)))], fun b => [(7, .ipin (encIt (p[i])))], fun b => [(9, .ipin (encL (a[j])))], fun b => [(38, .agg (encIt (p[i]))), (39, .agg (encL (a[j])))], fun b => [(36, .sl bM 1 0 a.length), (37, .v (.int .i64 (j : Int)))], fun b => [(41, .ref bM ((0 + j) * 1)), (40, .v (.bool (admB (p[i]) (a[j]))))]] (fun b c => match c with | 0 => [(bM, .row 4 1 ((rowJ (a.map (admB (p[i]))) j).map encB)), (b1, .row 144 1 [[.sl b0 1 0 p.length]]), (b0, .row 145 1 (((rowsI (tbl a p) i).set i (.sl bM 1 0 a.length)).map dv1))] | 1 => [(bM, .row 4 1 ((rowJ (a.map (admB (p[i]))) j).map encB)), (b1, .row 144 1 [[.sl b0 1 0 p.length]]), (b0, .row 145 1 (((rowsI (tbl a p) i).set i (.sl bM 1 0 a.length)).map dv1))] | _ => [(bM, .row 4 1 (((rowJ (a.map (admB (p[i]))) j).set j (admB (p[i]) (a[j]))).map encB)), (b1, .row 144 1 [[.sl b0 1 0 p.length]]), (b0, .row 145 1 (((rowsI (tbl a p) i).set i (.sl bM 1 0 a.length)).map dv1))]) [(false, false, [0]), (false, false, [0]), (false, false, [0]), (false, false, [0]), (false, false, [0]), (false, false, [0]), (false, false, [0]), (false, false, [0]), (true, false, [0]), (true, false, [1])] (by kernel_rfl) (fun _ => rfl) rfl (fun _ => rfl) (fun _ => rfl) (cohNone rfl) ?_ ?_
    ·refine MixOk.cons ?_ ?_
     ·refine StgOk.cons (fun b rest => ?_) ?_
      ·refine SOps.loadRef 1 0 0 rfl flatB_144 rfl rfl rfl rfl ?_
       exact SOps.nil ⟨b, fun _ => rfl, by first | rfl | simp_all⟩
      exact StgOk.nil
     refine MixOk.cons ?_ ?_
     ·refine StgOk.cons (fun b rest => ?_) ?_
      ·refine SOps.move rfl ?_
       exact SOps.nil ⟨b, fun _ => rfl, by first | rfl | simp_all⟩
      exact StgOk.nil
     refine MixOk.cons ?_ ?_
     ·refine StgOk.cons (fun b rest => ?_) ?_
      ·refine SOps.indexS (i) rfl rfl sliceB_144_145_1 (by first | omega | (rw [rowsI_len (by rw [tbl_len]; omega), tbl_len]; omega) | (rw [List.length_set, rowsI_len (by rw [tbl_len]; omega), tbl_len]; omega) | (rw [rowJ_len (by simp; omega)]; simp; omega) | (simp; omega)) (by first | omega | (rw [rowsI_len (by rw [tbl_len]; omega), tbl_len]; omega) | (rw [List.length_set, rowsI_len (by rw [tbl_len]; omega), tbl_len]; omega) | (rw [rowJ_len (by simp; omega)]; simp; omega) | (simp; omega)) ?_
       exact SOps.nil ⟨b, fun _ => rfl, by first | rfl | simp_all⟩
      exact StgOk.nil
     refine MixOk.cons ?_ ?_
     ·refine StgOk.cons (fun b rest => ?_) ?_
      ·refine SOps.loadK (d := .sl bM 1 0 a.length) 2 (i) rfl flatB_145 rfl (by omega) (by first | omega | (rw [rowsI_len (by rw [tbl_len]; omega), tbl_len]; omega) | (rw [List.length_set, rowsI_len (by rw [tbl_len]; omega), tbl_len]; omega) | (rw [rowJ_len (by simp; omega)]; simp; omega) | (simp; omega)) (by simp [dv1]) ?_
       exact SOps.nil ⟨b, fun _ => rfl, by first | rfl | simp_all⟩
      exact StgOk.nil
     refine MixOk.cons ?_ ?_
     ·refine StgOk.cons (fun b rest => ?_) ?_
      ·refine SOps.move rfl ?_
       exact SOps.nil ⟨b, fun _ => rfl, by first | rfl | simp_all⟩
      exact StgOk.nil
     refine MixOk.cons ?_ ?_
     ·refine StgOk.cons (fun b rest => ?_) ?_
      ·refine SOps.loadPinA rfl aggB_87_4 (Nat.le_of_ble_eq_true rfl) ?_
       exact SOps.nil ⟨b, fun _ => rfl, by first | rfl | simp_all⟩
      exact StgOk.nil
     refine MixOk.cons ?_ ?_
     ·refine StgOk.cons (fun b rest => ?_) ?_
      ·refine SOps.loadPinA rfl aggB_28_2 (Nat.le_of_ble_eq_true rfl) ?_
       exact SOps.nil ⟨b, fun _ => rfl, by first | rfl | simp_all⟩
      exact StgOk.nil
     refine MixOk.cons ?_ ?_
     ·refine StgOk.cons (fun b rest => ?_) ?_
      ·refine SOps.callP (pAdmits _ _) rfl ?_
       rintro _ rfl
       exact SOps.nil ⟨b, fun _ => rfl, by first | rfl | simp_all⟩
      exact StgOk.nil
     refine MixOk.cons ?_ ?_
     ·refine StgOk.cons (fun b rest => ?_) ?_
      ·refine SOps.indexS (j) rfl rfl sliceB_145_4_1 (by first | omega | (rw [rowsI_len (by rw [tbl_len]; omega), tbl_len]; omega) | (rw [List.length_set, rowsI_len (by rw [tbl_len]; omega), tbl_len]; omega) | (rw [rowJ_len (by simp; omega)]; simp; omega) | (simp; omega)) (by first | omega | (rw [rowsI_len (by rw [tbl_len]; omega), tbl_len]; omega) | (rw [List.length_set, rowsI_len (by rw [tbl_len]; omega), tbl_len]; omega) | (rw [rowJ_len (by simp; omega)]; simp; omega) | (simp; omega)) ?_
       exact SOps.nil ⟨b, fun _ => rfl, by first | rfl | simp_all⟩
      exact StgOk.nil
     refine MixOk.cons ?_ ?_
     ·refine StgOk.cons (fun b rest => ?_) ?_
      ·refine SOps.storeK 0 (j) rfl rfl oneB_4 rfl (by first | omega | (rw [rowsI_len (by rw [tbl_len]; omega), tbl_len]; omega) | (rw [List.length_set, rowsI_len (by rw [tbl_len]; omega), tbl_len]; omega) | (rw [rowJ_len (by simp; omega)]; simp; omega) | (simp; omega)) (by first | omega | (rw [rowsI_len (by rw [tbl_len]; omega), tbl_len]; omega) | (rw [List.length_set, rowsI_len (by rw [tbl_len]; omega), tbl_len]; omega) | (rw [rowJ_len (by simp; omega)]; simp; omega) | (simp; omega)) rfl (fun _ => rfl) ?_
       exact SOps.nil ⟨b, fun _ => rfl, by first | rfl | simp_all⟩
      exact StgOk.nil
     exact MixOk.nil
    ·intro bN
     show SCode _ _ _ _
     refine SCode.region (SOps.addI rfl rfl (by first | omega | (rw [rowsI_len (by rw [tbl_len]; omega), tbl_len]; omega) | (rw [List.length_set, rowsI_len (by rw [tbl_len]; omega), tbl_len]; omega) | (rw [rowJ_len (by simp; omega)]; simp; omega) | (simp; omega)) (by first | omega | (rw [rowsI_len (by rw [tbl_len]; omega), tbl_len]; omega) | (rw [List.length_set, rowsI_len (by rw [tbl_len]; omega), tbl_len]; omega) | (rw [rowJ_len (by simp; omega)]; simp; omega) | (simp; omega)) (SOps.move rfl (SOps.nil ?_)))
     exact ⟨j + 1, by omega, by omega, St.Le.of ⟨rfl, rfl, rfl, rfl, rfl, rfl, rfl, rfl, rfl, rfl, rfl, trivial⟩ rfl (by rw [← rowJ_set (show j < (a.map (admB (p[i]))).length by simp; omega)]; simp only [List.getElem_map]; rfl)⟩
   ·try simp only [nmL] at hc2
    refine SCode.exit ?_
    show SCode _ _ _ _
    refine SCode.region ?_
    have hil : i < (tbl a p).length := by rw [tbl_len]; omega
    obtain rfl : j = a.length := by omega
    have hrow : rowJ (a.map (admB (p[i]))) a.length = (tbl a p)[i] := by rw [show a.length = (a.map (admB (p[i]))).length by simp, rowJ_full]; simp [tbl]
    have hset2 : ((((rowsI (tbl a p) i).set i (.sl bM 1 0 a.length)).map dv1).set i (([.sl bM 1 0 a.length] : List DV).set 0 (.isl false 1 ((rowJ (a.map (admB (p[i]))) a.length).map encB)))) = (rowsI (tbl a p) (i + 1)).map dv1 := by rw [hrow, ← rowsI_set hil, List.map_set, List.map_set, List.set_set]; rfl
    refine SOps.freezeIn 0 1 i 0 rfl rfl rfl (row := [.sl bM 1 0 a.length]) (by simp [dv1, List.getElem?_set, rowsI_len (Nat.le_of_lt hil), hil]) (by simp [rowJ]) ?_
    refine SOps.addI rfl rfl (by first | omega | (rw [rowsI_len (by rw [tbl_len]; omega), tbl_len]; omega) | (rw [List.length_set, rowsI_len (by rw [tbl_len]; omega), tbl_len]; omega) | (rw [rowJ_len (by simp; omega)]; simp; omega) | (simp; omega)) (by first | omega | (rw [rowsI_len (by rw [tbl_len]; omega), tbl_len]; omega) | (rw [List.length_set, rowsI_len (by rw [tbl_len]; omega), tbl_len]; omega) | (rw [rowJ_len (by simp; omega)]; simp; omega) | (simp; omega)) (SOps.move rfl (SOps.nil ?_))
    exact ⟨i + 1, by omega, by omega, St.Le.of ⟨rfl, rfl, rfl, rfl, rfl, rfl, trivial⟩ rfl (by rw [hset2]; rfl)⟩
 ·try simp only [nmL] at hc1
  refine SCode.exit ?_
  show SCode _ _ _ _
  refine SCode.seqR ?_
  obtain rfl : i = p.length := by omega
  refine SOps.freezeIn 1 0 0 0 rfl rfl rfl rfl (by simp [rowsI_len, tbl_len]) (SOps.freezeRef (t := 5) 0 0 rfl rfl rfl rfl rfl (SOps.reSlot (t := 5) rfl (show _ = .ipin [DTbl (tbl a p)] from by show DV.ipin [.isl false 1 ((rowsI (tbl a p) p.length).map dv1)] = .ipin [.isl false 1 ((tbl a p).map encRow)]; rw [← rowsI_full, tbl_len]) (SOps.makeFunc rfl (SOps.assign rfl (SOps.nil (SCode.drop (SCode.ret ?_)))))))
  exact ⟨_, Res.one (.tmp rfl), rfl, rfl⟩
theorem lensF_cons {β : Type} (f : Item → β → Bool) (p : List Item) (c : β) (w : List β) (i s : Nat) : lensF f p (c :: w) i s = (if s.testBit p.length then [i] else []) ++ if s = 0 then [] else lensF f p w (i + 1) (stepN p (fun x => f x c) s) := rfl
theorem lensF_nil {β : Type} (f : Item → β → Bool) (p : List Item) (i s : Nat) : lensF f p [] i s = if s.testBit p.length then [i] else [] := rfl
theorem pLengths (a : List Letter) (p : List Item) (l : List Nat) (hp : p.length < 8) (ha : a.length ≤ 1048576) (hl : l.length ≤ 1048576) (hlt : ∀ c ∈ l, c < a.length) : GCall Tryd.prog E 104 [DLs a, DIts p, DNats l] [] (fun d H => d = DNats (lens (admF a) p l) ∧ H = []) := by
 refine GCall.body (C := ⟨Tryd.prog, E, true⟩) Tryd.func104 rfl (fun _ => rfl) (by kernel_rfl) rfl ?_
 refine SCode.seqR (SOps.assign rfl (SOps.nil (SCode.seqR (SOps.assign rfl (SOps.nil (SCode.seqR (SOps.move rfl (SOps.move rfl (SOps.callP (pMachine _ _ (by omega) (by omega)) rfl ?_)))))))))
 rintro _ rfl
 refine SOps.assign rfl (SOps.nil (SCode.seqR (SOps.move rfl (SOps.callP (pClosed _ 1 (by omega) (by decide)) rfl ?_))))
 rintro _ rfl
 refine SOps.assign rfl (SOps.nil (SCode.seqR (SOps.assign rfl (SOps.nil (SCode.block (SCode.loop4 (fun (i : Nat) (s : Nat) (out : List Nat) (k : Nat) => (⟨44, [(0, DLs a), (1, DIts p), (2, DNats l), (7, accD 1 k (out.map encN)), (8, .fn 111 [.ipin [DIts p], .ipin [DTbl (tbl a p)]]), (9, .v (.int .u8 ((s : Nat) : Int))), (10, .v (.int .i64 (i : Int)))], accH 3 1 k (out.map encN) ++ []⟩ : St)) (fun (i : Nat) (s : Nat) (out : List Nat) (k : Nat) => i ≤ l.length ∧ out.length ≤ i ∧ s < 256 ∧ out ++ lensF (admF a) p (l.drop i) i s = lens (admF a) p l) (fun (i : Nat) (s : Nat) (out : List Nat) (k : Nat) => l.length + 1 - i) (0) (closedN p 1) ([]) (0) (by exact ⟨Nat.zero_le _, Nat.le_refl _, closedN_lt (by omega) (by decide), rfl⟩) (St.Le.of ⟨(by first | rfl | (show some _ = some _; simp)), (by first | rfl | (show some _ = some _; simp)), (by first | rfl | (show some _ = some _; simp)), (by first | rfl | (show some _ = some _; simp)), (by first | rfl | (show some _ = some _; simp)), (by first | rfl | (show some _ = some _; simp)), (by first | rfl | (show some _ = some _; simp)), trivial⟩ rfl (by first | rfl | (simp))) ?_))))))
 rintro i s out k ⟨hi, ho, hs, hf⟩
 refine SCode.seq (SCode.block (SCode.seq (SCode.seqR (SOps.move rfl (SOps.move rfl (SOps.lenM rfl sliceB_45_87_4 (SOps.shrN (k := p.length) rfl rfl (by first | omega | (simp only [lenB]; omega)) (by first | omega | (simp only [lenB]; omega)) (by first | omega | (simp only [lenB]; omega)) (SOps.andN (y := 1) rfl rfl (by first | omega | (exact Nat.lt_of_le_of_lt (by rw [Nat.shiftRight_eq_div_pow]; exact Nat.div_le_self ..) (by omega)) | exact two_lt (by omega)) (by first | omega | (exact Nat.lt_of_le_of_lt (by rw [Nat.shiftRight_eq_div_pow]; exact Nat.div_le_self ..) (by omega)) | exact two_lt (by omega)) (SOps.bin rfl rfl rfl (SOps.nil ?_))))))))))
 refine SCode.cond rfl (fun hc1 => ?_) (fun hc1 => ?_)
 ·try simp only [nmL] at hc1
  refine SCode.region (SOps.move rfl (SOps.move rfl (SOps.litF rfl sliceB_43_3_1 zeroIs_3 rfl ?_)))
  refine SOps.appendAcc [] [] sliceB_43_3_1 elemB_3_1_8 rfl rfl rfl SrcD.isl (by simp) (by first | (simp [lenB] <;> (first | omega | (simp only [lenB]; omega))) | (simp only [lenB]; (first | omega | (simp only [lenB]; omega)))) (by first | (simp <;> (first | omega | (simp only [lenB]; omega))) | (first | omega | (simp only [lenB]; omega))) (fun b0 => ?_)
  refine SOps.assign rfl (SOps.nil ?_)
  show SCode _ _ _ _
  refine SCode.seq (SCode.seqR (SOps.move rfl (SOps.move rfl (SOps.lenM rfl sliceB_43_3_1 (SOps.bin rfl rfl rfl (SOps.move rfl ?_))))))
  refine SOps.caseB 32 rfl (fun hb2 => ?_) (fun hb2 => ?_)
  ·try simp only [nmL] at hb2
   refine SOps.skip rfl (SOps.skip rfl (SOps.pick rfl rfl (SOps.nil ?_)))
   refine SCode.cond rfl (fun _ => ?_) (fun h => by cases h)
   refine SCode.seqR (SOps.freezeAcc (t := 7) [] [] rfl rfl rfl (SOps.move rfl (SOps.assign rfl (SOps.nil (SCode.ret ?_)))))
   have hfin : out ++ [i] = lens (admF a) p l := by rw [← hf, List.drop_eq_nil_of_le (show l.length ≤ i by omega), lensF_nil, if_pos (bit1i.1 hc1)]
   exact ⟨_, Res.one (.tmp rfl), by rw [← hfin]; exact congrArg (DV.isl false 1) (by rw [List.map_append]; rfl), rfl⟩
  ·try simp only [nmL] at hb2
   refine SOps.move rfl (SOps.bin rfl rfl rfl (SOps.pick rfl rfl (SOps.nil ?_)))
   refine SCode.cond rfl (fun hc3 => ?_) (fun hc3 => ?_)
   ·try simp only [nmL] at hc3
    refine SCode.seqR (SOps.freezeAcc (t := 7) [] [] rfl rfl rfl (SOps.move rfl (SOps.assign rfl (SOps.nil (SCode.ret ?_)))))
    have hfin : out ++ [i] = lens (admF a) p l := by rcases hd : l.drop i with _ | ⟨c0, w0⟩; (rw [← hf, hd, lensF_nil, if_pos (bit1i.1 hc1)]); (rw [← hf, hd, lensF_cons, if_pos (bit1i.1 hc1), if_pos (show s = 0 by omega)]; simp)
    exact ⟨_, Res.one (.tmp rfl), by rw [← hfin]; exact congrArg (DV.isl false 1) (by rw [List.map_append]; rfl), rfl⟩
   ·try simp only [nmL] at hc3
    refine SCode.skip ?_
    show SCode _ _ _ _
    refine SCode.region ?_
    have hi6 : i < l.length := by omega
    have hc6 := hlt _ (List.getElem_mem hi6)
    refine SOps.move rfl (SOps.move rfl (SOps.move rfl (SOps.move rfl (SOps.indexM (i) rfl rfl sliceB_43_3_1 (by first | omega | (simp only [lenB]; omega)) (by first | omega | (simp only [lenB]; omega)) (SOps.loadPin rfl flatB_3 (SOps.callFn (ds := [_, _]) rfl (pNext a p _ (l[i]) (by omega) (by omega) hc6) rfl ?_))))))
    rintro _ _ ⟨rfl, rfl⟩
    refine SOps.assign rfl (SOps.nil ?_)
    show SCode _ _ _ _
    refine SCode.region (SOps.move rfl (SOps.addI rfl rfl (by first | omega | (simp only [lenB]; omega)) (by first | omega | (simp only [lenB]; omega)) (SOps.assign rfl (SOps.nil ?_))))
    first
     | (have hi5 : i < l.length := (by omega); exact ⟨i + 1, stepN p (fun x => admF a x (l[i])) s, out ++ [i], b0, ⟨by omega, (by first | omega | (simp; omega)), stepN_lt _ (by omega), by rw [← hf, List.drop_eq_getElem_cons hi5, lensF_cons, if_pos (bit1i.1 hc1), if_neg (show ¬ s = 0 by omega)]; simp⟩, by omega, St.Le.of ⟨rfl, rfl, rfl, (by show some _ = some _; rw [List.map_append]; rfl), rfl, rfl, rfl, trivial⟩ rfl (by rw [List.map_append]; rfl)⟩)
     | (have hi5 : i < l.length := (by omega); exact ⟨i + 1, stepN p (fun x => admF a x (l[i])) s, out, k, ⟨by omega, (by first | omega | (simp; omega)), stepN_lt _ (by omega), by rw [← hf, List.drop_eq_getElem_cons hi5, lensF_cons, if_neg (fun h => hc1 (bit1i.2 h)), if_neg (show ¬ s = 0 by omega)]; simp⟩, by omega, St.Le.of ⟨rfl, rfl, rfl, (rfl), rfl, rfl, rfl, trivial⟩ rfl (by rfl)⟩)
 ·try simp only [nmL] at hc1
  refine SCode.skip ?_
  show SCode _ _ _ _
  refine SCode.seq (SCode.seqR (SOps.move rfl (SOps.move rfl (SOps.lenM rfl sliceB_43_3_1 (SOps.bin rfl rfl rfl (SOps.move rfl ?_))))))
  refine SOps.caseB 32 rfl (fun hb4 => ?_) (fun hb4 => ?_)
  ·try simp only [nmL] at hb4
   refine SOps.skip rfl (SOps.skip rfl (SOps.pick rfl rfl (SOps.nil ?_)))
   refine SCode.cond rfl (fun _ => ?_) (fun h => by cases h)
   refine SCode.seqR (SOps.freezeAcc (t := 7) [] [] rfl rfl rfl (SOps.move rfl (SOps.assign rfl (SOps.nil (SCode.ret ?_)))))
   have hfin : out = lens (admF a) p l := by rw [← hf, List.drop_eq_nil_of_le (show l.length ≤ i by omega), lensF_nil, if_neg (fun h => hc1 (bit1i.2 h))] <;> simp
   exact ⟨_, Res.one (.tmp rfl), by rw [← hfin], rfl⟩
  ·try simp only [nmL] at hb4
   refine SOps.move rfl (SOps.bin rfl rfl rfl (SOps.pick rfl rfl (SOps.nil ?_)))
   refine SCode.cond rfl (fun hc5 => ?_) (fun hc5 => ?_)
   ·try simp only [nmL] at hc5
    refine SCode.seqR (SOps.freezeAcc (t := 7) [] [] rfl rfl rfl (SOps.move rfl (SOps.assign rfl (SOps.nil (SCode.ret ?_)))))
    have hfin : out = lens (admF a) p l := by rcases hd : l.drop i with _ | ⟨c0, w0⟩; (rw [← hf, hd, lensF_nil, if_neg (fun h => hc1 (bit1i.2 h))] <;> simp); (rw [← hf, hd, lensF_cons, if_neg (fun h => hc1 (bit1i.2 h)), if_pos (show s = 0 by omega)]; simp)
    exact ⟨_, Res.one (.tmp rfl), by rw [← hfin], rfl⟩
   ·try simp only [nmL] at hc5
    refine SCode.skip ?_
    show SCode _ _ _ _
    refine SCode.region ?_
    have hi6 : i < l.length := by omega
    have hc6 := hlt _ (List.getElem_mem hi6)
    refine SOps.move rfl (SOps.move rfl (SOps.move rfl (SOps.move rfl (SOps.indexM (i) rfl rfl sliceB_43_3_1 (by first | omega | (simp only [lenB]; omega)) (by first | omega | (simp only [lenB]; omega)) (SOps.loadPin rfl flatB_3 (SOps.callFn (ds := [_, _]) rfl (pNext a p _ (l[i]) (by omega) (by omega) hc6) rfl ?_))))))
    rintro _ _ ⟨rfl, rfl⟩
    refine SOps.assign rfl (SOps.nil ?_)
    show SCode _ _ _ _
    refine SCode.region (SOps.move rfl (SOps.addI rfl rfl (by first | omega | (simp only [lenB]; omega)) (by first | omega | (simp only [lenB]; omega)) (SOps.assign rfl (SOps.nil ?_))))
    first
     | (have hi5 : i < l.length := (by omega); exact ⟨i + 1, stepN p (fun x => admF a x (l[i])) s, out ++ [i], b0, ⟨by omega, (by first | omega | (simp; omega)), stepN_lt _ (by omega), by rw [← hf, List.drop_eq_getElem_cons hi5, lensF_cons, if_pos (bit1i.1 hc1), if_neg (show ¬ s = 0 by omega)]; simp⟩, by omega, St.Le.of ⟨rfl, rfl, rfl, (by show some _ = some _; rw [List.map_append]; rfl), rfl, rfl, rfl, trivial⟩ rfl (by rw [List.map_append]; rfl)⟩)
     | (have hi5 : i < l.length := (by omega); exact ⟨i + 1, stepN p (fun x => admF a x (l[i])) s, out, k, ⟨by omega, (by first | omega | (simp; omega)), stepN_lt _ (by omega), by rw [← hf, List.drop_eq_getElem_cons hi5, lensF_cons, if_neg (fun h => hc1 (bit1i.2 h)), if_neg (show ¬ s = 0 by omega)]; simp⟩, by omega, St.Le.of ⟨rfl, rfl, rfl, (rfl), rfl, rfl, rfl, trivial⟩ rfl (by rfl)⟩)
theorem GCall.nilI {P : Program} {E : Env} {f : FuncId} {ds : List DV} {c : Bool} {sz : Nat} {es : List (List DV)} (h : GCall P E f ds [] (fun d H => d = (if c then .isl false sz es else .v (.slice none 0 0)) ∧ H = [])) : GCall P E f ds [] (fun d H => d = .isl false sz (if c then es else []) ∧ H = []) :=
  ⟨h.1, fun w F vs h1 h2 h3 h4 h5 h6 => (h.2 w F vs h1 h2 h3 h4 h5 h6).mono (fun e w' ⟨u, d, H', F', k1, ⟨k2, k3⟩, k4, k5, k6, k7⟩ => by
    subst k3
    refine ⟨u, .isl false sz (if c then es else []), [], F', k1, ⟨rfl, rfl⟩, k4, k5, ?_, k7⟩
    rw [k2] at k6
    cases c with
    | true => exact k6
    | false => exact nil_isl k6)⟩
theorem idxs_lt {a : List Letter} {s : ByteArray} (h : overA a s = true) : ∀ c ∈ idxs a s, c < a.length := by
  intro c hc
  obtain ⟨r, hr, rfl⟩ := List.mem_map.1 hc
  simp only [overA, Bool.and_eq_true, List.all_eq_true] at h
  obtain ⟨k, hk⟩ := Option.isSome_iff_exists.1 (h.2 r hr)
  rw [hk]
  exact idx_lt hk
theorem idxs_len (a : List Letter) (s : ByteArray) : (idxs a s).length ≤ s.size := by
  have := runes_len s
  simpa [idxs] using this
theorem lens_last {β : Type} (f : Item → β → Bool) (p : List Item) (w : List β) : lens f p w = ((List.range w.length).filter (fun n => M f p (w.take n))) ++ if M f p w then [w.length] else [] := by
  rw [lens_eq, List.range_succ, List.filter_append, List.filter_cons, List.filter_nil, List.take_of_length_le (Nat.le_refl _)]
theorem lens_lt {β : Type} (f : Item → β → Bool) (p : List Item) (w : List β) {n : Nat} (h : n ∈ (List.range w.length).filter (fun n => M f p (w.take n))) : n < w.length := List.mem_range.1 (List.mem_filter.1 h).1
theorem lens_iff {β : Type} (f : Item → β → Bool) (p : List Item) (w : List β) (h : 0 < (lens f p w).length) : (lens f p w)[(lens f p w).length - 1]'(by omega) = w.length ↔ M f p w = true := by
  rcases hm : M f p w with _ | _
  · have e := lens_last f p w
    rw [hm] at e
    simp only [Bool.false_eq_true, if_false, List.append_nil] at e
    have := lens_lt f p w (n := (lens f p w)[(lens f p w).length - 1]'(by omega)) (by rw [← e]; exact List.getElem_mem _)
    constructor
    · intro h2; omega
    · intro h2; cases h2
  · have e := lens_last f p w
    rw [hm] at e
    simp only [if_true] at e
    simp [e]
theorem lens_pos {β : Type} (f : Item → β → Bool) (p : List Item) (w : List β) (h : M f p w = true) : 0 < (lens f p w).length := by
  rw [lens_last, h]; simp
def matchesP (a : List Letter) (p : List Item) (s : ByteArray) : Bool := validPat a p && overA a s && M (admF a) p (idxs a s)
def prefixesP (a : List Letter) (p : List Item) (s : ByteArray) : List Nat := if validPat a p && overA a s then lens (admF a) p (idxs a s) else []
theorem validPat_len {a : List Letter} {p : List Item} (h : validPat a p = true) : a.length ≤ 65 ∧ p.length ≤ 3 := by
  simp only [validPat, Bool.and_eq_true, decide_eq_true_eq] at h; omega
theorem pMatches (hV : VS E) (a : List Letter) (p : List Item) (s : ByteArray) (hp : ∀ x ∈ p, x.lets.size ≤ 1048576) (hs : s.size ≤ 1048576) : GCall Tryd.prog E 100 [DLs a, DIts p, .v (.string s)] [] (fun d H => d = .v (.bool (matchesP a p s)) ∧ H = []) := by
 refine GCall.body (C := ⟨Tryd.prog, E, true⟩) Tryd.func100 rfl (fun _ => rfl) (by kernel_rfl) rfl ?_
 refine SCode.seqR (SOps.assign rfl (SOps.nil (SCode.seqR (SOps.move rfl (SOps.move rfl (SOps.move rfl (SOps.callP (pRead hV a p s hp hs) rfl ?_)))))))
 rintro _ rfl
 rcases hva : (validPat a p && overA a s) with _ | _
 ·show SOps _ _ _ ⟨_, (14, .tup [.v (.slice none 0 0), .v (.bool false)]) :: _, _⟩ _
  refine SOps.move rfl (SOps.extract rfl rfl (SOps.extract rfl rfl (SOps.assign rfl (SOps.assign rfl (SOps.nil (SCode.seq (SCode.seqR (SOps.move rfl (SOps.un rfl rfl (SOps.nil ?_))))))))))
  refine SCode.cond rfl (fun _ => ?_) (fun h => by cases h)
  refine SCode.seqR (SOps.assign rfl (SOps.nil (SCode.ret ?_)))
  exact ⟨_, Res.one (.tmp rfl), congrArg (fun b => DV.v (.bool b)) (by rw [matchesP, hva]; rfl), rfl⟩
 ·have hva2 := (Bool.and_eq_true _ _).mp hva
  have hvl := validPat_len hva2.1
  have hil := idxs_len a s
  have hlt := idxs_lt hva2.2
  show SOps _ _ _ ⟨_, (14, .tup [DNats (idxs a s), .v (.bool true)]) :: _, _⟩ _
  refine SOps.move rfl (SOps.extract rfl rfl (SOps.extract rfl rfl (SOps.assign rfl (SOps.assign rfl (SOps.nil (SCode.seq (SCode.seqR (SOps.move rfl (SOps.un rfl rfl (SOps.nil ?_))))))))))
  refine SCode.cond rfl (fun h => by cases h) (fun _ => ?_)
  refine SCode.skip ?_
  show SCode _ _ _ _
  refine SCode.seqR (SOps.move rfl (SOps.move rfl (SOps.move rfl (SOps.callP (pLengths _ _ _ (by omega) (by omega) (by omega) (by assumption)) rfl ?_))))
  rintro _ rfl
  refine SOps.assign rfl (SOps.nil (SCode.seqR ?_))
  refine SOps.fact (isl_len (t := 9) rfl) (fun hB => ?_)
  simp only [List.length_map, lenB] at hB
  refine SOps.move rfl (SOps.lenM rfl sliceB_43_3_1 (SOps.bin rfl rfl rfl (SOps.move rfl ?_)))
  refine SOps.caseB 26 rfl (fun hb1 => ?_) (fun hb1 => ?_)
  ·try simp only [nmL] at hb1
   refine SOps.move rfl (SOps.move rfl (SOps.lenM rfl sliceB_43_3_1 (SOps.subI rfl rfl (by first | omega | (simp only [lenB]; omega)) (by first | omega | (simp only [lenB]; omega)) (SOps.indexM ((lens (admF a) p (idxs a s)).length - 1) rfl rfl sliceB_43_3_1 (by first | omega | (simp only [lenB]; omega)) (by first | omega | (simp only [lenB]; omega)) (SOps.loadPin rfl flatB_3 (SOps.move rfl (SOps.lenM rfl sliceB_43_3_1 (SOps.bin rfl rfl rfl (SOps.pick rfl rfl (SOps.assign rfl (SOps.nil (SCode.ret ?_))))))))))))
   exact ⟨_, Res.one (.tmp rfl), congrArg (fun b => DV.v (.bool b)) (by rw [matchesP, hva, Bool.true_and, Bool.eq_iff_iff, beq_iff_eq, ← lens_iff (admF a) p _ (by omega)]; exact Int.ofNat_inj), rfl⟩
  ·try simp only [nmL] at hb1
   refine SOps.skip rfl (SOps.skip rfl (SOps.skip rfl (SOps.skip rfl (SOps.skip rfl (SOps.skip rfl (SOps.skip rfl (SOps.skip rfl (SOps.skip rfl (SOps.pick rfl rfl (SOps.assign rfl (SOps.nil (SCode.ret ?_))))))))))))
   exact ⟨_, Res.one (.tmp rfl), congrArg (fun b => DV.v (.bool b)) (by rw [matchesP, hva, Bool.true_and]; exact (Bool.eq_false_iff.2 (fun h => by have := lens_pos _ _ _ h; omega)).symm), rfl⟩
theorem pPrefixes0 (hV : VS E) (a : List Letter) (p : List Item) (s : ByteArray) (hp : ∀ x ∈ p, x.lets.size ≤ 1048576) (hs : s.size ≤ 1048576) : GCall Tryd.prog E 102 [DLs a, DIts p, .v (.string s)] [] (fun d H => d = (if (validPat a p && overA a s) then DNats (lens (admF a) p (idxs a s)) else .v (.slice none 0 0)) ∧ H = []) := by
 refine GCall.body (C := ⟨Tryd.prog, E, true⟩) Tryd.func102 rfl (fun _ => rfl) (by kernel_rfl) rfl ?_
 refine SCode.seqR (SOps.assign rfl (SOps.nil (SCode.seqR (SOps.move rfl (SOps.move rfl (SOps.move rfl (SOps.callP (pRead hV a p s hp hs) rfl ?_)))))))
 rintro _ rfl
 rcases hva : (validPat a p && overA a s) with _ | _
 ·show SOps _ _ _ ⟨_, (13, .tup [.v (.slice none 0 0), .v (.bool false)]) :: _, _⟩ _
  refine SOps.move rfl (SOps.extract rfl rfl (SOps.extract rfl rfl (SOps.assign rfl (SOps.assign rfl (SOps.nil (SCode.seq (SCode.seqR (SOps.move rfl (SOps.un rfl rfl (SOps.nil ?_))))))))))
  refine SCode.cond rfl (fun _ => ?_) (fun h => by cases h)
  refine SCode.seqR (SOps.assign rfl (SOps.nil (SCode.ret ?_)))
  exact ⟨_, Res.one (.tmp rfl), by first | rfl | (rw [hva]; rfl), rfl⟩
 ·have hva2 := (Bool.and_eq_true _ _).mp hva
  have hvl := validPat_len hva2.1
  have hil := idxs_len a s
  have hlt := idxs_lt hva2.2
  show SOps _ _ _ ⟨_, (13, .tup [DNats (idxs a s), .v (.bool true)]) :: _, _⟩ _
  refine SOps.move rfl (SOps.extract rfl rfl (SOps.extract rfl rfl (SOps.assign rfl (SOps.assign rfl (SOps.nil (SCode.seq (SCode.seqR (SOps.move rfl (SOps.un rfl rfl (SOps.nil ?_))))))))))
  refine SCode.cond rfl (fun h => by cases h) (fun _ => ?_)
  refine SCode.skip ?_
  show SCode _ _ _ _
  refine SCode.seqR (SOps.move rfl (SOps.move rfl (SOps.move rfl (SOps.callP (pLengths _ _ _ (by omega) (by omega) (by omega) (by assumption)) rfl ?_))))
  rintro _ rfl
  refine SOps.assign rfl (SOps.nil (SCode.ret ?_))
  exact ⟨_, Res.one (.tmp rfl), by first | rfl | (rw [hva]; rfl), rfl⟩
theorem pPrefixes (hV : VS E) (a : List Letter) (p : List Item) (s : ByteArray) (hp : ∀ x ∈ p, x.lets.size ≤ 1048576) (hs : s.size ≤ 1048576) : GCall Tryd.prog E 102 [DLs a, DIts p, .v (.string s)] [] (fun d H => d = DNats (prefixesP a p s) ∧ H = []) :=
  (pPrefixes0 hV a p s hp hs).nilI.mono (fun d H h => ⟨h.1.trans (by unfold prefixesP; split <;> rfl), h.2⟩)
theorem pOverO (hV : VS E) (a : List Letter) (s : ByteArray) (hs : s.size ≤ 1048576) : GCall Tryd.prog E 81 [DMap a, .v (.string s)] [] (fun d H => (overA a s = true → ∃ c, d = .tup [accD 1 c ((idxs a s).map encN), .v (.bool true)] ∧ H = accH 3 1 c ((idxs a s).map encN)) ∧ (overA a s = false → d = .tup [.v (.slice none 0 0), .v (.bool false)] ∧ H = [])) := by
 refine GCall.body (C := ⟨Tryd.prog, E, true⟩) Tryd.func81 rfl (fun _ => rfl) (by kernel_rfl) rfl ?_
 refine SCode.seqR (SOps.assign rfl (SOps.assign rfl (SOps.nil (SCode.seq (SCode.seqR (SOps.move rfl (SOps.callP (hV _) rfl ?_)))))))
 rintro _ rfl
 refine SOps.un rfl rfl (SOps.nil ?_)
 refine SCode.cond rfl (fun hc1 => ?_) (fun hc1 => ?_)
 ·try simp only [nmL] at hc1
  refine SCode.seqR (SOps.assign rfl (SOps.assign rfl (SOps.nil (SCode.ret ?_))))
  have hov : overA a s = false := Bool.eq_false_iff.2 (fun h => by simp only [overA, Bool.and_eq_true] at h; rw [h.1] at hc1; cases hc1)
  exact ⟨_, Res.two (.tmp rfl) (.tmp rfl), (fun h => by rw [hov] at h; cases h), fun _ => ⟨rfl, rfl⟩⟩
 ·try simp only [nmL] at hc1
  refine SCode.skip ?_
  show SCode _ _ _ _
  refine SCode.seqR (SOps.assign rfl (SOps.nil (SCode.seq (SCode.seqR (SOps.move rfl ?_)))))
  refine SOps.rangeStr rfl strB_9 (fun b0 hb_0 => ?_)
  refine SOps.nil (SCode.block (SCode.loop4 (fun (p : Nat) (b : Nat) (l : List Nat) (c : Nat) => (⟨32, [(0, DMap a), (6, accD 1 c (l.map encN)), (15, .it b)], [(b, .iter s p)] ++ (accH 3 1 c (l.map encN) ++ [])⟩ : St)) (fun (p : Nat) (b : Nat) (l : List Nat) (c : Nat) => l.length ≤ p ∧ (runesAt s p).all (fun r => (idx a r).isSome) = (runes s).all (fun r => (idx a r).isSome) ∧ l ++ (runesAt s p).map (fun r => (idx a r).getD 0) = idxs a s) (fun (p : Nat) (b : Nat) (l : List Nat) (c : Nat) => s.size - p) (0) (b0) ([]) (0) (by exact ⟨Nat.le_refl _, rfl, rfl⟩) (St.Le.of ⟨(by first | rfl | (show some _ = some _; simp)), (by first | rfl | (show some _ = some _; simp)), (by first | rfl | (show some _ = some _; simp)), trivial⟩ rfl (by first | rfl | (simp))) ?_))
  rintro p b l c ⟨hln, ho, hl⟩
  refine SCode.seqR ?_
  refine SOps.next 0 rfl rfl (fun hn2 => ?_) (fun hn2 => ?_) (by first | omega | (simp only [lenB]; omega))
  ·refine SOps.extract rfl rfl (SOps.nil (SCode.seq ?_))
   refine SCode.cond rfl (fun _ => ?_) (fun h => by cases h)
   refine SCode.skip ?_
   show SCode _ _ _ _
   refine SCode.block (SCode.seqR (SOps.extract rfl rfl (SOps.assign rfl (SOps.nil (SCode.seqR (SOps.move rfl (SOps.move rfl ?_)))))))
   refine SOps.lookupIM (idx a ((Utf8.decode s p).1 : Int)) (fun i => DV.v (.int .i64 ((i : Nat) : Int))) rfl rfl mapB_89 (keys_enc _) zeroIs_3 (lookup_mapOf _ _) (fun y3 hy3 => ?_) (fun hy3 => ?_)
   ·refine SOps.move rfl (SOps.extract rfl rfl (SOps.extract rfl rfl (SOps.assign rfl (SOps.assign rfl (SOps.nil (SCode.seq (SCode.seqR (SOps.move rfl (SOps.un rfl rfl (SOps.nil ?_))))))))))
    refine SCode.cond rfl (fun h => by cases h) (fun _ => ?_)
    refine SCode.skip ?_
    show SCode _ _ _ _
    refine SCode.region (SOps.move rfl (SOps.move rfl (SOps.litF rfl sliceB_43_3_1 zeroIs_3 rfl ?_)))
    refine SOps.appendAcc [_] [] sliceB_43_3_1 elemB_3_1_8 rfl rfl rfl SrcD.isl (by simp) (by first | (simp [lenB] <;> (first | omega | (simp only [lenB]; omega))) | (simp only [lenB]; (first | omega | (simp only [lenB]; omega)))) (by first | (simp <;> (first | omega | (simp only [lenB]; omega))) | (first | omega | (simp only [lenB]; omega))) (fun b1 => ?_)
    refine SOps.assign rfl (SOps.nil ?_)
    exact ⟨p + (Utf8.decode s p).2, b, l ++ [y3], b1, ⟨by have := decode_w s p; simp; omega, by rw [← ho, runes_step hn2, hy3]; rfl, by rw [← hl, runesAt_lt hn2]; simp [hy3]⟩, by have := decode_w s p; omega, St.Le.of ⟨rfl, (by show some _ = some _; rw [List.map_append]; rfl), rfl, trivial⟩ rfl (by rw [List.map_append]; rfl)⟩
   ·refine SOps.move rfl (SOps.extract rfl rfl (SOps.extract rfl rfl (SOps.assign rfl (SOps.assign rfl (SOps.nil (SCode.seq (SCode.seqR (SOps.move rfl (SOps.un rfl rfl (SOps.nil ?_))))))))))
    refine SCode.cond rfl (fun _ => ?_) (fun h => by cases h)
    refine SCode.seqR (SOps.assign rfl (SOps.assign rfl (SOps.nil (SCode.drop (SCode.ret ?_)))))
    have hov : overA a s = false := Bool.eq_false_iff.2 (fun h => by simp only [overA, Bool.and_eq_true] at h; rw [← ho, runes_step hn2, hy3] at h; simp at h)
    exact ⟨_, Res.two (.tmp rfl) (.tmp rfl), (fun h => by rw [hov] at h; cases h), fun _ => ⟨rfl, rfl⟩⟩
  ·refine SOps.extract rfl rfl (SOps.nil (SCode.seq ?_))
   refine SCode.cond rfl (fun h => by cases h) (fun _ => ?_)
   refine SCode.exit ?_
   show SCode _ _ _ _
   refine SCode.seqR (SOps.move rfl (SOps.assign rfl (SOps.assign rfl (SOps.nil ?_))))
   have hov : overA a s = true := by rw [overA, hc1, ← ho, runesAt_ge hn2]; rfl
   obtain rfl : l = idxs a s := by rw [← hl, runesAt_ge hn2]; simp
   refine SCode.weaken (st' := (⟨32, [(4, accD 1 c ((idxs a s).map encN)), (5, .v (.bool true))], accH 3 1 c ((idxs a s).map encN)⟩ : St)) (St.Le.ofSub ⟨rfl, rfl, trivial⟩ (.cons _ (by rw [List.append_nil]; exact .refl _))) (SCode.ret ⟨_, Res.two (.tmp rfl) (.tmp rfl), (fun _ => ⟨c, rfl, rfl⟩), fun h => by rw [hov] at h; cases h⟩)
theorem pReadO (hV : VS E) (a : List Letter) (p : List Item) (s : ByteArray) (hp : ∀ x ∈ p, x.lets.size ≤ 1048576) (hs : s.size ≤ 1048576) : GCall Tryd.prog E 103 [DLs a, DIts p, .v (.string s)] [] (fun d H => ((validPat a p && overA a s) = true → ∃ c, d = .tup [accD 1 c ((idxs a s).map encN), .v (.bool true)] ∧ H = accH 3 1 c ((idxs a s).map encN)) ∧ ((validPat a p && overA a s) = false → d = .tup [.v (.slice none 0 0), .v (.bool false)] ∧ H = [])) := by
 refine GCall.body (C := ⟨Tryd.prog, E, true⟩) Tryd.func103 rfl (fun _ => rfl) (by kernel_rfl) rfl ?_
 refine SCode.seqR (SOps.assign rfl (SOps.assign rfl (SOps.nil (SCode.seq (SCode.seqR (SOps.move rfl (SOps.move rfl (SOps.callP (pValid hV _ _ (by assumption)) rfl ?_))))))))
 rintro _ rfl
 refine SOps.un rfl rfl (SOps.nil ?_)
 refine SCode.cond rfl (fun hc1 => ?_) (fun hc1 => ?_)
 ·try simp only [nmL] at hc1
  have hvp : validPat a p = false := hc1
  refine SCode.seqR (SOps.assign rfl (SOps.assign rfl (SOps.nil (SCode.ret ?_))))
  exact ⟨_, Res.two (.tmp rfl) (.tmp rfl), (fun h => by simp_all), fun _ => ⟨rfl, rfl⟩⟩
 ·try simp only [nmL] at hc1
  have hvp : validPat a p = true := hc1
  have hpr : properB a = true := by simp only [validPat, Bool.and_eq_true] at hvp; exact hvp.1.1.1
  refine SCode.skip ?_
  show SCode _ _ _ _
  refine SCode.seqR (SOps.move rfl (SOps.callP (pProper _) rfl ?_))
  rintro _ rfl; rw [if_pos hpr]
  refine SOps.move rfl (SOps.extract rfl rfl (SOps.extract rfl rfl (SOps.assign rfl (SOps.assign rfl (SOps.nil (SCode.seqR (SOps.move rfl (SOps.move rfl ?_))))))))
  rcases hov : overA a s with _ | _
  ·refine SOps.callH [] [] [] (pOverO hV a s hs) rfl rfl (fun d H hR => ?_)
   obtain ⟨rfl, rfl⟩ := hR.2 hov
   refine SOps.extract rfl rfl (SOps.extract rfl rfl (SOps.assign rfl (SOps.assign rfl (SOps.nil (SCode.ret ?_)))))
   exact ⟨_, Res.two (.tmp rfl) (.tmp rfl), (fun h => by simp_all), fun _ => ⟨rfl, rfl⟩⟩
  ·refine SOps.callH [] [] [] (pOverO hV a s hs) rfl rfl (fun d H hR => ?_)
   obtain ⟨c, rfl, rfl⟩ := hR.1 hov
   refine SOps.extract rfl rfl (SOps.extract rfl rfl (SOps.assign rfl (SOps.assign rfl (SOps.nil ?_))))
   refine SCode.weaken (st' := (⟨24, [(6, accD 1 c ((idxs a s).map encN)), (7, .v (.bool true))], accH 3 1 c ((idxs a s).map encN)⟩ : St)) (St.Le.ofSub ⟨rfl, rfl, trivial⟩ (show List.Sublist (accH 3 1 c _) (accH 3 1 c _ ++ []) from by rw [List.append_nil]; exact .refl _)) (SCode.ret ⟨_, Res.two (.tmp rfl) (.tmp rfl), (fun _ => ⟨c, rfl, rfl⟩), fun h => by simp_all⟩)
theorem sClone0 (p : List Item) (hp0 : p = []) (hpl : p.length ≤ 1048576) : GCall Tryd.prog E 105 [DIts p] [] (fun d H => d = .isl false 4 [] ∧ H = []) := by
 refine GCall.body (C := ⟨Tryd.prog, E, true⟩) Tryd.func105 rfl (fun _ => rfl) (by kernel_rfl) rfl ?_
 refine SCode.seqR (SOps.assign rfl (SOps.nil (SCode.seq (SCode.seqR (SOps.move rfl ?_)))))
 refine SOps.eqNilS Tryd.underlying45 rfl rfl (fun c0 hz0 => ?_)
 refine SOps.nil ?_
 refine SCode.cond rfl (fun hc1 => ?_) (fun hc1 => ?_)
 ·try simp only [nmL] at hc1
  refine SCode.seqR (SOps.assign rfl (SOps.nil (SCode.nilIsl (t := 2) (sz := 4) rfl (SCode.ret ?_))))
  exact ⟨_, Res.one (.tmp rfl), rfl, rfl⟩
 ·try simp only [nmL] at hc1
  refine SCode.skip ?_
  show SCode _ _ _ _
  refine SCode.seqR ?_
  refine SOps.litO sliceB_45_87_4 zeroIs_87 rfl (fun b1 hb_1 => ?_)
  refine SOps.move rfl ?_
  refine SOps.appendOwnE 0 sliceB_45_87_4 elemB_87_4_32 rfl rfl rfl (by simp) SrcD.isl (by simp [lenB]; omega) (by simp; omega) (fun bC => ?_)
  refine SOps.assign rfl (SOps.nil (SCode.slIsl (t := 2) rfl (by rw [hp0]; rfl) (SCode.drop (SCode.ret ?_))))
  exact ⟨_, Res.one (.tmp rfl), rfl, rfl⟩
theorem sCloneC (p : List Item) (hp0 : p ≠ []) (hpl : p.length ≤ 1048576) : GCall Tryd.prog E 105 [DIts p] [] (fun d H => ∃ b, d = .sl b 4 0 p.length ∧ H = [(b, .row 87 4 (p.map encIt))]) := by
 refine GCall.body (C := ⟨Tryd.prog, E, true⟩) Tryd.func105 rfl (fun _ => rfl) (by kernel_rfl) rfl ?_
 refine SCode.seqR (SOps.assign rfl (SOps.nil (SCode.seq (SCode.seqR (SOps.move rfl ?_)))))
 refine SOps.eqNilS Tryd.underlying45 rfl rfl (fun c0 hz0 => ?_)
 refine SOps.nil ?_
 refine SCode.cond rfl (fun hc1 => ?_) (fun hc1 => ?_)
 ·try simp only [nmL] at hc1
  exact absurd (List.map_eq_nil_iff.1 (hz0 hc1)) hp0
 ·try simp only [nmL] at hc1
  refine SCode.skip ?_
  show SCode _ _ _ _
  refine SCode.seqR ?_
  refine SOps.litO sliceB_45_87_4 zeroIs_87 rfl (fun b1 hb_1 => ?_)
  refine SOps.move rfl ?_
  refine SOps.appendOwnE 0 sliceB_45_87_4 elemB_87_4_32 rfl rfl rfl (by simp) SrcD.isl (by simp [lenB]; omega) (by simp; omega) (fun bC => ?_)
  refine SOps.assign rfl (SOps.nil (SCode.ret ?_))
  exact ⟨_, Res.one (.tmp rfl), bC, by simp, rfl⟩
theorem rev_step {α : Type} {xs ys : List α} {i : Nat} (hi : i < xs.length - 1 - i) (hl : ys.length = xs.length)
    (hf : ∀ (k : Nat) (h : k < xs.length), ys[k]? = some (if k < i ∨ xs.length - 1 - k < i then xs[xs.length - 1 - k]'(by omega) else xs[k])) :
    ∀ (k : Nat) (h : k < xs.length), ((ys.set i (ys[xs.length - 1 - i]'(by omega))).set (xs.length - 1 - i) (ys[i]'(by omega)))[k]? = some (if k < i + 1 ∨ xs.length - 1 - k < i + 1 then xs[xs.length - 1 - k]'(by omega) else xs[k]) := by
  intro k hk
  have ej : ys[xs.length - 1 - i]'(by omega) = xs[xs.length - 1 - i]'(by omega) := by
    have := hf (xs.length - 1 - i) (by omega)
    rw [if_neg (by omega), List.getElem?_eq_getElem (by omega)] at this
    exact Option.some.inj this
  have ei : ys[i]'(by omega) = xs[i]'(by omega) := by
    have := hf i (by omega)
    rw [if_neg (by omega), List.getElem?_eq_getElem (by omega)] at this
    exact Option.some.inj this
  rw [ej, ei, List.getElem?_set, List.getElem?_set]
  by_cases h1 : xs.length - 1 - i = k
  · subst h1
    rw [if_pos rfl, if_pos (by simp; omega), if_pos (by omega)]
    congr 2
    omega
  · rw [if_neg h1]
    by_cases h2 : i = k
    · subst h2
      rw [if_pos rfl, if_pos (by omega), if_pos (by omega)]
    · rw [if_neg h2, hf k hk]
      congr 1
      by_cases h3 : k < i ∨ xs.length - 1 - k < i
      · rw [if_pos h3, if_pos (by omega)]
      · rw [if_neg h3, if_neg (by omega)]
theorem rev_end {α : Type} {xs ys : List α} {i : Nat} (hi : xs.length ≤ 2 * i + 1) (hi2 : 2 * i ≤ xs.length + 1) (hl : ys.length = xs.length)
    (hf : ∀ (k : Nat) (h : k < xs.length), ys[k]? = some (if k < i ∨ xs.length - 1 - k < i then xs[xs.length - 1 - k]'(by omega) else xs[k])) : ys = xs.reverse := by
  apply List.ext_getElem?
  intro k
  by_cases hk : k < xs.length
  · rw [hf k hk, List.getElem?_reverse hk, List.getElem?_eq_getElem (by omega)]
    by_cases h : k < i ∨ xs.length - 1 - k < i
    · rw [if_pos h]
    · rw [if_neg h]
      congr 2
      omega
  · rw [List.getElem?_eq_none (by omega), List.getElem?_eq_none (by simp; omega)]
theorem sRevNC (xs : List Nat) (bk : Nat) (hx : xs.length ≤ 1048576) : GCall Tryd.prog E 107 [.sl bk 1 0 xs.length] [(bk, .row 3 1 (xs.map encN))] (fun d H => d = .v (.tuple #[]) ∧ H = [(bk, .row 3 1 (xs.reverse.map encN))]) := by
 refine GCall.body (C := ⟨Tryd.prog, E, false⟩) Tryd.func107 rfl (fun h => by cases h) (by kernel_rfl) rfl ?_
 refine SCode.seqR (SOps.move rfl (SOps.lenSl rfl sliceB_43_3_1 (SOps.subI rfl rfl (by first | omega | (simp only [lenB]; omega)) (by first | omega | (simp only [lenB]; omega)) (SOps.assign rfl (SOps.assign rfl (SOps.nil (SCode.block ?_)))))))
 refine SCode.loop2 (fun (i : Nat) (ys : List Nat) => (⟨28, [(0, .sl bk 1 0 xs.length), (2, .v (.int .i64 (i : Int))), (3, .v (.int .i64 ((xs.length : Int) - 1 - (i : Int))))], [(bk, .row 3 1 (ys.map encN))]⟩ : St)) (fun (i : Nat) (ys : List Nat) => 2 * i ≤ xs.length + 1 ∧ ys.length = xs.length ∧ ∀ (k : Nat) (h : k < xs.length), ys[k]? = some (if k < i ∨ xs.length - 1 - k < i then xs[xs.length - 1 - k]'(by omega) else xs[k])) (fun (i : Nat) (ys : List Nat) => xs.length - i) (0) (xs) (by exact ⟨by omega, rfl, fun k h => by rw [if_neg (by omega)]; exact List.getElem?_eq_getElem h⟩) (St.Le.of ⟨(by first | rfl | (show some _ = some _; simp)), (by first | rfl | (show some _ = some _; simp)), (by first | rfl | (show some _ = some _; simp)), trivial⟩ rfl (by first | rfl | (simp))) ?_
 rintro i ys ⟨hi, hyl, hf⟩
 refine SCode.seq (SCode.seqR (SOps.move rfl (SOps.move rfl (SOps.bin rfl rfl rfl (SOps.nil ?_)))))
 refine SCode.cond rfl (fun hc1 => ?_) (fun hc1 => ?_)
 ·try simp only [nmL] at hc1
  refine SCode.skip ?_
  show SCode _ _ _ _
  refine SCode.seq (SCode.block ?_)
  have hi3 : i < xs.length - 1 - i := by omega
  have hjl : xs.length - 1 - i < ys.length := by omega
  have hil : i < ys.length := by omega
  refine SCode.weaken (st' := (⟨28, [(0, .sl bk 1 0 xs.length), (2, .v (.int .i64 (i : Int))), (3, .v (.int .i64 ((xs.length : Int) - 1 - (i : Int))))], [(bk, .row 3 1 (ys.map encN))]⟩ : St)) (St.Le.of ⟨rfl, rfl, rfl, trivial⟩) ?_
  refine SCode.drawMix 17 [12, 13, 14, 15] mixed_ [fun b => some (14, .sl bk 1 0 xs.length), fun b => some (15, .v (.int .i64 (i : Int))), fun b => some (16, .sl bk 1 0 xs.length), fun b => some (17, .v (.int .i64 ((xs.length : Int) - 1 - (i : Int)))), fun b => some (18, .sl bk 1 0 xs.length), fun b => some (19, .v (.int .i64 ((xs.length : Int) - 1 - (i : Int)))), fun b => some (20, .ref bk ((0 + (xs.length - 1 - i)) * 1)), fun b => some (21, .v (.int .i64 (((ys[xs.length - 1 - i]) : Nat) : Int))), fun b => some (22, .sl bk 1 0 xs.length), fun b => some (23, .v (.int .i64 (i : Int))), fun b => some (24, .ref bk ((0 + i) * 1)), fun b => some (25, .v (.int .i64 (((ys[i]) : Nat) : Int))), fun b => some (26, .ref bk ((0 + i) * 1)), fun b => none, fun b => some (27, .ref bk ((0 + (xs.length - 1 - i)) * 1)), fun b => none] [some 14, some 15, some 16, some 17, some 18, some 19, some 20, some 21, some 22, some 23, some 24, some 25, some 26, none, some 27, none] [[.inr 0], [.inr 2], [.inr 0], [.inr 3], [.inr 0], [.inr 3], [.inl 4, .inl 5], [.inl 6], [.inr 0], [.inr 2], [.inl 8, .inl 9], [.inl 10], [.inl 0, .inl 1], [.inl 12, .inl 7], [.inl 2, .inl 3], [.inl 14, .inl 11]] [fun b => [(0, .sl bk 1 0 xs.length)], fun b => [(2, .v (.int .i64 (i : Int)))], fun b => [(0, .sl bk 1 0 xs.length)], fun b => [(3, .v (.int .i64 ((xs.length : Int) - 1 - (i : Int))))], fun b => [(0, .sl bk 1 0 xs.length)], fun b => [(3, .v (.int .i64 ((xs.length : Int) - 1 - (i : Int))))], fun b => [(18, .sl bk 1 0 xs.length), (19, .v (.int .i64 ((xs.length : Int) - 1 - (i : Int))))], fun b => [(20, .ref bk ((0 + (xs.length - 1 - i)) * 1))], fun b => [(0, .sl bk 1 0 xs.length)], fun b => [(2, .v (.int .i64 (i : Int)))], fun b => [(22, .sl bk 1 0 xs.length), (23, .v (.int .i64 (i : Int)))], fun b => [(24, .ref bk ((0 + i) * 1))], fun b => [(14, .sl bk 1 0 xs.length), (15, .v (.int .i64 (i : Int)))], fun b => [(26, .ref bk ((0 + i) * 1)), (21, .v (.int .i64 (((ys[xs.length - 1 - i]) : Nat) : Int)))], fun b => [(16, .sl bk 1 0 xs.length), (17, .v (.int .i64 ((xs.length : Int) - 1 - (i : Int))))], fun b => [(27, .ref bk ((0 + (xs.length - 1 - i)) * 1)), (25, .v (.int .i64 (((ys[i]) : Nat) : Int)))]] (fun b c => match c with | 0 => [(bk, .row 3 1 (ys.map encN))] | 1 => [(bk, .row 3 1 (ys.map encN))] | 2 => [(bk, .row 3 1 ((ys.set i (ys[xs.length - 1 - i])).map encN))] | 3 => [(bk, .row 3 1 ((ys.set i (ys[xs.length - 1 - i])).map encN))] | _ => [(bk, .row 3 1 (((ys.set i (ys[xs.length - 1 - i])).set (xs.length - 1 - i) (ys[i])).map encN))]) [(false, false, [0]), (false, false, [0]), (false, false, [0, 1, 2]), (false, false, [0, 1, 2]), (false, false, [0]), (false, false, [0]), (false, false, [0]), (false, false, [0]), (false, false, [0]), (false, false, [0]), (false, false, [0]), (false, false, [0]), (true, false, [0]), (true, false, [1]), (true, false, [2]), (true, false, [3])] (by kernel_rfl) (fun _ => rfl) rfl (fun _ => rfl) (fun _ => rfl) (cohNone rfl) ?_ ?_
  ·refine MixOk.cons ?_ ?_
   ·refine StgOk.cons (fun b rest => ?_) ?_
    ·refine SOps.move rfl ?_
     exact SOps.nil ⟨b, fun _ => rfl, by first | rfl | simp_all⟩
    exact StgOk.nil
   refine MixOk.cons ?_ ?_
   ·refine StgOk.cons (fun b rest => ?_) ?_
    ·refine SOps.move rfl ?_
     exact SOps.nil ⟨b, fun _ => rfl, by first | rfl | simp_all⟩
    exact StgOk.nil
   refine MixOk.cons ?_ ?_
   ·refine StgOk.cons (fun b rest => ?_) ?_
    ·refine SOps.move rfl ?_
     exact SOps.nil ⟨b, fun _ => rfl, by first | rfl | simp_all⟩
    refine StgOk.cons (fun b rest => ?_) ?_
    ·refine SOps.move rfl ?_
     exact SOps.nil ⟨b, fun _ => rfl, by first | rfl | simp_all⟩
    refine StgOk.cons (fun b rest => ?_) ?_
    ·refine SOps.move rfl ?_
     exact SOps.nil ⟨b, fun _ => rfl, by first | rfl | simp_all⟩
    exact StgOk.nil
   refine MixOk.cons ?_ ?_
   ·refine StgOk.cons (fun b rest => ?_) ?_
    ·refine SOps.move rfl ?_
     exact SOps.nil ⟨b, fun _ => rfl, by first | rfl | simp_all⟩
    refine StgOk.cons (fun b rest => ?_) ?_
    ·refine SOps.move rfl ?_
     exact SOps.nil ⟨b, fun _ => rfl, by first | rfl | simp_all⟩
    refine StgOk.cons (fun b rest => ?_) ?_
    ·refine SOps.move rfl ?_
     exact SOps.nil ⟨b, fun _ => rfl, by first | rfl | simp_all⟩
    exact StgOk.nil
   refine MixOk.cons ?_ ?_
   ·refine StgOk.cons (fun b rest => ?_) ?_
    ·refine SOps.move rfl ?_
     exact SOps.nil ⟨b, fun _ => rfl, by first | rfl | simp_all⟩
    exact StgOk.nil
   refine MixOk.cons ?_ ?_
   ·refine StgOk.cons (fun b rest => ?_) ?_
    ·refine SOps.move rfl ?_
     exact SOps.nil ⟨b, fun _ => rfl, by first | rfl | simp_all⟩
    exact StgOk.nil
   refine MixOk.cons ?_ ?_
   ·refine StgOk.cons (fun b rest => ?_) ?_
    ·refine SOps.indexS ((xs.length - 1 - i)) rfl rfl sliceB_43_3_1 (by first | omega | (simp only [lenB]; omega)) (by first | omega | (simp only [lenB]; omega)) ?_
     exact SOps.nil ⟨b, fun _ => rfl, by first | rfl | simp_all⟩
    exact StgOk.nil
   refine MixOk.cons ?_ ?_
   ·refine StgOk.cons (fun b rest => ?_) ?_
    ·refine SOps.loadK 0 ((xs.length - 1 - i)) rfl flatB_3 rfl (by first | omega | (simp only [lenB]; omega)) (by first | omega | (simp; omega)) rfl ?_
     exact SOps.nil ⟨b, fun _ => rfl, by first | rfl | simp_all⟩
    exact StgOk.nil
   refine MixOk.cons ?_ ?_
   ·refine StgOk.cons (fun b rest => ?_) ?_
    ·refine SOps.move rfl ?_
     exact SOps.nil ⟨b, fun _ => rfl, by first | rfl | simp_all⟩
    exact StgOk.nil
   refine MixOk.cons ?_ ?_
   ·refine StgOk.cons (fun b rest => ?_) ?_
    ·refine SOps.move rfl ?_
     exact SOps.nil ⟨b, fun _ => rfl, by first | rfl | simp_all⟩
    exact StgOk.nil
   refine MixOk.cons ?_ ?_
   ·refine StgOk.cons (fun b rest => ?_) ?_
    ·refine SOps.indexS (i) rfl rfl sliceB_43_3_1 (by first | omega | (simp only [lenB]; omega)) (by first | omega | (simp only [lenB]; omega)) ?_
     exact SOps.nil ⟨b, fun _ => rfl, by first | rfl | simp_all⟩
    exact StgOk.nil
   refine MixOk.cons ?_ ?_
   ·refine StgOk.cons (fun b rest => ?_) ?_
    ·refine SOps.loadK 0 (i) rfl flatB_3 rfl (by first | omega | (simp only [lenB]; omega)) (by first | omega | (simp; omega)) rfl ?_
     exact SOps.nil ⟨b, fun _ => rfl, by first | rfl | simp_all⟩
    exact StgOk.nil
   refine MixOk.cons ?_ ?_
   ·refine StgOk.cons (fun b rest => ?_) ?_
    ·refine SOps.indexS (i) rfl rfl sliceB_43_3_1 (by first | omega | (simp only [lenB]; omega)) (by first | omega | (simp only [lenB]; omega)) ?_
     exact SOps.nil ⟨b, fun _ => rfl, by first | rfl | simp_all⟩
    exact StgOk.nil
   refine MixOk.cons ?_ ?_
   ·refine StgOk.cons (fun b rest => ?_) ?_
    ·refine SOps.storeK 0 (i) rfl rfl oneB_3 rfl (by first | omega | (simp only [lenB]; omega)) (by first | omega | (simp; omega)) rfl (fun _ => rfl) ?_
     exact SOps.nil ⟨b, fun _ => rfl, by first | rfl | simp_all⟩
    exact StgOk.nil
   refine MixOk.cons ?_ ?_
   ·refine StgOk.cons (fun b rest => ?_) ?_
    ·refine SOps.indexS ((xs.length - 1 - i)) rfl rfl sliceB_43_3_1 (by first | omega | (simp only [lenB]; omega)) (by first | omega | (simp only [lenB]; omega)) ?_
     exact SOps.nil ⟨b, fun _ => rfl, by first | rfl | simp_all⟩
    exact StgOk.nil
   refine MixOk.cons ?_ ?_
   ·refine StgOk.cons (fun b rest => ?_) ?_
    ·refine SOps.storeK 0 ((xs.length - 1 - i)) rfl rfl oneB_3 rfl (by first | omega | (simp only [lenB]; omega)) (by first | omega | (simp; omega)) rfl (fun _ => rfl) ?_
     exact SOps.nil ⟨b, fun _ => rfl, by first | rfl | simp_all⟩
    exact StgOk.nil
   exact MixOk.nil
  ·intro bM
   show SCode _ _ _ _
   refine SCode.region (SOps.move rfl (SOps.addI rfl rfl (by first | omega | (simp only [lenB]; omega)) (by first | omega | (simp only [lenB]; omega)) (SOps.move rfl (SOps.subI rfl rfl (by first | omega | (simp only [lenB]; omega)) (by first | omega | (simp only [lenB]; omega)) (SOps.assign rfl (SOps.assign rfl (SOps.nil ?_)))))))
   exact ⟨i + 1, ((ys.set i (ys[xs.length - 1 - i])).set (xs.length - 1 - i) (ys[i])), ⟨by omega, by simp [hyl], rev_step (by omega) hyl hf⟩, by omega, St.Le.of ⟨rfl, rfl, (by show some _ = some _; congr 3; omega), trivial⟩⟩
 ·try simp only [nmL] at hc1
  refine SCode.exit ?_
  obtain rfl := rev_end (by omega) hi hyl hf
  exact ⟨_, Res.none, rfl, rfl⟩
theorem sRevN0   : GCall Tryd.prog E 107 [DNats []] [] (fun d H => d = .v (.tuple #[]) ∧ H = []) := by
 refine GCall.body (C := ⟨Tryd.prog, E, true⟩) Tryd.func107 rfl (fun _ => rfl) (by kernel_rfl) rfl ?_
 refine SCode.seqR (SOps.move rfl (SOps.lenM rfl sliceB_43_3_1 (SOps.subI rfl rfl (by first | omega | (simp; done) | decide) (by first | omega | (simp; done) | decide) (SOps.assign rfl (SOps.assign rfl (SOps.nil (SCode.block (SCode.loop1 (fun (i : Nat) => (⟨28, [(0, DNats []), (2, .v (.int .i64 0)), (3, .v (.int .i64 (((([] : List Nat).length : Nat) : Int) - 1)))], []⟩ : St)) (fun (i : Nat) => True) (fun (i : Nat) => 0) (0) (by trivial) (St.Le.of ⟨(by first | rfl | (show some _ = some _; simp)), (by first | rfl | (show some _ = some _; simp)), (by first | rfl | (show some _ = some _; simp)), trivial⟩ rfl (by first | rfl | (simp))) ?_))))))))
 rintro i -
 refine SCode.seq (SCode.seqR (SOps.move rfl (SOps.move rfl (SOps.bin rfl rfl rfl (SOps.nil ?_)))))
 refine SCode.cond rfl (fun hc1 => ?_) (fun hc1 => ?_)
 ·try simp only [nmL] at hc1
  exact absurd hc1 (by decide)
 ·try simp only [nmL] at hc1
  refine SCode.exit ?_
  exact ⟨_, Res.none, rfl, rfl⟩
theorem sRevN (xs : List Nat) (b : Nat) (hx : xs.length ≤ 1048576) : GCall Tryd.prog E 107 [accI 1 b (xs.map encN)] (accH 3 1 b (xs.map encN)) (fun d H => d = .v (.tuple #[]) ∧ H = accH 3 1 b (xs.reverse.map encN)) := by
  cases xs with
  | nil => exact sRevN0
  | cons x xs =>
    have e : accI 1 b ((x :: xs).map encN) = .sl b 1 0 (x :: xs).length := by simp [accI]
    rw [e]
    refine GCall.mono (sRevNC (E := E) (x :: xs) b hx) (fun d H h => ⟨h.1, h.2.trans ?_⟩)
    cases hr : (x :: xs).reverse with
    | nil => simp at hr
    | cons y ys => rfl
theorem sRevTC (xs : List Item) (bk : Nat) (hx : xs.length ≤ 1048576) : GCall Tryd.prog E 106 [.sl bk 4 0 xs.length] [(bk, .row 87 4 (xs.map encIt))] (fun d H => d = .v (.tuple #[]) ∧ H = [(bk, .row 87 4 (xs.reverse.map encIt))]) := by
 refine GCall.body (C := ⟨Tryd.prog, E, false⟩) Tryd.func106 rfl (fun h => by cases h) (by kernel_rfl) rfl ?_
 refine SCode.seqR (SOps.move rfl (SOps.lenSl rfl sliceB_45_87_4 (SOps.subI rfl rfl (by first | omega | (simp only [lenB]; omega)) (by first | omega | (simp only [lenB]; omega)) (SOps.assign rfl (SOps.assign rfl (SOps.nil (SCode.block ?_)))))))
 refine SCode.loop2 (fun (i : Nat) (ys : List Item) => (⟨28, [(0, .sl bk 4 0 xs.length), (2, .v (.int .i64 (i : Int))), (3, .v (.int .i64 ((xs.length : Int) - 1 - (i : Int))))], [(bk, .row 87 4 (ys.map encIt))]⟩ : St)) (fun (i : Nat) (ys : List Item) => 2 * i ≤ xs.length + 1 ∧ ys.length = xs.length ∧ ∀ (k : Nat) (h : k < xs.length), ys[k]? = some (if k < i ∨ xs.length - 1 - k < i then xs[xs.length - 1 - k]'(by omega) else xs[k])) (fun (i : Nat) (ys : List Item) => xs.length - i) (0) (xs) (by exact ⟨by omega, rfl, fun k h => by rw [if_neg (by omega)]; exact List.getElem?_eq_getElem h⟩) (St.Le.of ⟨(by first | rfl | (show some _ = some _; simp)), (by first | rfl | (show some _ = some _; simp)), (by first | rfl | (show some _ = some _; simp)), trivial⟩ rfl (by first | rfl | (simp))) ?_
 rintro i ys ⟨hi, hyl, hf⟩
 refine SCode.seq (SCode.seqR (SOps.move rfl (SOps.move rfl (SOps.bin rfl rfl rfl (SOps.nil ?_)))))
 refine SCode.cond rfl (fun hc1 => ?_) (fun hc1 => ?_)
 ·try simp only [nmL] at hc1
  refine SCode.skip ?_
  show SCode _ _ _ _
  refine SCode.seq (SCode.block ?_)
  have hi3 : i < xs.length - 1 - i := by omega
  have hjl : xs.length - 1 - i < ys.length := by omega
  have hil : i < ys.length := by omega
  refine SCode.weaken (st' := (⟨28, [(0, .sl bk 4 0 xs.length), (2, .v (.int .i64 (i : Int))), (3, .v (.int .i64 ((xs.length : Int) - 1 - (i : Int))))], [(bk, .row 87 4 (ys.map encIt))]⟩ : St)) (St.Le.of ⟨rfl, rfl, rfl, trivial⟩) ?_
  refine SCode.drawMix 17 [12, 13, 14, 15] mixed_ [fun b => some (14, .sl bk 4 0 xs.length), fun b => some (15, .v (.int .i64 (i : Int))), fun b => some (16, .sl bk 4 0 xs.length), fun b => some (17, .v (.int .i64 ((xs.length : Int) - 1 - (i : Int)))), fun b => some (18, .sl bk 4 0 xs.length), fun b => some (19, .v (.int .i64 ((xs.length : Int) - 1 - (i : Int)))), fun b => some (20, .ref bk ((0 + (xs.length - 1 - i)) * 4)), fun b => some (21, .agg (encIt (ys[xs.length - 1 - i]))), fun b => some (22, .sl bk 4 0 xs.length), fun b => some (23, .v (.int .i64 (i : Int))), fun b => some (24, .ref bk ((0 + i) * 4)), fun b => some (25, .agg (encIt (ys[i]))), fun b => some (26, .ref bk ((0 + i) * 4)), fun b => none, fun b => some (27, .ref bk ((0 + (xs.length - 1 - i)) * 4)), fun b => none] [some 14, some 15, some 16, some 17, some 18, some 19, some 20, some 21, some 22, some 23, some 24, some 25, some 26, none, some 27, none] [[.inr 0], [.inr 2], [.inr 0], [.inr 3], [.inr 0], [.inr 3], [.inl 4, .inl 5], [.inl 6], [.inr 0], [.inr 2], [.inl 8, .inl 9], [.inl 10], [.inl 0, .inl 1], [.inl 12, .inl 7], [.inl 2, .inl 3], [.inl 14, .inl 11]] [fun b => [(0, .sl bk 4 0 xs.length)], fun b => [(2, .v (.int .i64 (i : Int)))], fun b => [(0, .sl bk 4 0 xs.length)], fun b => [(3, .v (.int .i64 ((xs.length : Int) - 1 - (i : Int))))], fun b => [(0, .sl bk 4 0 xs.length)], fun b => [(3, .v (.int .i64 ((xs.length : Int) - 1 - (i : Int))))], fun b => [(18, .sl bk 4 0 xs.length), (19, .v (.int .i64 ((xs.length : Int) - 1 - (i : Int))))], fun b => [(20, .ref bk ((0 + (xs.length - 1 - i)) * 4))], fun b => [(0, .sl bk 4 0 xs.length)], fun b => [(2, .v (.int .i64 (i : Int)))], fun b => [(22, .sl bk 4 0 xs.length), (23, .v (.int .i64 (i : Int)))], fun b => [(24, .ref bk ((0 + i) * 4))], fun b => [(14, .sl bk 4 0 xs.length), (15, .v (.int .i64 (i : Int)))], fun b => [(26, .ref bk ((0 + i) * 4)), (21, .agg (encIt (ys[xs.length - 1 - i])))], fun b => [(16, .sl bk 4 0 xs.length), (17, .v (.int .i64 ((xs.length : Int) - 1 - (i : Int))))], fun b => [(27, .ref bk ((0 + (xs.length - 1 - i)) * 4)), (25, .agg (encIt (ys[i])))]] (fun b c => match c with | 0 => [(bk, .row 87 4 (ys.map encIt))] | 1 => [(bk, .row 87 4 (ys.map encIt))] | 2 => [(bk, .row 87 4 ((ys.set i (ys[xs.length - 1 - i])).map encIt))] | 3 => [(bk, .row 87 4 ((ys.set i (ys[xs.length - 1 - i])).map encIt))] | _ => [(bk, .row 87 4 (((ys.set i (ys[xs.length - 1 - i])).set (xs.length - 1 - i) (ys[i])).map encIt))]) [(false, false, [0]), (false, false, [0]), (false, false, [0, 1, 2]), (false, false, [0, 1, 2]), (false, false, [0]), (false, false, [0]), (false, false, [0]), (false, false, [0]), (false, false, [0]), (false, false, [0]), (false, false, [0]), (false, false, [0]), (true, false, [0]), (true, false, [1]), (true, false, [2]), (true, false, [3])] (by kernel_rfl) (fun _ => rfl) rfl (fun _ => rfl) (fun _ => rfl) (cohNone rfl) ?_ ?_
  ·refine MixOk.cons ?_ ?_
   ·refine StgOk.cons (fun b rest => ?_) ?_
    ·refine SOps.move rfl ?_
     exact SOps.nil ⟨b, fun _ => rfl, by first | rfl | simp_all⟩
    exact StgOk.nil
   refine MixOk.cons ?_ ?_
   ·refine StgOk.cons (fun b rest => ?_) ?_
    ·refine SOps.move rfl ?_
     exact SOps.nil ⟨b, fun _ => rfl, by first | rfl | simp_all⟩
    exact StgOk.nil
   refine MixOk.cons ?_ ?_
   ·refine StgOk.cons (fun b rest => ?_) ?_
    ·refine SOps.move rfl ?_
     exact SOps.nil ⟨b, fun _ => rfl, by first | rfl | simp_all⟩
    refine StgOk.cons (fun b rest => ?_) ?_
    ·refine SOps.move rfl ?_
     exact SOps.nil ⟨b, fun _ => rfl, by first | rfl | simp_all⟩
    refine StgOk.cons (fun b rest => ?_) ?_
    ·refine SOps.move rfl ?_
     exact SOps.nil ⟨b, fun _ => rfl, by first | rfl | simp_all⟩
    exact StgOk.nil
   refine MixOk.cons ?_ ?_
   ·refine StgOk.cons (fun b rest => ?_) ?_
    ·refine SOps.move rfl ?_
     exact SOps.nil ⟨b, fun _ => rfl, by first | rfl | simp_all⟩
    refine StgOk.cons (fun b rest => ?_) ?_
    ·refine SOps.move rfl ?_
     exact SOps.nil ⟨b, fun _ => rfl, by first | rfl | simp_all⟩
    refine StgOk.cons (fun b rest => ?_) ?_
    ·refine SOps.move rfl ?_
     exact SOps.nil ⟨b, fun _ => rfl, by first | rfl | simp_all⟩
    exact StgOk.nil
   refine MixOk.cons ?_ ?_
   ·refine StgOk.cons (fun b rest => ?_) ?_
    ·refine SOps.move rfl ?_
     exact SOps.nil ⟨b, fun _ => rfl, by first | rfl | simp_all⟩
    exact StgOk.nil
   refine MixOk.cons ?_ ?_
   ·refine StgOk.cons (fun b rest => ?_) ?_
    ·refine SOps.move rfl ?_
     exact SOps.nil ⟨b, fun _ => rfl, by first | rfl | simp_all⟩
    exact StgOk.nil
   refine MixOk.cons ?_ ?_
   ·refine StgOk.cons (fun b rest => ?_) ?_
    ·refine SOps.indexS ((xs.length - 1 - i)) rfl rfl sliceB_45_87_4 (by first | omega | (simp only [lenB]; omega)) (by first | omega | (simp only [lenB]; omega)) ?_
     exact SOps.nil ⟨b, fun _ => rfl, by first | rfl | simp_all⟩
    exact StgOk.nil
   refine MixOk.cons ?_ ?_
   ·refine StgOk.cons (fun b rest => ?_) ?_
    ·refine SOps.loadAK 0 ((xs.length - 1 - i)) rfl aggB_87_4 rfl (by first | omega | (simp only [lenB]; omega)) (by first | omega | (simp; omega)) rfl ?_
     exact SOps.nil ⟨b, fun _ => rfl, by first | rfl | simp_all⟩
    exact StgOk.nil
   refine MixOk.cons ?_ ?_
   ·refine StgOk.cons (fun b rest => ?_) ?_
    ·refine SOps.move rfl ?_
     exact SOps.nil ⟨b, fun _ => rfl, by first | rfl | simp_all⟩
    exact StgOk.nil
   refine MixOk.cons ?_ ?_
   ·refine StgOk.cons (fun b rest => ?_) ?_
    ·refine SOps.move rfl ?_
     exact SOps.nil ⟨b, fun _ => rfl, by first | rfl | simp_all⟩
    exact StgOk.nil
   refine MixOk.cons ?_ ?_
   ·refine StgOk.cons (fun b rest => ?_) ?_
    ·refine SOps.indexS (i) rfl rfl sliceB_45_87_4 (by first | omega | (simp only [lenB]; omega)) (by first | omega | (simp only [lenB]; omega)) ?_
     exact SOps.nil ⟨b, fun _ => rfl, by first | rfl | simp_all⟩
    exact StgOk.nil
   refine MixOk.cons ?_ ?_
   ·refine StgOk.cons (fun b rest => ?_) ?_
    ·refine SOps.loadAK 0 (i) rfl aggB_87_4 rfl (by first | omega | (simp only [lenB]; omega)) (by first | omega | (simp; omega)) rfl ?_
     exact SOps.nil ⟨b, fun _ => rfl, by first | rfl | simp_all⟩
    exact StgOk.nil
   refine MixOk.cons ?_ ?_
   ·refine StgOk.cons (fun b rest => ?_) ?_
    ·refine SOps.indexS (i) rfl rfl sliceB_45_87_4 (by first | omega | (simp only [lenB]; omega)) (by first | omega | (simp only [lenB]; omega)) ?_
     exact SOps.nil ⟨b, fun _ => rfl, by first | rfl | simp_all⟩
    exact StgOk.nil
   refine MixOk.cons ?_ ?_
   ·refine StgOk.cons (fun b rest => ?_) ?_
    ·refine SOps.storeAK 0 (i) rfl rfl aggB_87_4 rfl (by first | omega | (simp only [lenB]; omega)) (by first | omega | (simp; omega)) rfl ?_ rfl
     exact SOps.nil ⟨b, fun _ => rfl, by first | rfl | simp_all⟩
    exact StgOk.nil
   refine MixOk.cons ?_ ?_
   ·refine StgOk.cons (fun b rest => ?_) ?_
    ·refine SOps.indexS ((xs.length - 1 - i)) rfl rfl sliceB_45_87_4 (by first | omega | (simp only [lenB]; omega)) (by first | omega | (simp only [lenB]; omega)) ?_
     exact SOps.nil ⟨b, fun _ => rfl, by first | rfl | simp_all⟩
    exact StgOk.nil
   refine MixOk.cons ?_ ?_
   ·refine StgOk.cons (fun b rest => ?_) ?_
    ·refine SOps.storeAK 0 ((xs.length - 1 - i)) rfl rfl aggB_87_4 rfl (by first | omega | (simp only [lenB]; omega)) (by first | omega | (simp; omega)) rfl ?_ rfl
     exact SOps.nil ⟨b, fun _ => rfl, by first | rfl | simp_all⟩
    exact StgOk.nil
   exact MixOk.nil
  ·intro bM
   show SCode _ _ _ _
   refine SCode.region (SOps.move rfl (SOps.addI rfl rfl (by first | omega | (simp only [lenB]; omega)) (by first | omega | (simp only [lenB]; omega)) (SOps.move rfl (SOps.subI rfl rfl (by first | omega | (simp only [lenB]; omega)) (by first | omega | (simp only [lenB]; omega)) (SOps.assign rfl (SOps.assign rfl (SOps.nil ?_)))))))
   exact ⟨i + 1, ((ys.set i (ys[xs.length - 1 - i])).set (xs.length - 1 - i) (ys[i])), ⟨by omega, by simp [hyl], rev_step (by omega) hyl hf⟩, by omega, St.Le.of ⟨rfl, rfl, (by show some _ = some _; congr 3; omega), trivial⟩⟩
 ·try simp only [nmL] at hc1
  refine SCode.exit ?_
  obtain rfl := rev_end (by omega) hi hyl hf
  exact ⟨_, Res.none, rfl, rfl⟩
theorem sRevT0   : GCall Tryd.prog E 106 [DIts []] [] (fun d H => d = .v (.tuple #[]) ∧ H = []) := by
 refine GCall.body (C := ⟨Tryd.prog, E, true⟩) Tryd.func106 rfl (fun _ => rfl) (by kernel_rfl) rfl ?_
 refine SCode.seqR (SOps.move rfl (SOps.lenM rfl sliceB_45_87_4 (SOps.subI rfl rfl (by first | omega | (simp; done) | decide) (by first | omega | (simp; done) | decide) (SOps.assign rfl (SOps.assign rfl (SOps.nil (SCode.block (SCode.loop1 (fun (i : Nat) => (⟨28, [(0, DIts []), (2, .v (.int .i64 0)), (3, .v (.int .i64 (((([] : List Item).length : Nat) : Int) - 1)))], []⟩ : St)) (fun (i : Nat) => True) (fun (i : Nat) => 0) (0) (by trivial) (St.Le.of ⟨(by first | rfl | (show some _ = some _; simp)), (by first | rfl | (show some _ = some _; simp)), (by first | rfl | (show some _ = some _; simp)), trivial⟩ rfl (by first | rfl | (simp))) ?_))))))))
 rintro i -
 refine SCode.seq (SCode.seqR (SOps.move rfl (SOps.move rfl (SOps.bin rfl rfl rfl (SOps.nil ?_)))))
 refine SCode.cond rfl (fun hc1 => ?_) (fun hc1 => ?_)
 ·try simp only [nmL] at hc1
  exact absurd hc1 (by decide)
 ·try simp only [nmL] at hc1
  refine SCode.exit ?_
  exact ⟨_, Res.none, rfl, rfl⟩
theorem sRevT (xs : List Item) (b : Nat) (hx : xs.length ≤ 1048576) : GCall Tryd.prog E 106 [accI 4 b (xs.map encIt)] (accH 87 4 b (xs.map encIt)) (fun d H => d = .v (.tuple #[]) ∧ H = accH 87 4 b (xs.reverse.map encIt)) := by
  cases xs with
  | nil => exact sRevT0
  | cons x xs =>
    have e : accI 4 b ((x :: xs).map encIt) = .sl b 4 0 (x :: xs).length := by simp [accI]
    rw [e]
    refine GCall.mono (sRevTC (E := E) (x :: xs) b hx) (fun d H h => ⟨h.1, h.2.trans ?_⟩)
    cases hr : (x :: xs).reverse with
    | nil => simp at hr
    | cons y ys => rfl
theorem sClone (p : List Item) (hp : p.length ≤ 1048576) : GCall Tryd.prog E 105 [DIts p] [] (fun d H => ∃ b, d = accI 4 b (p.map encIt) ∧ H = accH 87 4 b (p.map encIt)) := by
  cases p with
  | nil => exact (sClone0 [] rfl hp).mono (fun d H h => ⟨0, h.1, h.2⟩)
  | cons x p =>
    refine (sCloneC (x :: p) (by simp) hp).mono (fun d H ⟨b, h1, h2⟩ => ⟨b, h1.trans ?_, h2⟩)
    simp [accI]
def suffixesP (a : List Letter) (p : List Item) (s : ByteArray) : List Nat := if validPat a p && overA a s then lens (admF a) p.reverse (idxs a s).reverse else []
theorem pSuffixes0 (hV : VS E) (a : List Letter) (p : List Item) (s : ByteArray) (hp : ∀ x ∈ p, x.lets.size ≤ 1048576) (hs : s.size ≤ 1048576) : GCall Tryd.prog E 101 [DLs a, DIts p, .v (.string s)] [] (fun d H => d = (if (validPat a p && overA a s) then DNats (lens (admF a) p.reverse (idxs a s).reverse) else .v (.slice none 0 0)) ∧ H = []) := by
 refine GCall.body (C := ⟨Tryd.prog, E, true⟩) Tryd.func101 rfl (fun _ => rfl) (by kernel_rfl) rfl ?_
 refine SCode.seqR (SOps.assign rfl (SOps.nil (SCode.seqR (SOps.move rfl (SOps.move rfl (SOps.move rfl ?_))))))
 rcases hva : (validPat a p && overA a s) with _ | _
 ·refine SOps.callH [] [] [] (pReadO hV a p s hp hs) rfl rfl (fun d H hR => ?_)
  obtain ⟨rfl, rfl⟩ := hR.2 hva
  refine SOps.move rfl (SOps.extract rfl rfl (SOps.extract rfl rfl (SOps.assign rfl (SOps.assign rfl (SOps.nil (SCode.seq (SCode.seqR (SOps.move rfl (SOps.un rfl rfl (SOps.nil ?_))))))))))
  refine SCode.cond rfl (fun _ => ?_) (fun h => by cases h)
  refine SCode.seqR (SOps.assign rfl (SOps.nil (SCode.ret ?_)))
  exact ⟨_, Res.one (.tmp rfl), by first | rfl | (rw [hva]; rfl), rfl⟩
 ·have hva2 := (Bool.and_eq_true _ _).mp hva
  have hvl := validPat_len hva2.1
  have hil := idxs_len a s
  have hlt := idxs_lt hva2.2
  refine SOps.callH [] [] [] (pReadO hV a p s hp hs) rfl rfl (fun d H hR => ?_)
  obtain ⟨c, rfl, rfl⟩ := hR.1 hva
  refine SOps.move rfl (SOps.extract rfl rfl (SOps.extract rfl rfl (SOps.assign rfl (SOps.assign rfl (SOps.nil (SCode.seq (SCode.seqR (SOps.move rfl (SOps.un rfl rfl (SOps.nil ?_))))))))))
  refine SCode.cond rfl (fun h => by cases h) (fun _ => ?_)
  refine SCode.skip ?_
  show SCode _ _ _ _
  refine SCode.seqR (SOps.move rfl ?_)
  refine SOps.callH [] [] _ (sClone p (by omega)) rfl rfl (fun d H hR => ?_)
  obtain ⟨cb, rfl, rfl⟩ := hR
  refine SOps.assign rfl (SOps.nil (SCode.seqR (SOps.move rfl ?_)))
  refine SOps.callH [] _ _ (sRevT p cb (by omega)) rfl rfl (fun d H hR => ?_)
  obtain ⟨rfl, rfl⟩ := hR
  refine SOps.nil (SCode.seqR (SOps.accDI (t := 7) rfl (SOps.move rfl ?_)))
  refine SOps.callH (accH 87 4 cb (p.reverse.map encIt)) (accH 3 1 c ((idxs a s).map encN)) [] (sRevN (idxs a s) c (by omega)) rfl rfl (fun d H hR => ?_)
  obtain ⟨rfl, rfl⟩ := hR
  refine SOps.nil (SCode.seqR (SOps.reSlot (t := 9) rfl (show _ = accI 4 cb (p.reverse.map encIt) from accI_len (by simp)) (SOps.reSlot (t := 7) rfl (show _ = accI 1 c ((idxs a s).reverse.map encN) from accI_len (by simp)) (SOps.freezeAccI (t := 9) [] (accH 3 1 c ((idxs a s).reverse.map encN) ++ []) rfl rfl rfl (SOps.freezeAccI (t := 7) [] [] rfl rfl rfl (SOps.move rfl (SOps.move rfl (SOps.move rfl (SOps.callP (pLengths a p.reverse (idxs a s).reverse (by simp; omega) (by omega) (by simp; omega) (fun c hc => hlt c (List.mem_reverse.1 hc))) rfl ?_)))))))))
  rintro _ rfl
  refine SOps.assign rfl (SOps.nil (SCode.ret ?_))
  exact ⟨_, Res.one (.tmp rfl), by first | rfl | (rw [hva]; rfl), rfl⟩
theorem pSuffixes (hV : VS E) (a : List Letter) (p : List Item) (s : ByteArray) (hp : ∀ x ∈ p, x.lets.size ≤ 1048576) (hs : s.size ≤ 1048576) : GCall Tryd.prog E 101 [DLs a, DIts p, .v (.string s)] [] (fun d H => d = DNats (suffixesP a p s) ∧ H = []) :=
  (pSuffixes0 hV a p s hp hs).nilI.mono (fun d H h => ⟨h.1.trans (by unfold suffixesP; split <;> rfl), h.2⟩)
end Go.GH
namespace Go.GH
open Go

structure Rule where
  fr : Int
  «to» : ByteArray
  left : List Item
  right : List Item
  ini : Bool
  fin : Bool
def encR (r : Rule) : List DV := [.v (.int .i32 r.fr), .v (.string r.«to»), DIts r.left, DIts r.right, .v (.bool r.ini), .v (.bool r.fin)]
abbrev DRs (l : List Rule) : DV := .isl false 6 (l.map encR)
/-- No string of a rule is long. -/
def SmR (r : Rule) : Prop := r.«to».size ≤ 1048576 ∧ (∀ x ∈ r.left, x.lets.size ≤ 1048576) ∧ (∀ x ∈ r.right, x.lets.size ≤ 1048576)
def validR (a : List Letter) (r : Rule) : Bool := admA a && (decide (r.fr = 0) || (idx a r.fr).isSome) && consS a 4 r.«to» && validPat a r.left && validPat a r.right
def rAdm (a : List Letter) (x : Item) (r : Int) : Bool := match idx a r with
  | none => false
  | some k => admB x (atL a k)
def Mr (a : List Letter) (p : List Item) (w : List Int) : Bool := M (rAdm a) p w
def leftR (a : List Letter) (r : Rule) (w : List Int) : Bool := if r.ini then Mr a r.left w else (List.range (w.length + 1)).any (fun i => Mr a r.left (w.drop i))
def rightR (a : List Letter) (r : Rule) (w : List Int) : Bool := if r.fin then Mr a r.right w else (List.range (w.length + 1)).any (fun i => Mr a r.right (w.take i))
def followsR (a : List Letter) (r : Rule) (s : ByteArray) : Bool := if r.ini then matchesP a r.left s else decide (0 < (suffixesP a r.left s).length)
def precedesR (a : List Letter) (r : Rule) (s : ByteArray) : Bool := if r.fin then matchesP a r.right s else decide (0 < (prefixesP a r.right s).length)
def allL (a : List Letter) (s : ByteArray) : Bool := (runes s).all (fun r => (idx a r).isSome)
theorem consS_eq (a : List Letter) (n : Nat) (s : ByteArray) : consS a n s = (utf8R s && decide ((runes s).length ≤ n) && allL a s) := rfl
theorem overA_eq (a : List Letter) (s : ByteArray) : overA a s = (utf8R s && allL a s) := rfl
theorem admA_proper {a : List Letter} (h : admA a = true) : properB a = true ∧ 1 ≤ a.length ∧ a.length ≤ 65 := by
  simp only [admA, Bool.and_eq_true, decide_eq_true_eq] at h
  exact ⟨h.2, h.1.1, h.1.2⟩
def patB (a : List Letter) (p : List Item) : Bool := decide (p.length ≤ 3) && p.all (fun x => overA a x.lets)
theorem validPat_adm {a : List Letter} (h : admA a = true) (p : List Item) : validPat a p = patB a p := by
  unfold patB
  obtain ⟨h1, _, h3⟩ := admA_proper h
  rw [validPat, h1, decide_eq_true h3]; rfl
theorem idx_self {a : List Letter} {i : Nat} (h : i < a.length) : (idx a (a[i]).rune = some i) ↔ idx (a.take i) (a[i]).rune = none := by
  constructor
  · intro e
    rw [idx_none]
    intro l hl e2
    obtain ⟨j, hj, rfl⟩ := List.mem_iff_getElem.1 hl
    rw [List.getElem_take] at e2
    simp only [List.length_take] at hj
    have hd := List.findIdx?_eq_some_iff_getElem.1 (show a.findIdx? (fun l => l.rune == (a[i]).rune) = some i from e)
    obtain ⟨_, _, h3⟩ := hd
    have := h3 j (by omega)
    simp [e2] at this
  · intro e
    rw [idx_none] at e
    exact idx_drop e h rfl
end Go.GH
