/-
  Letters as plain data: how they are encoded, how they are looked up. Proved here: laws of plain lists. No conditions.
-/
import Derived.Test.YtjcihlpjlpackaaDoorGn
set_option linter.unusedVariables false
set_option linter.unusedSimpArgs false
namespace Go.GH
open Go

structure Letter where
  rune : Int
  cls : Int
def encL (l : Letter) : List DV := [.v (.int .i32 l.rune), .v (.int .u32 l.cls)]
abbrev DLs (a : List Letter) : DV := .isl false 2 (a.map encL)
def encS (s : ByteArray) : List DV := [.v (.string s)]
def encN (n : Nat) : List DV := [.v (.int .i64 (n : Int))]
def encI (n : Int) : List DV := [.v (.int .i64 n)]
def encB (b : Bool) : List DV := [.v (.bool b)]
def encU (n : Int) : List DV := [.v (.int .u32 n)]
abbrev DInts (l : List Int) : DV := .isl false 1 (l.map encI)
abbrev DNats (l : List Nat) : DV := .isl false 1 (l.map encN)
abbrev DStrs (l : List ByteArray) : DV := .isl false 1 (l.map encS)
abbrev DBools (l : List Bool) : DV := .isl false 1 (l.map encB)
abbrev DRunes (l : List Int) : DV := .isl false 1 (l.map rcell)
abbrev DMasks (l : List Int) : DV := .isl false 1 (l.map encU)

def idx (a : List Letter) (r : Int) : Option Nat := a.findIdx? (fun l => l.rune == r)
def idxI (a : List Letter) (r : Int) : Int := match idx a r with
  | some i => (i : Int)
  | none => -1
def clsOf (a : List Letter) (r : Int) : Int := match a.find? (fun l => l.rune == r) with
  | some l => l.cls
  | none => 0
theorem idx_nil (r : Int) : idx [] r = none := rfl
theorem idx_cons (l : Letter) (a : List Letter) (r : Int) : idx (l :: a) r = if l.rune = r then some 0 else (idx a r).map (· + 1) := by
  simp only [idx, List.findIdx?_cons, beq_iff_eq]
theorem idx_spec {r : Int} : ∀ {a : List Letter} {i : Nat}, idx a r = some i → ∃ h : i < a.length, (a[i]'h).rune = r ∧ clsOf a r = (a[i]'h).cls
  | [], _, h => by simp [idx_nil] at h
  | l :: a, i, h => by
    rw [idx_cons] at h
    split at h
    · rename_i e
      obtain rfl := Option.some.inj h
      exact ⟨by simp, e, by simp [clsOf, e]⟩
    · rename_i e
      obtain ⟨j, hj, rfl⟩ := Option.map_eq_some_iff.1 h
      obtain ⟨h1, h2, h3⟩ := idx_spec hj
      refine ⟨by simpa using h1, by simpa using h2, ?_⟩
      have : clsOf (l :: a) r = clsOf a r := by simp [clsOf, e]
      rw [this]; simpa using h3
theorem idx_none {r : Int} {a : List Letter} : idx a r = none ↔ ∀ l ∈ a, l.rune ≠ r := by
  simp [idx, List.findIdx?_eq_none_iff]
theorem clsOf_none {r : Int} {a : List Letter} (h : idx a r = none) : clsOf a r = 0 := by
  have : a.find? (fun l => l.rune == r) = none := List.find?_eq_none.2 (fun l hl => by simpa using idx_none.1 h l hl)
  simp [clsOf, this]
theorem idx_lt {a : List Letter} {r : Int} {i : Nat} (h : idx a r = some i) : i < a.length := (idx_spec h).1
theorem idxI_some {a : List Letter} {r : Int} {i : Nat} (h : idx a r = some i) : idxI a r = i := by simp [idxI, h]
theorem idxI_none {a : List Letter} {r : Int} (h : idx a r = none) : idxI a r = -1 := by simp [idxI, h]
theorem idxI_nonneg {a : List Letter} {r : Int} : 0 ≤ idxI a r ↔ ∃ i, idx a r = some i := by
  unfold idxI
  cases idx a r <;> simp
/-- The first i letters have not the rune r; so the search goes on behind them. -/
theorem idx_drop {a : List Letter} {r : Int} {i : Nat} (h : ∀ l ∈ a.take i, l.rune ≠ r) (hi : i < a.length) (e : (a[i]'hi).rune = r) : idx a r = some i := by
  induction a generalizing i with
  | nil => simp at hi
  | cons l a ih =>
    rw [idx_cons]
    cases i with
    | zero => rw [if_pos (by simpa using e)]
    | succ i =>
      rw [if_neg (h l (by simp)), ih (i := i) (fun x hx => h x (by simp [hx])) (by simpa using hi) (by simpa using e)]
      rfl
theorem take_more {α : Type} {p : α → Prop} {a : List α} {i : Nat} (h : ∀ l ∈ a.take i, p l) (hi : i < a.length) (e : p (a[i]'hi)) : ∀ l ∈ a.take (i + 1), p l := by
  intro l hl
  rw [List.take_add_one, List.getElem?_eq_getElem hi] at hl
  rcases List.mem_append.1 hl with hl | hl
  · exact h l hl
  · simp at hl; subst hl; exact e

/-! #### the map of first places -/
def mapAdd (es : List (Int × Nat)) (r : Int) (i : Nat) : List (Int × Nat) := if es.any (·.1 == r) then es else es ++ [(r, i)]
/-- The entries after the letters of a, of which the first has place n. -/
def mapFrom : List Letter → Nat → List (Int × Nat) → List (Int × Nat)
  | [], _, es => es
  | l :: a, n, es => mapFrom a (n + 1) (mapAdd es l.rune n)
def mapOf (a : List Letter) : List (Int × Nat) := mapFrom a 0 []
def encE (p : Int × Nat) : Value × DV := (.int .i32 p.1, .v (.int .i64 (p.2 : Int)))
abbrev DMap (a : List Letter) : DV := .imap ((mapOf a).map encE)
def findE (es : List (Int × Nat)) (r : Int) : Option Nat := (es.find? (·.1 == r)).map (·.2)
theorem lookup_enc (es : List (Int × Nat)) (r : Int) : lookupL (es.map encE) (.int .i32 r) = (findE es r).map (fun i : Nat => DV.v (.int .i64 (i : Int))) := by
  induction es with
  | nil => rfl
  | cons p es ih =>
    simp only [List.map_cons, lookupL, findE, List.find?_cons, encE, sameKey]
    by_cases h : p.1 = r
    · simp [h]
    · have h1 : (p.1 == r) = false := by simpa using h
      have h2 : (r == p.1) = false := by simpa using (fun e => h e.symm)
      simp only [h1, h2, beq_self_eq_true, Bool.true_and]
      simpa [findE] using ih
theorem keys_enc (es : List (Int × Nat)) : ∀ p ∈ es.map encE, isKey (.int .i32) p.1 = true := fun p hp => by
  obtain ⟨q, _, rfl⟩ := List.mem_map.1 hp
  rfl
theorem findE_none {es : List (Int × Nat)} {r : Int} : findE es r = none ↔ es.any (·.1 == r) = false := by
  simp [findE, List.find?_eq_none]
theorem upd_enc (es : List (Int × Nat)) (r : Int) (i : Nat) (h : findE es r = none) : updL (es.map encE) (.int .i32 r) (.v (.int .i64 (i : Int))) = (mapAdd es r i).map encE := by
  have h1 := lookup_enc es r
  rw [h] at h1
  rcases lookupL_spec (k := .int .i32 r) (d := .int .i32) rfl (es.map encE) (keys_enc es) with ⟨_, _, h3⟩ | ⟨j, x, h4, h5, _⟩
  · rw [h3, mapAdd, if_neg (by rw [findE_none.1 h]; simp), List.map_append]
    rfl
  · rw [h5] at h1; cases h1
theorem findE_mapFrom (r : Int) : ∀ (a : List Letter) (n : Nat) (es : List (Int × Nat)), findE (mapFrom a n es) r = match findE es r with
    | some i => some i
    | none => (idx a r).map (· + n)
  | [], n, es => by simp [mapFrom, idx_nil]; cases findE es r <;> rfl
  | l :: a, n, es => by
    rw [mapFrom, findE_mapFrom r a (n + 1), idx_cons]
    have hadd : findE (mapAdd es l.rune n) r = match findE es r with
        | some i => some i
        | none => if l.rune = r then some n else none := by
      unfold mapAdd
      split
      · rename_i hk
        cases hf : findE es r with
        | some i => rfl
        | none =>
          have := findE_none.1 hf
          by_cases e : l.rune = r
          · subst e; rw [this] at hk; cases hk
          · simp [e]
      · rename_i hk
        simp only [findE, List.find?_append]
        cases hf : es.find? (·.1 == r) with
        | some p => simp
        | none => by_cases e : l.rune = r <;> simp [e]
    rw [hadd]
    cases hf : findE es r with
    | some i => rfl
    | none =>
      by_cases e : l.rune = r
      · simp [e]
      · simp only [e, if_false]
        cases idx a r <;> simp; omega
theorem findE_mapOf (a : List Letter) (r : Int) : findE (mapOf a) r = idx a r := by
  rw [mapOf, findE_mapFrom]
  simp [findE]
theorem lookup_mapOf (a : List Letter) (r : Int) : lookupL ((mapOf a).map encE) (.int .i32 r) = (idx a r).map (fun i : Nat => DV.v (.int .i64 (i : Int))) := by
  rw [lookup_enc, findE_mapOf]
theorem mapFrom_len : ∀ (a : List Letter) (n : Nat) (es : List (Int × Nat)), (mapFrom a n es).length ≤ es.length + a.length
  | [], n, es => by simp [mapFrom]
  | l :: a, n, es => by
    have h := mapFrom_len a (n + 1) (mapAdd es l.rune n)
    have h2 : (mapAdd es l.rune n).length ≤ es.length + 1 := by unfold mapAdd; split <;> simp
    simp only [mapFrom, List.length_cons]
    omega
theorem mapOf_len (a : List Letter) : (mapOf a).length ≤ a.length := by simpa [mapOf] using mapFrom_len a 0 []
theorem mapFrom_step {a : List Letter} {i : Nat} (hi : i < a.length) (es : List (Int × Nat)) : mapFrom (a.drop i) i es = mapFrom (a.drop (i + 1)) (i + 1) (mapAdd es (a[i]'hi).rune i) := by
  rw [List.drop_eq_getElem_cons hi]
  rfl

/-! #### classes, runes, lists -/
def andU (x y : Int) : Int := IntKind.u32.wrap (BitVec.ofInt 32 x &&& BitVec.ofInt 32 y).toNat
def hasC (c m : Int) : Bool := andU c m == m
def runeOK (r : Int) : Bool := decide ((0 ≤ r ∧ r < 55296) ∨ (57343 < r ∧ r ≤ 1114111))
def goodR (r : Int) : Bool := decide (32 < r) && runeOK r
theorem goodR_iff {r : Int} : goodR r = true ↔ 32 < r ∧ r ≤ 1114111 ∧ (r < 55296 ∨ 57343 < r) := by
  simp [goodR, runeOK]; omega
theorem goodR_not {r : Int} : goodR r = false ↔ ¬ (32 < r ∧ r ≤ 1114111 ∧ (r < 55296 ∨ 57343 < r)) := by
  rw [← goodR_iff]; simp
def validA (a : List Letter) : Bool := decide (1 ≤ a.length) && decide (a.length ≤ 64) && a.all (fun l => goodR l.rune) && decide ((a.map (·.rune)).Nodup)
theorem mapFrom_full : ∀ (a : List Letter) (n : Nat) (es : List (Int × Nat)), (mapFrom a n es).length = es.length + a.length ↔ (a.map (·.rune)).Nodup ∧ ∀ l ∈ a, es.any (·.1 == l.rune) = false
  | [], n, es => by simp [mapFrom]
  | l :: a, n, es => by
    have hle := mapFrom_len a (n + 1) (mapAdd es l.rune n)
    simp only [mapFrom, List.length_cons, List.map_cons, List.nodup_cons, List.mem_cons, forall_eq_or_imp]
    unfold mapAdd at *
    split
    · rename_i h
      rw [if_pos h] at hle
      constructor
      · intro e; omega
      · rintro ⟨_, h2, _⟩; rw [h] at h2; cases h2
    · rename_i h
      rw [if_neg h] at hle
      have ih := mapFrom_full a (n + 1) (es ++ [(l.rune, n)])
      simp only [List.length_append, List.length_cons, List.length_nil] at ih hle
      rw [show es.length + (a.length + 1) = es.length + (0 + 1) + a.length from by omega, ih]
      simp only [Bool.not_eq_true] at h
      constructor
      · rintro ⟨h1, h2⟩
        refine ⟨⟨fun hm => ?_, h1⟩, h, fun x hx => ?_⟩
        · obtain ⟨x, hx, e⟩ := List.mem_map.1 hm
          have := h2 x hx
          rw [e] at this
          simp at this
        · have := h2 x hx
          simp only [List.any_append, Bool.or_eq_false_iff] at this
          exact this.1
      · rintro ⟨⟨h1, h2⟩, h3, h4⟩
        refine ⟨h2, fun x hx => ?_⟩
        simp only [List.any_append, Bool.or_eq_false_iff]
        refine ⟨h4 x hx, ?_⟩
        simp only [List.any_cons, List.any_nil, Bool.or_false, beq_eq_false_iff_ne]
        exact fun e => h1 (by rw [e]; exact List.mem_map.2 ⟨x, hx, rfl⟩)
theorem mapOf_full (a : List Letter) : (mapOf a).length = a.length ↔ (a.map (·.rune)).Nodup := by
  have := mapFrom_full a 0 []
  simpa [mapOf] using this
theorem idx_nodup {a : List Letter} : (∀ (i : Nat) (h : i < a.length), idx a (a[i]'h).rune = some i) ↔ (a.map (·.rune)).Nodup := by
  constructor
  · intro h
    rw [List.nodup_iff_pairwise_ne] at *
    rw [List.pairwise_iff_getElem]
    intro i j hi hj hij e
    simp only [List.length_map] at hi hj
    simp only [List.getElem_map] at e
    have h1 := h i hi
    have h2 := h j hj
    rw [← e, h1] at h2
    have := Option.some.inj h2
    omega
  · intro h i hi
    refine idx_drop (fun l hl => ?_) hi rfl
    obtain ⟨j, hj⟩ := List.mem_iff_getElem?.1 hl
    rw [List.getElem?_take] at hj
    split at hj
    · rename_i hji
      intro e
      have hjl := (List.getElem?_eq_some_iff.1 hj).1
      have e1 : (a.map (·.rune))[j]? = (a.map (·.rune))[i]? := by
        rw [List.getElem?_map, List.getElem?_map, hj, List.getElem?_eq_getElem hi]; simp [e]
      have := (List.getElem?_inj (by simpa using hjl) h).1 e1
      omega
    · cases hj
theorem take_eq_succ {α : Type} {x y : List α} {i : Nat} (hx : i < x.length) (hy : i < y.length) (h : x.take i = y.take i) (e : x[i]'hx = y[i]'hy) : x.take (i + 1) = y.take (i + 1) := by
  rw [List.take_add_one, List.take_add_one, h, List.getElem?_eq_getElem hx, List.getElem?_eq_getElem hy, e]
theorem ne_of_getElem {α : Type} {x y : List α} {i : Nat} (hx : i < x.length) (hy : i < y.length) (e : x[i]'hx ≠ y[i]'hy) : x ≠ y := fun h => e (by subst h; rfl)
theorem take_full {α : Type} {x y : List α} {i : Nat} (hx : x.length ≤ i) (hy : y.length ≤ i) (h : x.take i = y.take i) : x = y := by
  rwa [List.take_of_length_le hx, List.take_of_length_le hy] at h
theorem all_of {α : Type} {p : α → Prop} {a : List α} {i : Nat} (hi : a.length ≤ i) (h : ∀ l ∈ a.take i, p l) : ∀ l ∈ a, p l := by
  rwa [List.take_of_length_le hi] at h

theorem validA_iff {a : List Letter} : validA a = true ↔ (1 ≤ a.length ∧ a.length ≤ 64) ∧ (∀ l ∈ a, goodR l.rune = true) ∧ (a.map (·.rune)).Nodup := by
  simp only [validA, Bool.and_eq_true, decide_eq_true_eq, List.all_eq_true, and_assoc]
theorem validA_iff' {a : List Letter} : validA a = true ↔ (1 ≤ a.length ∧ a.length ≤ 64) ∧ (∀ l ∈ a, goodR l.rune = true) ∧ (mapOf a).length = a.length := by
  rw [validA_iff, mapOf_full]
theorem validA_iff2 {a : List Letter} : validA a = true ↔ (1 ≤ a.length ∧ a.length ≤ 64) ∧ ∀ (i : Nat) (h : i < a.length), goodR (a[i]'h).rune = true ∧ idx a (a[i]'h).rune = some i := by
  rw [validA_iff, ← idx_nodup]
  constructor
  · rintro ⟨h1, h2, h3⟩
    exact ⟨h1, fun i h => ⟨h2 _ (List.getElem_mem h), h3 i h⟩⟩
  · rintro ⟨h1, h2⟩
    refine ⟨h1, fun l hl => ?_, fun i h => (h2 i h).2⟩
    obtain ⟨i, hi, rfl⟩ := List.mem_iff_getElem.1 hl
    exact (h2 i hi).1
theorem goodR_split {r : Int} : goodR r = true ↔ 32 < r ∧ runeOK r = true := by simp [goodR]

/-! #### runes from a place on -/
def runesAt (s : ByteArray) (p : Nat) : List Int := (steps s p).map (·.2)
theorem runesAt_zero (s : ByteArray) : runesAt s 0 = runes s := rfl
theorem runesAt_lt {s : ByteArray} {p : Nat} (h : p < s.size) : runesAt s p = ((Utf8.decode s p).1 : Int) :: runesAt s (p + (Utf8.decode s p).2) := by
  simp only [runesAt, steps_lt h, List.map_cons]
theorem runesAt_ge {s : ByteArray} {p : Nat} (h : s.size ≤ p) : runesAt s p = [] := by simp only [runesAt, steps_ge h, List.map_nil]
def efbfbd : ByteArray := ⟨#[239, 191, 189]⟩
def stepOK (s : ByteArray) (x : Nat × Int) : Bool := !(x.2 == 65533) || (decide (x.1 + 3 ≤ s.size) && decide (s.extract x.1 (x.1 + 3) = efbfbd))
/-- As the specification tells well-formed UTF-8. -/
def utf8R (s : ByteArray) : Bool := (steps s 0).all (stepOK s)
def overA (a : List Letter) (s : ByteArray) : Bool := utf8R s && (runes s).all (fun r => (idx a r).isSome)
def isWordA (a : List Letter) (s : ByteArray) : Bool := overA a s && decide ((runes s).length ≤ 40)

theorem all_step {s : ByteArray} {p : Nat} {f : Nat × Int → Bool} (hp : p < s.size) : (steps s p).all f = (f (p, ((Utf8.decode s p).1 : Int)) && (steps s (p + (Utf8.decode s p).2)).all f) := by
  rw [steps_lt hp, List.all_cons]
theorem stepOK_no {s : ByteArray} {p : Nat} {r : Int} (h : r ≠ 65533) : stepOK s (p, r) = true := by simp [stepOK, h]
theorem stepOK_yes {s : ByteArray} {p : Nat} {r : Int} (h : (p : Int) + 3 ≤ s.size) (h2 : s.extract p (p + 3) = { data := #[239, 191, 189] }) : stepOK s (p, r) = true := by
  have : p + 3 ≤ s.size := by omega
  simp [stepOK, this, h2, efbfbd]
theorem stepOK_bad1 {s : ByteArray} {p : Nat} {r : Int} (h : r = 65533) (h3 : (s.size : Int) < (p : Int) + 3) : stepOK s (p, r) = false := by
  have : ¬ (p + 3 ≤ s.size) := by omega
  simp [stepOK, h, this]
theorem stepOK_bad2 {s : ByteArray} {p : Nat} {r : Int} (h : r = 65533) (h2 : ¬ s.extract p (p + 3) = { data := #[239, 191, 189] }) : stepOK s (p, r) = false := by
  simp [stepOK, h, h2, efbfbd]
theorem runes_step {s : ByteArray} {p : Nat} {f : Int → Bool} (hp : p < s.size) : (runesAt s p).all f = (f ((Utf8.decode s p).1 : Int) && (runesAt s (p + (Utf8.decode s p).2)).all f) := by
  rw [runesAt_lt hp, List.all_cons]
theorem runes_len_step {s : ByteArray} {p : Nat} (hp : p < s.size) : (runesAt s p).length = (runesAt s (p + (Utf8.decode s p).2)).length + 1 := by
  rw [runesAt_lt hp, List.length_cons]
theorem runesAt_len (s : ByteArray) (p : Nat) : (runesAt s p).length ≤ s.size - p := by
  have := stepsF_len s (s.size - p) p
  simpa [runesAt, steps] using this
end Go.GH
