/-
  Part 2 of the texts behind the walks of this claim: an own layer over the kit's wp, plain laws, and walks. No conditions.
-/
import Derived.Test.YtkhohgmmgipfbaaDoorMb1
import Derived.Lib.DecodeN
import Derived.Lib.ValidLaws
import Derived.Shelf.Unicode.ValidAny
import Derived.Shelf.Strings.IndexAnyAll
import Derived.Test.YtkhohgmmgipfbaaDoorProg
import Derived.ChangeArms
import Derived.DataReads
import Derived.Lib.MapLaws
import Derived.Lib.TrimUEq
import Derived.Lib.LaidU8T
import Derived.KernelRfl
import Derived.Lib.Builder
import Derived.Lib.UnsafeStr
import Derived.Laws.Externs
import Derived.Lib.SpaceUEq
import Derived.Scope
import Derived.DeepKeys3
import Derived.Test.YtkhohgmmgipfbaaDoorRows
set_option linter.unusedVariables false
set_option linter.unusedSimpArgs false
set_option linter.deprecated false
namespace Go.GH
open Go

structure Letter where
  rune : Int
  cls : Int
def encL (l : Letter) : List DV := [.v (.int .i32 l.rune), .v (.int .u32 l.cls)]
abbrev DLs (a : List Letter) : DV := .isl false 2 (a.map encL)
def encS (s : ByteArray) : List DV := [.v (.string s)]
def encN (n : Nat) : List DV := [.v (.int .i64 (n : Int))]
def encI (n : Int) : List DV := [.v (.int .i64 n)]
def encB (b : Bool) : List DV := [.v (.bool b)]
def encU (n : Int) : List DV := [.v (.int .u32 n)]
abbrev DInts (l : List Int) : DV := .isl false 1 (l.map encI)
abbrev DNats (l : List Nat) : DV := .isl false 1 (l.map encN)
abbrev DStrs (l : List ByteArray) : DV := .isl false 1 (l.map encS)
abbrev DBools (l : List Bool) : DV := .isl false 1 (l.map encB)
abbrev DRunes (l : List Int) : DV := .isl false 1 (l.map rcell)
abbrev DMasks (l : List Int) : DV := .isl false 1 (l.map encU)

def idx (a : List Letter) (r : Int) : Option Nat := a.findIdx? (fun l => l.rune == r)
def idxI (a : List Letter) (r : Int) : Int := match idx a r with
  | some i => (i : Int)
  | none => -1
def clsOf (a : List Letter) (r : Int) : Int := match a.find? (fun l => l.rune == r) with
  | some l => l.cls
  | none => 0
theorem idx_nil (r : Int) : idx [] r = none := rfl
theorem idx_cons (l : Letter) (a : List Letter) (r : Int) : idx (l :: a) r = if l.rune = r then some 0 else (idx a r).map (· + 1) := by
  simp only [idx, List.findIdx?_cons, beq_iff_eq]
theorem idx_spec {r : Int} : ∀ {a : List Letter} {i : Nat}, idx a r = some i → ∃ h : i < a.length, (a[i]'h).rune = r ∧ clsOf a r = (a[i]'h).cls
  | [], _, h => by simp [idx_nil] at h
  | l :: a, i, h => by
    rw [idx_cons] at h
    split at h
    · rename_i e
      obtain rfl := Option.some.inj h
      exact ⟨by simp, e, by simp [clsOf, e]⟩
    · rename_i e
      obtain ⟨j, hj, rfl⟩ := Option.map_eq_some_iff.1 h
      obtain ⟨h1, h2, h3⟩ := idx_spec hj
      refine ⟨by simpa using h1, by simpa using h2, ?_⟩
      have : clsOf (l :: a) r = clsOf a r := by simp [clsOf, e]
      rw [this]; simpa using h3
theorem idx_none {r : Int} {a : List Letter} : idx a r = none ↔ ∀ l ∈ a, l.rune ≠ r := by
  simp [idx, List.findIdx?_eq_none_iff]
theorem clsOf_none {r : Int} {a : List Letter} (h : idx a r = none) : clsOf a r = 0 := by
  have : a.find? (fun l => l.rune == r) = none := List.find?_eq_none.2 (fun l hl => by simpa using idx_none.1 h l hl)
  simp [clsOf, this]
theorem idx_lt {a : List Letter} {r : Int} {i : Nat} (h : idx a r = some i) : i < a.length := (idx_spec h).1
theorem idxI_some {a : List Letter} {r : Int} {i : Nat} (h : idx a r = some i) : idxI a r = i := by simp [idxI, h]
theorem idxI_none {a : List Letter} {r : Int} (h : idx a r = none) : idxI a r = -1 := by simp [idxI, h]
theorem idxI_nonneg {a : List Letter} {r : Int} : 0 ≤ idxI a r ↔ ∃ i, idx a r = some i := by
  unfold idxI
  cases idx a r <;> simp
/-- The first i letters have not the rune r; so the search goes on behind them. -/
theorem idx_drop {a : List Letter} {r : Int} {i : Nat} (h : ∀ l ∈ a.take i, l.rune ≠ r) (hi : i < a.length) (e : (a[i]'hi).rune = r) : idx a r = some i := by
  induction a generalizing i with
  | nil => simp at hi
  | cons l a ih =>
    rw [idx_cons]
    cases i with
    | zero => rw [if_pos (by simpa using e)]
    | succ i =>
      rw [if_neg (h l (by simp)), ih (i := i) (fun x hx => h x (by simp [hx])) (by simpa using hi) (by simpa using e)]
      rfl
theorem take_more {α : Type} {p : α → Prop} {a : List α} {i : Nat} (h : ∀ l ∈ a.take i, p l) (hi : i < a.length) (e : p (a[i]'hi)) : ∀ l ∈ a.take (i + 1), p l := by
  intro l hl
  rw [List.take_add_one, List.getElem?_eq_getElem hi] at hl
  rcases List.mem_append.1 hl with hl | hl
  · exact h l hl
  · simp at hl; subst hl; exact e

/-! #### the map of first places -/
def mapAdd (es : List (Int × Nat)) (r : Int) (i : Nat) : List (Int × Nat) := if es.any (·.1 == r) then es else es ++ [(r, i)]
/-- The entries after the letters of a, of which the first has place n. -/
def mapFrom : List Letter → Nat → List (Int × Nat) → List (Int × Nat)
  | [], _, es => es
  | l :: a, n, es => mapFrom a (n + 1) (mapAdd es l.rune n)
def mapOf (a : List Letter) : List (Int × Nat) := mapFrom a 0 []
def encE (p : Int × Nat) : Value × DV := (.int .i32 p.1, .v (.int .i64 (p.2 : Int)))
abbrev DMap (a : List Letter) : DV := .imap ((mapOf a).map encE)
def findE (es : List (Int × Nat)) (r : Int) : Option Nat := (es.find? (·.1 == r)).map (·.2)
theorem lookup_enc (es : List (Int × Nat)) (r : Int) : lookupL (es.map encE) (.int .i32 r) = (findE es r).map (fun i : Nat => DV.v (.int .i64 (i : Int))) := by
  induction es with
  | nil => rfl
  | cons p es ih =>
    simp only [List.map_cons, lookupL, findE, List.find?_cons, encE, sameKey]
    by_cases h : p.1 = r
    · simp [h]
    · have h1 : (p.1 == r) = false := by simpa using h
      have h2 : (r == p.1) = false := by simpa using (fun e => h e.symm)
      simp only [h1, h2, beq_self_eq_true, Bool.true_and]
      simpa [findE] using ih
theorem keys_enc (es : List (Int × Nat)) : ∀ p ∈ es.map encE, isKey (.int .i32) p.1 = true := fun p hp => by
  obtain ⟨q, _, rfl⟩ := List.mem_map.1 hp
  rfl
theorem findE_none {es : List (Int × Nat)} {r : Int} : findE es r = none ↔ es.any (·.1 == r) = false := by
  simp [findE, List.find?_eq_none]
theorem upd_enc (es : List (Int × Nat)) (r : Int) (i : Nat) (h : findE es r = none) : updL (es.map encE) (.int .i32 r) (.v (.int .i64 (i : Int))) = (mapAdd es r i).map encE := by
  have h1 := lookup_enc es r
  rw [h] at h1
  rcases lookupL_spec (k := .int .i32 r) (d := .int .i32) rfl (es.map encE) (keys_enc es) with ⟨_, _, h3⟩ | ⟨j, x, h4, h5, _⟩
  · rw [h3, mapAdd, if_neg (by rw [findE_none.1 h]; simp), List.map_append]
    rfl
  · rw [h5] at h1; cases h1
theorem findE_mapFrom (r : Int) : ∀ (a : List Letter) (n : Nat) (es : List (Int × Nat)), findE (mapFrom a n es) r = match findE es r with
    | some i => some i
    | none => (idx a r).map (· + n)
  | [], n, es => by simp [mapFrom, idx_nil]; cases findE es r <;> rfl
  | l :: a, n, es => by
    rw [mapFrom, findE_mapFrom r a (n + 1), idx_cons]
    have hadd : findE (mapAdd es l.rune n) r = match findE es r with
        | some i => some i
        | none => if l.rune = r then some n else none := by
      unfold mapAdd
      split
      · rename_i hk
        cases hf : findE es r with
        | some i => rfl
        | none =>
          have := findE_none.1 hf
          by_cases e : l.rune = r
          · subst e; rw [this] at hk; cases hk
          · simp [e]
      · rename_i hk
        simp only [findE, List.find?_append]
        cases hf : es.find? (·.1 == r) with
        | some p => simp
        | none => by_cases e : l.rune = r <;> simp [e]
    rw [hadd]
    cases hf : findE es r with
    | some i => rfl
    | none =>
      by_cases e : l.rune = r
      · simp [e]
      · simp only [e, if_false]
        cases idx a r <;> simp; omega
theorem findE_mapOf (a : List Letter) (r : Int) : findE (mapOf a) r = idx a r := by
  rw [mapOf, findE_mapFrom]
  simp [findE]
theorem lookup_mapOf (a : List Letter) (r : Int) : lookupL ((mapOf a).map encE) (.int .i32 r) = (idx a r).map (fun i : Nat => DV.v (.int .i64 (i : Int))) := by
  rw [lookup_enc, findE_mapOf]
theorem mapFrom_len : ∀ (a : List Letter) (n : Nat) (es : List (Int × Nat)), (mapFrom a n es).length ≤ es.length + a.length
  | [], n, es => by simp [mapFrom]
  | l :: a, n, es => by
    have h := mapFrom_len a (n + 1) (mapAdd es l.rune n)
    have h2 : (mapAdd es l.rune n).length ≤ es.length + 1 := by unfold mapAdd; split <;> simp
    simp only [mapFrom, List.length_cons]
    omega
theorem mapOf_len (a : List Letter) : (mapOf a).length ≤ a.length := by simpa [mapOf] using mapFrom_len a 0 []
theorem mapFrom_step {a : List Letter} {i : Nat} (hi : i < a.length) (es : List (Int × Nat)) : mapFrom (a.drop i) i es = mapFrom (a.drop (i + 1)) (i + 1) (mapAdd es (a[i]'hi).rune i) := by
  rw [List.drop_eq_getElem_cons hi]
  rfl

/-! #### classes, runes, lists -/
def andU (x y : Int) : Int := IntKind.u32.wrap (BitVec.ofInt 32 x &&& BitVec.ofInt 32 y).toNat
def hasC (c m : Int) : Bool := andU c m == m
def runeOK (r : Int) : Bool := decide ((0 ≤ r ∧ r < 55296) ∨ (57343 < r ∧ r ≤ 1114111))
def goodR (r : Int) : Bool := decide (32 < r) && runeOK r
theorem goodR_iff {r : Int} : goodR r = true ↔ 32 < r ∧ r ≤ 1114111 ∧ (r < 55296 ∨ 57343 < r) := by
  simp [goodR, runeOK]; omega
theorem goodR_not {r : Int} : goodR r = false ↔ ¬ (32 < r ∧ r ≤ 1114111 ∧ (r < 55296 ∨ 57343 < r)) := by
  rw [← goodR_iff]; simp
def validA (a : List Letter) : Bool := decide (1 ≤ a.length) && decide (a.length ≤ 64) && a.all (fun l => goodR l.rune) && decide ((a.map (·.rune)).Nodup)
theorem mapFrom_full : ∀ (a : List Letter) (n : Nat) (es : List (Int × Nat)), (mapFrom a n es).length = es.length + a.length ↔ (a.map (·.rune)).Nodup ∧ ∀ l ∈ a, es.any (·.1 == l.rune) = false
  | [], n, es => by simp [mapFrom]
  | l :: a, n, es => by
    have hle := mapFrom_len a (n + 1) (mapAdd es l.rune n)
    simp only [mapFrom, List.length_cons, List.map_cons, List.nodup_cons, List.mem_cons, forall_eq_or_imp]
    unfold mapAdd at *
    split
    · rename_i h
      rw [if_pos h] at hle
      constructor
      · intro e; omega
      · rintro ⟨_, h2, _⟩; rw [h] at h2; cases h2
    · rename_i h
      rw [if_neg h] at hle
      have ih := mapFrom_full a (n + 1) (es ++ [(l.rune, n)])
      simp only [List.length_append, List.length_cons, List.length_nil] at ih hle
      rw [show es.length + (a.length + 1) = es.length + (0 + 1) + a.length from by omega, ih]
      simp only [Bool.not_eq_true] at h
      constructor
      · rintro ⟨h1, h2⟩
        refine ⟨⟨fun hm => ?_, h1⟩, h, fun x hx => ?_⟩
        · obtain ⟨x, hx, e⟩ := List.mem_map.1 hm
          have := h2 x hx
          rw [e] at this
          simp at this
        · have := h2 x hx
          simp only [List.any_append, Bool.or_eq_false_iff] at this
          exact this.1
      · rintro ⟨⟨h1, h2⟩, h3, h4⟩
        refine ⟨h2, fun x hx => ?_⟩
        simp only [List.any_append, Bool.or_eq_false_iff]
        refine ⟨h4 x hx, ?_⟩
        simp only [List.any_cons, List.any_nil, Bool.or_false, beq_eq_false_iff_ne]
        exact fun e => h1 (by rw [e]; exact List.mem_map.2 ⟨x, hx, rfl⟩)
theorem mapOf_full (a : List Letter) : (mapOf a).length = a.length ↔ (a.map (·.rune)).Nodup := by
  have := mapFrom_full a 0 []
  simpa [mapOf] using this
theorem idx_nodup {a : List Letter} : (∀ (i : Nat) (h : i < a.length), idx a (a[i]'h).rune = some i) ↔ (a.map (·.rune)).Nodup := by
  constructor
  · intro h
    rw [List.nodup_iff_pairwise_ne] at *
    rw [List.pairwise_iff_getElem]
    intro i j hi hj hij e
    simp only [List.length_map] at hi hj
    simp only [List.getElem_map] at e
    have h1 := h i hi
    have h2 := h j hj
    rw [← e, h1] at h2
    have := Option.some.inj h2
    omega
  · intro h i hi
    refine idx_drop (fun l hl => ?_) hi rfl
    obtain ⟨j, hj⟩ := List.mem_iff_getElem?.1 hl
    rw [List.getElem?_take] at hj
    split at hj
    · rename_i hji
      intro e
      have hjl := (List.getElem?_eq_some_iff.1 hj).1
      have e1 : (a.map (·.rune))[j]? = (a.map (·.rune))[i]? := by
        rw [List.getElem?_map, List.getElem?_map, hj, List.getElem?_eq_getElem hi]; simp [e]
      have := (List.getElem?_inj (by simpa using hjl) h).1 e1
      omega
    · cases hj
theorem take_eq_succ {α : Type} {x y : List α} {i : Nat} (hx : i < x.length) (hy : i < y.length) (h : x.take i = y.take i) (e : x[i]'hx = y[i]'hy) : x.take (i + 1) = y.take (i + 1) := by
  rw [List.take_add_one, List.take_add_one, h, List.getElem?_eq_getElem hx, List.getElem?_eq_getElem hy, e]
theorem ne_of_getElem {α : Type} {x y : List α} {i : Nat} (hx : i < x.length) (hy : i < y.length) (e : x[i]'hx ≠ y[i]'hy) : x ≠ y := fun h => e (by subst h; rfl)
theorem take_full {α : Type} {x y : List α} {i : Nat} (hx : x.length ≤ i) (hy : y.length ≤ i) (h : x.take i = y.take i) : x = y := by
  rwa [List.take_of_length_le hx, List.take_of_length_le hy] at h
theorem all_of {α : Type} {p : α → Prop} {a : List α} {i : Nat} (hi : a.length ≤ i) (h : ∀ l ∈ a.take i, p l) : ∀ l ∈ a, p l := by
  rwa [List.take_of_length_le hi] at h

theorem validA_iff {a : List Letter} : validA a = true ↔ (1 ≤ a.length ∧ a.length ≤ 64) ∧ (∀ l ∈ a, goodR l.rune = true) ∧ (a.map (·.rune)).Nodup := by
  simp only [validA, Bool.and_eq_true, decide_eq_true_eq, List.all_eq_true, and_assoc]
theorem validA_iff' {a : List Letter} : validA a = true ↔ (1 ≤ a.length ∧ a.length ≤ 64) ∧ (∀ l ∈ a, goodR l.rune = true) ∧ (mapOf a).length = a.length := by
  rw [validA_iff, mapOf_full]
theorem validA_iff2 {a : List Letter} : validA a = true ↔ (1 ≤ a.length ∧ a.length ≤ 64) ∧ ∀ (i : Nat) (h : i < a.length), goodR (a[i]'h).rune = true ∧ idx a (a[i]'h).rune = some i := by
  rw [validA_iff, ← idx_nodup]
  constructor
  · rintro ⟨h1, h2, h3⟩
    exact ⟨h1, fun i h => ⟨h2 _ (List.getElem_mem h), h3 i h⟩⟩
  · rintro ⟨h1, h2⟩
    refine ⟨h1, fun l hl => ?_, fun i h => (h2 i h).2⟩
    obtain ⟨i, hi, rfl⟩ := List.mem_iff_getElem.1 hl
    exact (h2 i hi).1
theorem goodR_split {r : Int} : goodR r = true ↔ 32 < r ∧ runeOK r = true := by simp [goodR]

/-! #### runes from a place on -/
def runesAt (s : ByteArray) (p : Nat) : List Int := (steps s p).map (·.2)
theorem runesAt_zero (s : ByteArray) : runesAt s 0 = runes s := rfl
theorem runesAt_lt {s : ByteArray} {p : Nat} (h : p < s.size) : runesAt s p = ((Utf8.decode s p).1 : Int) :: runesAt s (p + (Utf8.decode s p).2) := by
  simp only [runesAt, steps_lt h, List.map_cons]
theorem runesAt_ge {s : ByteArray} {p : Nat} (h : s.size ≤ p) : runesAt s p = [] := by simp only [runesAt, steps_ge h, List.map_nil]
def efbfbd : ByteArray := ⟨#[239, 191, 189]⟩
def stepOK (s : ByteArray) (x : Nat × Int) : Bool := !(x.2 == 65533) || (decide (x.1 + 3 ≤ s.size) && decide (s.extract x.1 (x.1 + 3) = efbfbd))
/-- As the specification tells well-formed UTF-8. -/
def utf8R (s : ByteArray) : Bool := (steps s 0).all (stepOK s)
def overA (a : List Letter) (s : ByteArray) : Bool := utf8R s && (runes s).all (fun r => (idx a r).isSome)
def isWordA (a : List Letter) (s : ByteArray) : Bool := overA a s && decide ((runes s).length ≤ 40)

theorem all_step {s : ByteArray} {p : Nat} {f : Nat × Int → Bool} (hp : p < s.size) : (steps s p).all f = (f (p, ((Utf8.decode s p).1 : Int)) && (steps s (p + (Utf8.decode s p).2)).all f) := by
  rw [steps_lt hp, List.all_cons]
theorem stepOK_no {s : ByteArray} {p : Nat} {r : Int} (h : r ≠ 65533) : stepOK s (p, r) = true := by simp [stepOK, h]
theorem stepOK_yes {s : ByteArray} {p : Nat} {r : Int} (h : (p : Int) + 3 ≤ s.size) (h2 : s.extract p (p + 3) = { data := #[239, 191, 189] }) : stepOK s (p, r) = true := by
  have : p + 3 ≤ s.size := by omega
  simp [stepOK, this, h2, efbfbd]
theorem stepOK_bad1 {s : ByteArray} {p : Nat} {r : Int} (h : r = 65533) (h3 : (s.size : Int) < (p : Int) + 3) : stepOK s (p, r) = false := by
  have : ¬ (p + 3 ≤ s.size) := by omega
  simp [stepOK, h, this]
theorem stepOK_bad2 {s : ByteArray} {p : Nat} {r : Int} (h : r = 65533) (h2 : ¬ s.extract p (p + 3) = { data := #[239, 191, 189] }) : stepOK s (p, r) = false := by
  simp [stepOK, h, h2, efbfbd]
theorem runes_step {s : ByteArray} {p : Nat} {f : Int → Bool} (hp : p < s.size) : (runesAt s p).all f = (f ((Utf8.decode s p).1 : Int) && (runesAt s (p + (Utf8.decode s p).2)).all f) := by
  rw [runesAt_lt hp, List.all_cons]
theorem runes_len_step {s : ByteArray} {p : Nat} (hp : p < s.size) : (runesAt s p).length = (runesAt s (p + (Utf8.decode s p).2)).length + 1 := by
  rw [runesAt_lt hp, List.length_cons]
theorem runesAt_len (s : ByteArray) (p : Nat) : (runesAt s p).length ≤ s.size - p := by
  have := stepsF_len s (s.size - p) p
  simpa [runesAt, steps] using this
end Go.GH
namespace Go.GH
open Go Go.Lib

theorem get_eq (s : ByteArray) (i : Nat) : s.get! i = (s.data[i]?).getD 0 := by
  show s.data[i]! = _
  rw [getElem!_def]
  cases s.data[i]? <;> rfl
theorem data_app (t s : ByteArray) : (t ++ s).data = t.data ++ s.data := by simp
theorem get_left (t s : ByteArray) {i : Nat} (h : i < t.size) : (t ++ s).get! i = t.get! i := by
  rw [get_eq, get_eq, data_app, Array.getElem?_append, if_pos (show i < t.data.size from h)]
theorem get_right (t s : ByteArray) (i : Nat) : (t ++ s).get! (t.size + i) = s.get! i := by
  rw [get_eq, get_eq, data_app, Array.getElem?_append, if_neg (show ¬ t.size + i < t.data.size from by show ¬ t.size + i < t.size; omega)]
  rw [show t.size + i - t.data.size = i from by show t.size + i - t.size = i; omega]
theorem decode_right (t s : ByteArray) (i : Nat) : Utf8.decode (t ++ s) (t.size + i) = Utf8.decode s i := by
  rw [decode_at, decode_at]
  simp only [Nat.add_assoc, get_right, ByteArray.size_append]
  congr 1
  omega
theorem stepsF_right (t s : ByteArray) : ∀ (f i : Nat), stepsF (t ++ s) f (t.size + i) = (stepsF s f i).map (fun p => (t.size + p.1, p.2))
  | 0, _ => rfl
  | f + 1, i => by
    simp only [stepsF, ByteArray.size_append, decode_right, Nat.add_assoc]
    by_cases h : i < s.size
    · rw [if_pos h, if_pos (by omega), stepsF_right t s f]
      rfl
    · rw [if_neg h, if_neg (by omega)]; rfl
theorem runesAt_right (t s : ByteArray) (i : Nat) : runesAt (t ++ s) (t.size + i) = runesAt s i := by
  unfold runesAt steps
  rw [show (t ++ s).size - (t.size + i) = s.size - i from by rw [ByteArray.size_append]; omega, stepsF_right, List.map_map]
  rfl
theorem byte_nat {n : Nat} (h : n < 256) : (UInt8.ofNat n).toNat = n := by simp; omega
theorem decode_encode {r : Int} (h : Utf8.valid r = true) (rest : ByteArray) : Utf8.decode (Utf8.encode r ++ rest) 0 = (r.toNat, (Utf8.encode r).size) := by
  have hv := h
  simp only [Utf8.valid, Bool.or_eq_true, Bool.and_eq_true, decide_eq_true_eq] at hv
  rw [decode_at]
  simp only [Utf8.encode, h, if_true, Nat.zero_add]
  generalize hc : r.toNat = c
  have hc' : c < 55296 ∨ (57344 ≤ c ∧ c ≤ 1114111) := by omega
  split
  · rename_i h1
    rw [get_left _ _ (show 0 < 1 by decide)]
    have e0 : (ByteArray.mk #[UInt8.ofNat c]).get! 0 = UInt8.ofNat c := rfl
    rw [e0, byte_nat (by omega)]
    unfold decodeN
    rw [if_pos (by omega)]
    rfl
  · split
    · rename_i h0 h1
      rw [get_left _ _ (show 0 < 2 by decide), get_left _ _ (show 1 < 2 by decide)]
      have e0 : (ByteArray.mk #[UInt8.ofNat (192 + c / 64), UInt8.ofNat (128 + c % 64)]).get! 0 = UInt8.ofNat (192 + c / 64) := rfl
      have e1 : (ByteArray.mk #[UInt8.ofNat (192 + c / 64), UInt8.ofNat (128 + c % 64)]).get! 1 = UInt8.ofNat (128 + c % 64) := rfl
      have hs : 2 ≤ (ByteArray.mk #[UInt8.ofNat (192 + c / 64), UInt8.ofNat (128 + c % 64)] ++ rest).size := by rw [ByteArray.size_append]; exact Nat.le_add_right _ _
      generalize (ByteArray.mk #[UInt8.ofNat (192 + c / 64), UInt8.ofNat (128 + c % 64)] ++ rest).size = N at hs
      generalize ((ByteArray.mk #[UInt8.ofNat (192 + c / 64), UInt8.ofNat (128 + c % 64)] ++ rest).get! 2).toNat = b2
      generalize ((ByteArray.mk #[UInt8.ofNat (192 + c / 64), UInt8.ofNat (128 + c % 64)] ++ rest).get! 3).toNat = b3
      rw [e0, e1, byte_nat (by omega), byte_nat (by omega)]
      unfold decodeN
      rw [if_neg (by omega), if_pos (by omega), if_pos (by omega)]
      refine Prod.ext ?_ rfl
      simp only
      omega
    · split
      · rename_i h0 h1 h2
        rw [get_left _ _ (show 0 < 3 by decide), get_left _ _ (show 1 < 3 by decide), get_left _ _ (show 2 < 3 by decide)]
        have e0 : (ByteArray.mk #[UInt8.ofNat (224 + c / 4096), UInt8.ofNat (128 + c / 64 % 64), UInt8.ofNat (128 + c % 64)]).get! 0 = UInt8.ofNat (224 + c / 4096) := rfl
        have e1 : (ByteArray.mk #[UInt8.ofNat (224 + c / 4096), UInt8.ofNat (128 + c / 64 % 64), UInt8.ofNat (128 + c % 64)]).get! 1 = UInt8.ofNat (128 + c / 64 % 64) := rfl
        have e2 : (ByteArray.mk #[UInt8.ofNat (224 + c / 4096), UInt8.ofNat (128 + c / 64 % 64), UInt8.ofNat (128 + c % 64)]).get! 2 = UInt8.ofNat (128 + c % 64) := rfl
        have hs : 3 ≤ (ByteArray.mk #[UInt8.ofNat (224 + c / 4096), UInt8.ofNat (128 + c / 64 % 64), UInt8.ofNat (128 + c % 64)] ++ rest).size := by rw [ByteArray.size_append]; exact Nat.le_add_right _ _
        generalize (ByteArray.mk #[UInt8.ofNat (224 + c / 4096), UInt8.ofNat (128 + c / 64 % 64), UInt8.ofNat (128 + c % 64)] ++ rest).size = N at hs
        generalize ((ByteArray.mk #[UInt8.ofNat (224 + c / 4096), UInt8.ofNat (128 + c / 64 % 64), UInt8.ofNat (128 + c % 64)] ++ rest).get! 3).toNat = b3
        rw [e0, e1, e2, byte_nat (by omega), byte_nat (by omega), byte_nat (by omega)]
        unfold decodeN
        rw [if_neg (by omega), if_neg (by omega), if_pos (by omega), if_pos (by omega)]
        refine Prod.ext ?_ rfl
        simp only
        omega
      · rename_i h0 h1 h2
        rw [get_left _ _ (show 0 < 4 by decide), get_left _ _ (show 1 < 4 by decide), get_left _ _ (show 2 < 4 by decide), get_left _ _ (show 3 < 4 by decide)]
        have e0 : (ByteArray.mk #[UInt8.ofNat (240 + c / 262144), UInt8.ofNat (128 + c / 4096 % 64), UInt8.ofNat (128 + c / 64 % 64), UInt8.ofNat (128 + c % 64)]).get! 0 = UInt8.ofNat (240 + c / 262144) := rfl
        have e1 : (ByteArray.mk #[UInt8.ofNat (240 + c / 262144), UInt8.ofNat (128 + c / 4096 % 64), UInt8.ofNat (128 + c / 64 % 64), UInt8.ofNat (128 + c % 64)]).get! 1 = UInt8.ofNat (128 + c / 4096 % 64) := rfl
        have e2 : (ByteArray.mk #[UInt8.ofNat (240 + c / 262144), UInt8.ofNat (128 + c / 4096 % 64), UInt8.ofNat (128 + c / 64 % 64), UInt8.ofNat (128 + c % 64)]).get! 2 = UInt8.ofNat (128 + c / 64 % 64) := rfl
        have e3 : (ByteArray.mk #[UInt8.ofNat (240 + c / 262144), UInt8.ofNat (128 + c / 4096 % 64), UInt8.ofNat (128 + c / 64 % 64), UInt8.ofNat (128 + c % 64)]).get! 3 = UInt8.ofNat (128 + c % 64) := rfl
        have hs : 4 ≤ (ByteArray.mk #[UInt8.ofNat (240 + c / 262144), UInt8.ofNat (128 + c / 4096 % 64), UInt8.ofNat (128 + c / 64 % 64), UInt8.ofNat (128 + c % 64)] ++ rest).size := by rw [ByteArray.size_append]; exact Nat.le_add_right _ _
        generalize (ByteArray.mk #[UInt8.ofNat (240 + c / 262144), UInt8.ofNat (128 + c / 4096 % 64), UInt8.ofNat (128 + c / 64 % 64), UInt8.ofNat (128 + c % 64)] ++ rest).size = N at hs
        rw [e0, e1, e2, e3, byte_nat (by omega), byte_nat (by omega), byte_nat (by omega), byte_nat (by omega)]
        unfold decodeN
        rw [if_neg (by omega), if_neg (by omega), if_neg (by omega), if_pos (by omega), if_pos (by omega)]
        refine Prod.ext ?_ rfl
        simp only
        omega
theorem encode_pos (r : Int) : 1 ≤ (Utf8.encode r).size := by
  simp only [Utf8.encode]
  repeat' split
  all_goals (first | decide | simp [ByteArray.size])
theorem runes_encode {r : Int} (h : Utf8.valid r = true) (rest : ByteArray) : runes (Utf8.encode r ++ rest) = r :: runes rest := by
  have hp := encode_pos r
  rw [← runesAt_zero, runesAt_lt (by rw [ByteArray.size_append]; omega), decode_encode h]
  have h1 := runesAt_right (Utf8.encode r) rest 0
  rw [Nat.add_zero, runesAt_zero] at h1
  rw [Nat.zero_add, h1]
  have : 0 ≤ r := by
    simp only [Utf8.valid, Bool.or_eq_true, Bool.and_eq_true, decide_eq_true_eq] at h; omega
  simp only
  rw [Int.toNat_of_nonneg this]
theorem runes_empty : runes ByteArray.empty = [] := rfl
/-- Runes that are valid come back from their own bytes. -/
theorem runes_encs : ∀ {rs : List Int}, (∀ r ∈ rs, Utf8.valid r = true) → runes (encs rs) = rs
  | [], _ => rfl
  | r :: rs, h => by
    rw [encs, runes_encode (h r (List.mem_cons_self ..)), runes_encs (fun x hx => h x (List.mem_cons_of_mem _ hx))]
theorem decode_valid (s : ByteArray) (i : Nat) : Utf8.valid ((Utf8.decode s i).1 : Int) = true := by
  have hv : ∀ c : Nat, (c < 55296 ∨ (57344 ≤ c ∧ c ≤ 1114111)) → Utf8.valid (c : Int) = true := fun c hc => by
    simp only [Utf8.valid, Bool.or_eq_true, Bool.and_eq_true, decide_eq_true_eq]; omega
  have hb := UInt8.toNat_lt (s.get! i)
  refine hv _ ?_
  rw [decode_at]
  generalize (s.get! i).toNat = b0 at hb
  generalize (s.get! (i + 1)).toNat = b1
  generalize (s.get! (i + 2)).toNat = b2
  generalize (s.get! (i + 3)).toNat = b3
  unfold decodeN
  repeat' split
  all_goals (simp only; omega)
theorem steps_valid {s : ByteArray} : ∀ {f i : Nat} {p : Nat × Int}, p ∈ stepsF s f i → Utf8.valid p.2 = true
  | 0, _, _, h => by simp [stepsF] at h
  | f + 1, i, p, h => by
    simp only [stepsF] at h
    split at h
    · rcases List.mem_cons.1 h with rfl | h
      · exact decode_valid s i
      · exact steps_valid h
    · simp at h
theorem runes_valid {s : ByteArray} {r : Int} (h : r ∈ runes s) : Utf8.valid r = true := by
  obtain ⟨p, hp, rfl⟩ := List.mem_map.1 h
  exact steps_valid hp
theorem runes_cut (s : ByteArray) (l n : Nat) : runes (encs (((runes s).drop l).take n)) = ((runes s).drop l).take n :=
  runes_encs (fun r hr => runes_valid (List.mem_of_mem_drop (List.mem_of_mem_take hr)))
end Go.GH
namespace Go.Proofs
open Go.Shelf
def Tryd.laysValid_ren : Go.Shelf.Ren := ⟨fun | 196 => 67 | 259 => 70 | n => n, fun | 9 => 9 | 4 => 4 | 3 => 3 | 5 => 5 | 12 => 12 | 119 => 101 | 0 => 0 | 46 => 105 | 139 => 104 | 138 => 103 | 53 => 107 | n => n, fun | 3 => 0 | 4 => 1 | n => n⟩
theorem Tryd.laysValid : Go.Proofs.Lays.n196 Tryd.prog Tryd.laysValid_ren := {
  mixed := by kernel_rfl
  f196 := Tryd.func67.trans (congrArg some (by kernel_rfl))
  f259 := Tryd.func70.trans (congrArg some (by kernel_rfl))
  t0 := Tryd.underlying0
  a0 := Tryd.isAgg0
  z0 := Tryd.sizeOf0
  v0 := Tryd.zeroValue0
  t3 := Tryd.underlying3
  a3 := Tryd.isAgg3
  z3 := Tryd.sizeOf3
  v3 := Tryd.zeroValue3
  t4 := Tryd.underlying4
  a4 := Tryd.isAgg4
  z4 := Tryd.sizeOf4
  v4 := Tryd.zeroValue4
  t5 := Tryd.underlying5
  a5 := Tryd.isAgg5
  z5 := Tryd.sizeOf5
  v5 := Tryd.zeroValue5
  t9 := Tryd.underlying9
  a9 := Tryd.isAgg9
  z9 := Tryd.sizeOf9
  v9 := Tryd.zeroValue9
  t12 := Tryd.underlying12
  a12 := Tryd.isAgg12
  z12 := Tryd.sizeOf12
  v12 := Tryd.zeroValue12
  t46 := Tryd.underlying105
  a46 := Tryd.isAgg105
  z46 := Tryd.sizeOf105
  v46 := Tryd.zeroValue105
  t53 := Tryd.underlying107
  a53 := Tryd.isAgg107
  z53 := Tryd.sizeOf107
  v53 := Tryd.zeroValue107
  t119 := Tryd.underlying101
  a119 := Tryd.isAgg101
  z119 := Tryd.sizeOf101
  t138 := Tryd.underlying103
  a138 := Tryd.isAgg103
  z138 := Tryd.sizeOf103
  v138 := Tryd.zeroValue103
  t139 := Tryd.underlying104
  a139 := Tryd.isAgg104
  z139 := Tryd.sizeOf104
  v139 := Tryd.zeroValue104
  g3 := by kernel_rfl
  g4 := by kernel_rfl }
def Tryd.laysAny_ren : Go.Shelf.Ren := ⟨fun | 153 => 71 | 152 => 72 | 226 => 73 | 227 => 74 | 228 => 75 | 137 => 76 | 119 => 77 | 224 => 78 | 225 => 79 | 217 => 80 | 266 => 81 | n => n, fun | 9 => 9 | 3 => 3 | 4 => 4 | 5 => 5 | 21 => 21 | 117 => 111 | 116 => 110 | 0 => 0 | 46 => 105 | 124 => 117 | n => n, fun | n => n⟩
theorem Tryd.laysAny : Go.Proofs.Lays.n153 Tryd.prog Tryd.laysAny_ren := {
  mixed := by kernel_rfl
  f119 := Tryd.func77.trans (congrArg some (by kernel_rfl))
  f137 := Tryd.func76.trans (congrArg some (by kernel_rfl))
  f152 := Tryd.func72.trans (congrArg some (by kernel_rfl))
  f153 := Tryd.func71.trans (congrArg some (by kernel_rfl))
  f217 := Tryd.func80.trans (congrArg some (by kernel_rfl))
  f224 := Tryd.func78.trans (congrArg some (by kernel_rfl))
  f225 := Tryd.func79.trans (congrArg some (by kernel_rfl))
  f226 := Tryd.func73.trans (congrArg some (by kernel_rfl))
  f227 := Tryd.func74.trans (congrArg some (by kernel_rfl))
  f228 := Tryd.func75.trans (congrArg some (by kernel_rfl))
  f266 := Tryd.func81.trans (congrArg some (by kernel_rfl))
  t0 := Tryd.underlying0
  a0 := Tryd.isAgg0
  z0 := Tryd.sizeOf0
  v0 := Tryd.zeroValue0
  t3 := Tryd.underlying3
  a3 := Tryd.isAgg3
  z3 := Tryd.sizeOf3
  v3 := Tryd.zeroValue3
  t4 := Tryd.underlying4
  a4 := Tryd.isAgg4
  z4 := Tryd.sizeOf4
  v4 := Tryd.zeroValue4
  t5 := Tryd.underlying5
  a5 := Tryd.isAgg5
  z5 := Tryd.sizeOf5
  v5 := Tryd.zeroValue5
  t9 := Tryd.underlying9
  a9 := Tryd.isAgg9
  z9 := Tryd.sizeOf9
  v9 := Tryd.zeroValue9
  t21 := Tryd.underlying21
  a21 := Tryd.isAgg21
  z21 := Tryd.sizeOf21
  v21 := Tryd.zeroValue21
  t46 := Tryd.underlying105
  a46 := Tryd.isAgg105
  z46 := Tryd.sizeOf105
  v46 := Tryd.zeroValue105
  t116 := Tryd.underlying110
  a116 := Tryd.isAgg110
  z116 := Tryd.sizeOf110
  t117 := Tryd.underlying111
  a117 := Tryd.isAgg111
  z117 := Tryd.sizeOf111
  v117 := Tryd.zeroValue111
  t124 := Tryd.underlying117
  a124 := Tryd.isAgg117
  z124 := Tryd.sizeOf117
  v124 := Tryd.zeroValue117 }
end Go.Proofs
namespace Go.GH
open Go Go.RowKit

inductive DTy where
  | int (k : IntKind)
  | str
  | bool
  | sl (L : List DTy)
/-- The cells of a value of type t. -/
inductive TyIs (P : Program) : TypeId → List DTy → Prop
  | int {t : TypeId} {k : IntKind} (h : P.underlying t = some (.int k)) : TyIs P t [.int k]
  | str {t : TypeId} (h : P.underlying t = some .string) : TyIs P t [.str]
  | bool {t : TypeId} (h : P.underlying t = some .bool) : TyIs P t [.bool]
  | sl {t e : TypeId} {L : List DTy} (h : P.underlying t = some (.slice e)) (he : TyIs P e L) (hc : P.cellsOf e = L.length) (hne : L ≠ []) : TyIs P t [.sl L]
  | struct {t : TypeId} {fs : Array Field} (Ls : List (List DTy)) (h : P.underlying t = some (.struct fs)) (hc : P.cellsOf t = Ls.flatten.length) (hl : Ls.length = fs.size)
      (hf : ∀ (i : Nat) f Li, fs[i]? = some f → Ls[i]? = some Li → TyIs P f.type Li) (ho : ∀ (i : Nat) f Li, fs[i]? = some f → Ls[i]? = some Li → f.offset = (Ls.take i).flatten.length ∧ P.cellsOf f.type = Li.length) : TyIs P t Ls.flatten
inductive HasD : DTy → DV → Prop
  | int {k : IntKind} {n : Int} (h : k.has n) : HasD (.int k) (.v (.int k n))
  | str {s : ByteArray} (h : s.size ≤ lenB) : HasD .str (.v (.string s))
  | bool {b : Bool} : HasD .bool (.v (.bool b))
  | sl {L : List DTy} {es : List (List DV)} (hl : ∀ (i : Nat) e, es[i]? = some e → e.length = L.length) (hd : ∀ (i : Nat) e (j : Nat) d ty, es[i]? = some e → e[j]? = some d → L[j]? = some ty → HasD ty d) : HasD (.sl L) (.isl false L.length es)

def AllF (w : World) : Nat → Prop := fun b => b < w.heap.size
def Cells (w : World) (cs : List Value) (L : List DTy) (ds : List DV) : Prop :=
  cs.length = L.length ∧ ds.length = L.length ∧ ∀ (j : Nat) v d ty, cs[j]? = some v → ds[j]? = some d → L[j]? = some ty → Rep w (AllF w) v d ∧ HasD ty d ∧ v.oneCell' = true
theorem cell?_lt {w : World} {a : Addr} {v : Value} (h : w.cell? a = some v) : a.block < w.heap.size ∧ a.spot = none := by
  unfold World.cell? at h
  split at h
  · rename_i c _ _ hb
    refine ⟨(Array.getElem?_eq_some_iff.1 hb).1, ?_⟩
    split at h
    · cases h
    · rename_i hs; simpa using hs
  · cases h
theorem lit_int_wf {k : IntKind} {n : Int} (h : (Lit.int k n).wf = true) : k.has n := by
  simp [Lit.wf, IntKind.has] at h ⊢
  exact h

def PW (w : World) (cs : List Value) (L : List DTy) : Prop :=
  cs.length = L.length ∧ ∀ (j : Nat) v ty, cs[j]? = some v → L[j]? = some ty → ∃ d, Rep w (AllF w) v d ∧ HasD ty d ∧ v.oneCell' = true
theorem PW.cells {w : World} {cs : List Value} {L : List DTy} (h : PW w cs L) : ∃ ds, Cells w cs L ds := by
  have key : ∀ j, ∃ d, ∀ v ty, cs[j]? = some v → L[j]? = some ty → Rep w (AllF w) v d ∧ HasD ty d ∧ v.oneCell' = true := fun j => by
    by_cases hj : j < L.length
    · obtain ⟨d, hd⟩ := h.2 j _ _ (List.getElem?_eq_getElem (show j < cs.length by rw [h.1]; exact hj)) (List.getElem?_eq_getElem hj)
      refine ⟨d, fun v ty hv ht => ?_⟩
      rw [List.getElem?_eq_getElem (show j < cs.length by rw [h.1]; exact hj)] at hv
      rw [List.getElem?_eq_getElem hj] at ht
      obtain rfl := Option.some.inj hv
      obtain rfl := Option.some.inj ht
      exact hd
    · exact ⟨.any, fun v ty _ ht => absurd (List.getElem?_eq_some_iff.1 ht).1 hj⟩
  refine ⟨(List.range L.length).map (fun j => (key j).choose), h.1, by simp, fun j v d ty hv hd ht => ?_⟩
  rw [List.getElem?_map] at hd
  obtain ⟨q, hq, rfl⟩ := Option.map_eq_some_iff.1 hd
  have hlt : j < L.length := (List.getElem?_eq_some_iff.1 ht).1
  rw [List.getElem?_range hlt] at hq
  obtain rfl := Option.some.inj hq
  exact (key j).choose_spec v ty hv ht
theorem PW.one {w : World} {v : Value} {ty : DTy} {d : DV} (h1 : Rep w (AllF w) v d) (h2 : HasD ty d) (h3 : v.oneCell' = true) : PW w [v] [ty] :=
  ⟨rfl, fun j u t hv ht => by
    match j, hv, ht with
    | 0, hv, ht => simp at hv ht; subst hv; subst ht; exact ⟨d, h1, h2, h3⟩
    | j + 1, hv, ht => simp at hv⟩
theorem flatten_find {α : Type} : ∀ (Ls : List (List α)) (j : Nat) (x : α), Ls.flatten[j]? = some x → ∃ (i : Nat) (Li : List α) (q : Nat), Ls[i]? = some Li ∧ Li[q]? = some x ∧ j = (Ls.take i).flatten.length + q
  | [], j, x, h => by simp at h
  | L :: Ls, j, x, h => by
    rw [List.flatten_cons, List.getElem?_append] at h
    split at h
    · exact ⟨0, L, j, rfl, h, by simp⟩
    · rename_i hlt
      obtain ⟨i, Li, q, h1, h2, h3⟩ := flatten_find Ls _ x h
      exact ⟨i + 1, Li, q, by simpa using h1, h2, by rw [List.take_succ_cons, List.flatten_cons, List.length_append]; omega⟩

theorem pw_trod {H : Type} {enc : TypeId × Value → H} {P : Program} {w : World} {sp : Nat → Bool} {held : Bool} {t : TypeId} {L : List DTy} (h : TyIs P t L) :
    ∀ (fuel : Nat) (cs : List Value) (x : DataW H × List MemPlace), DataW.trod enc P w 0 sp held fuel t cs = some x → PW w cs L := by
  induction h with
  | @int t k h =>
    intro fuel cs x hx
    obtain ⟨n, rfl, _, hwf⟩ := DataW.trod_int h hx
    exact .one (d := .v (.int k n)) (.v (show k.has n from lit_int_wf hwf)) (.int (lit_int_wf hwf)) rfl
  | @str t h =>
    intro fuel cs x hx
    obtain ⟨s, rfl, _, hs⟩ := DataW.trod_string h hx
    have hs : s.size ≤ lenB := by
      have e : maxLen = lenB := by decide
      omega
    exact .one (d := .v (.string s)) (.v hs) (.str hs) rfl
  | @bool t h =>
    intro fuel cs x hx
    obtain ⟨b, rfl, _⟩ := DataW.trod_bool h hx
    exact .one (d := .v (.bool b)) (.v trivial) .bool rfl
  | @sl t e L h he hc hne ih =>
    intro fuel cs x hx
    rcases DataW.trod_slice h hx with ⟨rfl, _⟩ | ⟨a, len, cap, elems, rest, n, rfl, rfl, _, hb, hl, hm, hlen, hel, _, _⟩
    · exact .one (d := .isl false L.length []) (.isl (b := 0) (o := 0) (fun _ _ => undef) rfl (by omega) (by simp [lenB]) (fun h => by cases h) (fun h => absurd rfl h) (fun i e h => by simp at h) (fun i e j d h => by simp at h) (fun i e j d h => by simp at h))
        (.sl (fun i e h => by simp at h) (fun i e j d ty h => by simp at h)) rfl
    · have key : ∀ i, ∃ p : List Value × List DV, i < len → w.cells? 0 (a.add (i * L.length)) L.length = some p.1 ∧ Cells w p.1 L p.2 := fun i => by
        by_cases hi : i < len
        · have h1 := hel i hi
          rw [List.getElem?_eq_getElem (by omega)] at h1
          obtain ⟨cs', h2, h3⟩ := Option.bind_eq_some_iff.1 h1
          obtain ⟨ds, hds⟩ := (ih n cs' _ h3).cells
          exact ⟨(cs', ds), fun _ => ⟨by rw [← hc]; exact h2, hds⟩⟩
        · exact ⟨([], []), fun h => absurd h hi⟩
      have hpos : 0 < L.length := List.length_pos_iff.2 hne
      have hspot : 0 < len → a.spot = none ∧ a.block < w.heap.size := fun h0 => by
        obtain ⟨h1, h2, _⟩ := (key 0).choose_spec h0
        obtain ⟨_, _, h4⟩ := World.cells?_some h1
        have h5 := h4 0 hpos
        rw [List.getElem?_eq_getElem (by omega)] at h5
        simp only [Nat.zero_mul] at h5
        have h6 := cell?_lt h5
        simp [Addr.add] at h6
        exact ⟨h6.2, h6.1⟩
      have hadd : 0 < len → ∀ q, a.add q = ⟨a.block, a.off + q, none⟩ := fun h0 q => by
        have := (hspot h0).1
        obtain ⟨b, o, s⟩ := a
        simp only at this
        subst this
        exact add_plain' b o q
      let es : List (List DV) := (List.range len).map (fun i => (key i).choose.2)
      have hes : ∀ (i : Nat) e, es[i]? = some e → i < len ∧ e = (key i).choose.2 := fun i e hi => by
        simp only [es, List.getElem?_map] at hi
        obtain ⟨q, hq, rfl⟩ := Option.map_eq_some_iff.1 hi
        have hlt : i < len := by have := (List.getElem?_eq_some_iff.1 hq).1; simpa using this
        rw [List.getElem?_range hlt] at hq
        obtain rfl := Option.some.inj hq
        exact ⟨hlt, rfl⟩
      have hcell : ∀ (i : Nat) e (j : Nat) d, es[i]? = some e → e[j]? = some d → ∃ v ty, L[j]? = some ty ∧ w.cell? ⟨a.block, a.off + (i * L.length + j), none⟩ = some v ∧ ((key i).choose.1)[j]? = some v ∧ Rep w (AllF w) v d ∧ HasD ty d ∧ v.oneCell' = true := fun i e j d hi hj => by
        obtain ⟨hlt, rfl⟩ := hes i e hi
        obtain ⟨h1, h2, h3, h4⟩ := (key i).choose_spec hlt
        obtain ⟨_, _, h5⟩ := World.cells?_some h1
        have hjl : j < L.length := by rw [← h3]; exact (List.getElem?_eq_some_iff.1 hj).1
        have hv := List.getElem?_eq_getElem (show j < ((key i).choose.1).length by omega)
        refine ⟨_, _, List.getElem?_eq_getElem hjl, ?_, hv, h4 j _ d _ hv hj (List.getElem?_eq_getElem hjl)⟩
        rw [← hv, ← h5 j hjl, hadd (by omega), add_plain', Nat.add_assoc]
      have hesl : es.length = len := by simp [es]
      have hmx : maxLen = lenB := by decide
      refine .one (d := .isl false L.length es) (.isl (b := a.block) (o := a.off) (fun i j => (((key i).choose.1)[j]?).getD undef) hesl.symm hl (by omega) (fun h => by cases h) (fun hne' => ?_) (fun i e hi => ?_) (fun i e j d hi hj => ?_) (fun i e j d hi hj => ?_)) (.sl (fun i e hi => ?_) (fun i e j d ty hi hj hty => ?_)) rfl
      · have h0 : 0 < len := by
          rcases Nat.eq_zero_or_pos len with h | h
          · exact absurd (by simp [es, h]) hne'
          · exact h
        refine ⟨?_, (hspot h0).2⟩
        have := (hspot h0).1
        obtain ⟨b, o, s⟩ := a
        simp only at this
        subst this
        rfl
      · obtain ⟨hlt, rfl⟩ := hes i e hi; exact ((key i).choose_spec hlt).2.2.1
      · obtain ⟨v, ty, _, h2, h3, _, _, h6⟩ := hcell i e j d hi hj
        simp only [h3, Option.getD_some]
        exact ⟨h2, h6⟩
      · obtain ⟨v, ty, _, _, h3, h4, _⟩ := hcell i e j d hi hj
        simp only [h3, Option.getD_some]
        exact h4
      · obtain ⟨hlt, rfl⟩ := hes i e hi; exact ((key i).choose_spec hlt).2.2.1
      · obtain ⟨v, ty', h1, _, _, _, h5, _⟩ := hcell i e j d hi hj
        rw [h1] at hty
        obtain rfl := Option.some.inj hty
        exact h5
  | @struct t fs Ls h hc hl hf ho ih =>
    intro fuel cs x hx
    obtain ⟨xs, n, rfl, _, hlen, hxl, hx⟩ := DataW.trod_struct h hx
    refine ⟨hlen.trans hc, fun j v ty hv hty => ?_⟩
    obtain ⟨i, Li, q, h1, h2, rfl⟩ := flatten_find Ls j ty hty
    have hi : i < fs.size := by rw [← hl]; exact (List.getElem?_eq_some_iff.1 h1).1
    have hfi := Array.getElem?_eq_getElem hi
    obtain ⟨o1, o2⟩ := ho i _ Li hfi h1
    have h3 := hx i _ hfi
    rw [List.getElem?_eq_getElem (show i < xs.length by omega)] at h3
    obtain ⟨_, h4⟩ := ih i _ Li hfi h1 n _ _ h3
    have hql : q < Li.length := (List.getElem?_eq_some_iff.1 h2).1
    exact h4 q v ty (by rw [List.getElem?_take, if_pos (by omega), List.getElem?_drop, o1]; exact hv) h2

/-- What a law's contract leaves. -/
theorem CPost.told {E : Env} {w : World} {F : Nat → Prop} {x : Value} {e : Ending} {w' : World} (h : CPost E w F [] (fun d H => d = .v x ∧ H = []) e w') : e = .returned x ∧ Below w.heap.size w w' := by
  obtain ⟨u, d, H', F', rfl, ⟨rfl, rfl⟩, _, _, hr, _, _, hst⟩ := h
  exact ⟨by rw [hr.inv_v.1], (hst.mono (T' := fun _ => False) (fun i _ hi => by cases hi)).below⟩
/-- A law's contract, at a world where every block stands. -/
theorem GCall.told {P : Program} {E : Env} {f : FuncId} {ds : List DV} {x : Value} (h : GCall P E f ds [] (fun d H => d = .v x ∧ H = [])) {w : World} {vs : Array Value} (hE : E.holds w (AllF w)) (hl : vs.size = ds.length)
    (hr : ∀ (j : Nat) (v : Value) (d : DV), vs[j]? = some v → ds[j]? = some d → Rep w (AllF w) v d) : Calls P f vs w (fun e w' => e = .returned x ∧ Below w.heap.size w w') :=
  (h.2 w (AllF w) vs hE (fun b hb => hb) hl hr (fun p hp => by cases hp) List.nodup_nil).mono (fun e w' hp => hp.told)
end Go.GH
namespace Go.GH
open Go Go.Lib Go.Proofs Go.RowKit

theorem extract_eq (s : ByteArray) (p : Nat) : (s.extract p (p + 3)).data.toList = (s.data.toList.drop p).take 3 := by
  simp [ByteArray.data_extract, List.take_drop]
theorem dec_fffd {l : List UInt8} (h : l.take 3 = [239, 191, 189]) : decodeL l = (65533, 3) := by
  match l, h with
  | [], h => simp at h
  | [_], h => simp at h
  | [_, _], h => simp at h
  | a :: b :: c :: t, h =>
    simp only [List.take_succ_cons, List.take_zero, List.cons.injEq, and_true] at h
    obtain ⟨rfl, rfl, rfl⟩ := h
    rw [decodeL_N]
    generalize hb : ((239 :: 191 :: 189 :: t : List UInt8).getD 3 0).toNat = b3
    have e0 : ((239 :: 191 :: 189 :: t : List UInt8).getD 0 0).toNat = 239 := rfl
    have e1 : ((239 :: 191 :: 189 :: t : List UInt8).getD 1 0).toNat = 191 := rfl
    have e2 : ((239 :: 191 :: 189 :: t : List UInt8).getD 2 0).toNat = 189 := rfl
    have hn : 2 < (239 :: 191 :: 189 :: t : List UInt8).length := by simp
    rw [e0, e1, e2]
    generalize (239 :: 191 :: 189 :: t : List UInt8).length = n at hn
    unfold decodeN
    rw [if_neg (by omega), if_neg (by omega), if_pos (by omega), if_pos (by omega)]
theorem enc_fffd : encodeRune ((65533 : Nat) : Int) = [239, 191, 189] := by decide
theorem step_valid (s : ByteArray) (p : Nat) (hp : p < s.size) : stepOK s (p, ((Utf8.decode s p).1 : Int)) = !(decide ((Utf8.decode s p).1 = 65533 ∧ (Utf8.decode s p).2 = 1)) := by
  have hd := decodeL_drop s p
  have hlen : (s.data.toList.drop p).length = s.size - p := by simp
  have hne : s.data.toList.drop p ≠ [] := by
    intro h; rw [h] at hlen; simp at hlen; omega
  by_cases hr : (Utf8.decode s p).1 = 65533
  · have hr' : (((Utf8.decode s p).1 : Nat) : Int) = 65533 := by omega
    by_cases h1 : (Utf8.decode s p).2 = 1
    · rw [decide_eq_true ⟨hr, h1⟩]
      simp only [Bool.not_true]
      unfold stepOK
      rw [hr']
      simp only [beq_self_eq_true, Bool.not_true, Bool.false_or, Bool.and_eq_false_iff, decide_eq_false_iff_not]
      refine .inr (fun h => ?_)
      have h2 : (s.data.toList.drop p).take 3 = [239, 191, 189] := by rw [← extract_eq, h]; rfl
      rw [dec_fffd h2] at hd
      rw [← hd] at h1
      cases h1
    · rw [decide_eq_false (fun h => h1 h.2)]
      simp only [Bool.not_false]
      have h3 := encode_decode _ hne (by rw [hd]; exact fun h => h1 h.2)
      rw [hd, hr, enc_fffd] at h3
      have hw : (Utf8.decode s p).2 ≤ 3 ∨ 3 ≤ (Utf8.decode s p).2 := by omega
      have hl3 := congrArg List.length h3
      simp only [List.length_cons, List.length_nil, List.length_take, hlen] at hl3
      have h4 : (s.data.toList.drop p).take 3 = [239, 191, 189] := by
        rw [h3]
        apply List.ext_getElem?
        intro j
        simp only [List.getElem?_take]
        by_cases hj : j < 3
        · rw [if_pos hj, if_pos (by omega)]
        · rw [if_neg hj]
          split
          · rw [List.getElem?_eq_none (by omega)]
          · rfl
      have h5 : s.extract p (p + 3) = efbfbd := by
        apply ByteArray.ext
        apply Array.toList_inj.1
        rw [extract_eq, h4]; rfl
      have : p + 3 ≤ s.size := by
        have := congrArg List.length h4
        simp only [List.length_take, hlen, List.length_cons, List.length_nil] at this
        omega
      unfold stepOK
      rw [hr', h5]
      simp [this]
  · rw [decide_eq_false (fun h => hr h.1), stepOK_no (by omega)]; rfl
theorem valid_at (s : ByteArray) : ∀ (f p : Nat), s.size - p ≤ f → validD (s.data.toList.drop p) = (steps s p).all (stepOK s)
  | 0, p, h => by
    rw [steps_ge (by omega), List.drop_eq_nil_of_le (by simp; omega)]; rfl
  | f + 1, p, h => by
    by_cases hp : p < s.size
    · have hw := decode_w s p
      have hlen : (s.data.toList.drop p).length = s.size - p := by simp
      rw [validD_step _ (by intro h; rw [h] at hlen; simp at hlen; omega), steps_lt hp, List.all_cons, step_valid s p hp, decodeL_drop, List.drop_drop, valid_at s f _ (by omega)]
      by_cases hb : (Utf8.decode s p).1 = 65533 ∧ (Utf8.decode s p).2 = 1
      · rw [if_pos hb, decide_eq_true hb]; rfl
      · rw [if_neg hb, decide_eq_false hb]; rfl
    · rw [steps_ge (by omega), List.drop_eq_nil_of_le (by simp; omega)]; rfl
theorem utf8R_valid (s : ByteArray) : utf8R s = validD s.data.toList := by
  have := valid_at s _ 0 (Nat.le_refl _)
  rw [List.drop_zero] at this
  exact this.symm

/-- The library's two tables, in blocks that never turn. -/
def tabE (g3 g4 : Nat) : Env where
  holds := fun w F => Lib.Utf8Tabs g3 g4 w ∧ F g3 ∧ F g4
  mono := fun {w w' F F'} hw hF h => by
    obtain ⟨⟨h1, h2⟩, h3, h4⟩ := h
    refine ⟨⟨fun c hc => ?_, fun i hi => ⟨?_, ?_⟩⟩, hF _ h3, hF _ h4⟩
    · rw [cell?_same (hw _ h3)]; exact h1 c hc
    · rw [cell?_same (hw _ h4)]; exact (h2 i hi).1
    · rw [cell?_same (hw _ h4)]; exact (h2 i hi).2
abbrev E0 : Env := tabE (Tryd.laysValid_ren.g 3) (Tryd.laysValid_ren.g 4)
theorem tabE_all {g3 g4 : Nat} {w : World} (h : Lib.Utf8Tabs g3 g4 w) : (tabE g3 g4).holds w (AllF w) :=
  ⟨h, (cell?_lt (h.1 0 (by decide))).1, (cell?_lt (h.2 0 (by decide)).1).1⟩

/-- A library's contract that only reads, as a contract over abstract states. -/
theorem GCall.ofCalls {P : Program} {E : Env} {f : FuncId} {ds : List DV} {x : Value} (hb : hasBody P f = true) (hx : scal x)
    (h : ∀ w F (vs : Array Value), E.holds w F → vs.size = ds.length → (∀ (j : Nat) (v : Value) (d : DV), vs[j]? = some v → ds[j]? = some d → Rep w F v d) → Calls P f vs w (fun e w' => e = .returned x ∧ Below w.heap.size w w')) :
    GCall P E f ds [] (fun d H => d = .v x ∧ H = []) :=
  ⟨hb, fun w F vs hE hF hl hr _ _ => (h w F vs hE hl hr).mono (fun e w' ⟨he, bel⟩ =>
    ⟨x, .v x, [], F, he, ⟨rfl, rfl⟩, fun _ h => h, fun b h => ⟨Nat.lt_of_lt_of_le (hF b h) (Step.of_below bel).size, .inl h⟩, .v hx, (fun p hp => by cases hp), List.nodup_nil, (Step.of_below bel).mono (fun _ _ h => h.elim)⟩)⟩
theorem arg1 {w : World} {F : Nat → Prop} {vs : Array Value} {x : Value} (hl : vs.size = 1) (hr : ∀ (j : Nat) (v : Value) (d : DV), vs[j]? = some v → [DV.v x][j]? = some d → Rep w F v d) : vs = #[x] ∧ scal x := by
  have h0 := hr 0 vs[0] (.v x) (Array.getElem?_eq_getElem (by omega)) rfl
  refine ⟨?_, h0.inv_v.2⟩
  apply Array.ext
  · simpa using hl
  · intro i h1 h2
    have : i = 0 := by omega
    subst this
    exact h0.inv_v.1
theorem vs_ok (s : ByteArray) : GCall Tryd.prog E0 67 [.v (.string s)] [] (fun d H => d = .v (.bool (utf8R s)) ∧ H = []) :=
  GCall.ofCalls (by kernel_rfl) trivial (fun w F vs hE hl hr => by
    obtain ⟨rfl, hs⟩ := arg1 hl hr
    rw [utf8R_valid]
    exact Any.utf8_ValidString Tryd.laysValid s w hs hE.1)
end Go.GH
namespace Go.GH
open Go Go.RowKit

section
variable {C : Ctx} {E : Env} {base : Base} {F : Nat → Prop} {st : St} {a : Act} {w : World} {ops : Array Oper} {rest : List Oper} {R : St → Prop}
  {t : Tmp} {ty : TypeId} {pos : String} {aft : Array Edge} {g : Option (Nat × Bool)}

theorem accD_one (sz b : Nat) (es : List (List DV)) : (accD sz b es).one = true := by cases es <;> rfl

/-! #### a pointer that is not nil -/
def DV.isPtr : DV → Bool
  | .ref _ _ | .vref _ _ _ | .ipin _ => true
  | _ => false
theorem SOps.nilCheck {xo : Operand} {d : DV} (hx : st.val xo = some d) (hp : d.isPtr = true) (hrest : SOps C ops rest (st.put t d) R)
    (hg : st.wants ops g = some true := by rfl) (ht : Nat.blt t st.n = true := by rfl) : SOps C ops (⟨some t, .nilCheck xo, ty, pos, aft, g⟩ :: rest) st R :=
  SOps.val rfl hg ht (fun base a w F hs => by
    have h1 := hs.val hx
    refine ⟨a.eval xo, ?_, h1⟩
    generalize hv : a.eval xo = v at h1
    cases h1 <;> first | (simp [DV.isPtr] at hp; done) | (simp [execOp, hv])) hrest
theorem SOps.fieldV {s f off b e n : Nat} {xo : Operand} (hx : st.val xo = some (.vref b e n)) (hs : fieldB C.P s f off = true) (hrest : SOps C ops rest (st.put t (.ref b (0 + off))) R)
    (hg : st.wants ops g = some true := by rfl) (ht : Nat.blt t st.n = true := by rfl) : SOps C ops (⟨some t, .fieldAddr s xo f, ty, pos, aft, g⟩ :: rest) st R :=
  SOps.val rfl hg ht (fun base a w F hsim => by
    have h1 := hsim.val hx
    generalize hv : a.eval xo = v at h1
    cases h1 with
    | vref => exact ⟨_, by simp [execOp, hv, run_field hs, add_plain'], .ref _ _⟩) hrest
theorem SOps.allocV {T sz : Nat} {z : Value} {cs : List DV} (hz : zeroIs C.P T z) (hrest : ∀ b, st.fresh b → SOps C ops rest ⟨st.n, (t, .vref b T sz) :: st.slots, (b, .row T sz [cs]) :: st.heap⟩ R)
    (hcs : z.cells.toList.map DV.v = cs := by rfl) (hsz : cs.length = sz := by rfl) (hb : zcellsB z = true := by rfl)
    (hg : st.wants ops g = some true := by rfl) (ht : Nat.blt t st.n = true := by rfl) : SOps C ops (⟨some t, .alloc T, ty, pos, aft, g⟩ :: rest) st R :=
  SOps.new (d := fun b => .vref b T sz) (ob := fun _ => .row T sz [cs]) rfl hg ht (fun base a w F hs => by
    have hl : z.cells.size = sz := by rw [← hsz, ← hcs]; simp
    refine ⟨w, .pointer (some ⟨w.heap.size, 0, none⟩), .cells z.cells T, Step.refl _ _, rfl, ?_, .vref (by rw [shape_new, hl]), row_new (by rw [← hcs]; simp) hsz (fun j x hx => (zcells_spec hb j x hx).2) (fun b hb => (hs.lt b hb).1) (fun j x d hx hd => ?_)⟩
    · simp [execOp, Instr.alloc, run_zeroValue hz, newVar, newRow]
    · rw [← hcs] at hd
      simp at hd
      obtain ⟨y, hy, rfl⟩ := hd
      rw [hy] at hx
      obtain rfl := Option.some.inj hx
      exact .v (zcells_spec hb j y hy).1) hrest

def ptrB (P : Program) (tp te : Nat) : Prop := P.underlying tp = some (.pointer te) ∧ ∃ j, P.info? te = some j ∧ j.size ≠ 0
theorem SOps.eqPtr {T T2 te : TypeId} {xo yo : Operand} {b e n e' n' : Nat} (hT : ptrB C.P T te) (hx : st.val xo = some (.vref b e n)) (hy : st.val yo = some (.vref b e' n')) (hrest : SOps C ops rest (st.put t (.v (.bool false))) R)
    (hg : st.wants ops g = some true := by rfl) (ht : Nat.blt t st.n = true := by rfl) : SOps C ops (⟨some t, .binOp .neq T xo yo T2, ty, pos, aft, g⟩ :: rest) st R :=
  SOps.val rfl hg ht (fun base a w F hs => by
    have h1 := hs.val hx
    have h2 := hs.val hy
    generalize hv : a.eval xo = v at h1
    generalize hv' : a.eval yo = v' at h2
    obtain ⟨hp, j, hj, hjs⟩ := hT
    cases h1; cases h2
    refine ⟨.bool false, ?_, .v trivial⟩
    simp only [execOp, hv, hv']
    exact run_binNext (by simp only [eqGuard, Sem.run_bind]; simp [Lib.run_neq_ptr_same w _ hp hj])) hrest
/-- Against nil. -/
theorem SOps.eqNil {T T2 te : TypeId} {xo yo : Operand} {d : DV} (c : Bool) (hT : ptrB C.P T te) (hx : st.val xo = some d) (hd : (d.isPtr = true ∧ c = false) ∨ (d = .v (.pointer none) ∧ c = true)) (hy : st.val yo = some (.v (.pointer none))) (hrest : SOps C ops rest (st.put t (.v (.bool c))) R)
    (hg : st.wants ops g = some true := by rfl) (ht : Nat.blt t st.n = true := by rfl) : SOps C ops (⟨some t, .binOp .eql T xo yo T2, ty, pos, aft, g⟩ :: rest) st R :=
  SOps.val rfl hg ht (fun base a w F hs => by
    have h1 := hs.val hx
    have h2 := (hs.val hy).inv_v.1
    generalize hv : a.eval xo = v at h1
    obtain ⟨hp, j, hj, hjs⟩ := hT
    refine ⟨.bool c, ?_, .v trivial⟩
    simp only [execOp, hv, h2]
    have key : ∀ (d : Nat) (q : Option Addr), q.isNone = c → (Op.equalIn (d + 1) T (.pointer q) (.pointer none)).run C.P w = .ok c w := fun d q hq => by
      cases q <;> (simp only [Option.isNone] at hq; subst hq; simp [Op.equalIn, run_underlying hp])
    have fin : ∀ (q : Option Addr), q.isNone = c → (do let v ← (do eqGuard .eql T xo yo (.pointer q) (.pointer none); binOp .eql T (.pointer q) (.pointer none) : Sem Value); pure (Next.value v) : Sem Next).run C.P w = .ok (.value (.bool c)) w := fun q hq =>
      run_binNext (by simp only [eqGuard, binOp, Op.equal, Op.maxDepth, Sem.run_bind]; simp [key 9999 q hq])
    rcases hd with ⟨hd, rfl⟩ | ⟨rfl, rfl⟩
    · cases h1 <;> first | (simp [DV.isPtr] at hd; done) | exact fin _ rfl
    · rw [h1.inv_v.1]; exact fin _ rfl) hrest

/-! #### the road of copyCheck: to unsafe.Pointer, through NoEscape, and back -/
theorem SOps.toUnsafe {src dst u : TypeId} {xo : Operand} {b e n : Nat} (hx : st.val xo = some (.vref b e n)) (hS : ptrB C.P src u) (hD : C.P.underlying dst = some .unsafePointer) (hn : 0 < n) (hrest : SOps C ops rest (st.put t (.vref b e n)) R)
    (hg : st.wants ops g = some true := by rfl) (ht : Nat.blt t st.n = true := by rfl) : SOps C ops (⟨some t, .convert src dst xo, ty, pos, aft, g⟩ :: rest) st R :=
  SOps.val rfl hg ht (fun base a w F hs => by
    have h1 := hs.val hx
    obtain ⟨hp, j, hj, hjs⟩ := hS
    generalize hv : a.eval xo = v at h1
    cases h1 with
    | vref h =>
      refine ⟨_, ?_, .vref h⟩
      rw [show execOp a.eval ⟨some t, .convert src dst xo, ty, pos, aft, g⟩ = (do pure (.value (← convert src dst (a.eval xo)))) from rfl, hv, Sem.run_bind, Lib.run_to_unsafe w ⟨b, 0, none⟩ hp hD hj hjs h hn]
      rfl) hrest
theorem SOps.fromUnsafe {src dst u : TypeId} {xo : Operand} {b e n : Nat} (hx : st.val xo = some (.vref b e n)) (hS : C.P.underlying src = some .unsafePointer) (hD : ptrB C.P dst u) (hl : liesAt C.P C.P.depth e (n / C.P.cellsOf e) 0 u 1 = true) (hrest : SOps C ops rest (st.put t (.vref b e n)) R)
    (hg : st.wants ops g = some true := by rfl) (ht : Nat.blt t st.n = true := by rfl) : SOps C ops (⟨some t, .convert src dst xo, ty, pos, aft, g⟩ :: rest) st R :=
  SOps.val rfl hg ht (fun base a w F hs => by
    have h1 := hs.val hx
    obtain ⟨hp, j, hj, hjs⟩ := hD
    generalize hv : a.eval xo = v at h1
    cases h1 with
    | vref h =>
      refine ⟨_, ?_, .vref h⟩
      rw [show execOp a.eval ⟨some t, .convert src dst xo, ty, pos, aft, g⟩ = (do pure (.value (← convert src dst (a.eval xo)))) from rfl, hv, Sem.run_bind, Lib.run_from_unsafe w ⟨b, 0, none⟩ hS hp hj h hl]
      rfl) hrest
def noEscB (P : Program) (f : FuncId) : Prop := ∃ fn, P.funcs[f]? = some fn ∧ (fn.name == "runtime.NumGoroutine") = false ∧ fn.body.isNone = true ∧ Extern.findNext fn = none ∧ Extern.find fn = some Extern.AbiNoEscape.same
theorem SOps.noEscape {f : FuncId} {xo : Operand} {ats : Array TypeId} {d : DV} (hf : noEscB C.P f) (hx : st.val xo = some d) (hrest : SOps C ops rest (st.put t d) R)
    (hg : st.wants ops g = some true := by rfl) (ht : Nat.blt t st.n = true := by rfl) : SOps C ops (⟨some t, .call { callee := .value (.func f), args := #[xo], argTypes := ats }, ty, pos, aft, g⟩ :: rest) st R :=
  SOps.val rfl hg ht (fun base a w F hs => by
    obtain ⟨fn, h1, h2, h3, h4, h5⟩ := hf
    refine ⟨a.eval xo, ?_, hs.val hx⟩
    have e1 : execOp a.eval ⟨some t, .call { callee := .value (.func f), args := #[xo], argTypes := ats }, ty, pos, aft, g⟩ = callFunc f #[a.eval xo] := by
      rw [show execOp a.eval ⟨some t, .call { callee := .value (.func f), args := #[xo], argTypes := ats }, ty, pos, aft, g⟩ = callFunc f (#[] ++ #[xo].map a.eval ++ #[]) from rfl]; simp
    rw [e1, run_callFunc_extern h1 h2 h3 h4 h5]
    simp only [Lib.run_noEscape]
    rfl) hrest

/-! #### unsafe.String over an own row of bytes -/
def dataD (gb : Nat) : List UInt8 → DV
  | [] => .v (.pointer none)
  | _ :: _ => .ref gb 0
theorem SOps.sliceData {ats : Array TypeId} {xo : Operand} {gb : Nat} {bs : List UInt8} (hx : st.val xo = some (accD 1 gb (bs.map encY))) (hrest : SOps C ops rest (st.put t (dataD gb bs)) R)
    (hg : st.wants ops g = some true := by rfl) (ht : Nat.blt t st.n = true := by rfl) : SOps C ops (⟨some t, .call { callee := .builtin .unsafeSliceData, args := #[xo], argTypes := ats }, ty, pos, aft, g⟩ :: rest) st R :=
  SOps.val rfl hg ht (fun base a w F hs => by
    have h1 := hs.val hx
    have hrun : ∀ v, a.eval xo = v → execOp a.eval ⟨some t, .call { callee := .builtin .unsafeSliceData, args := #[xo], argTypes := ats }, ty, pos, aft, g⟩ = (do pure (.value (← Builtin.unsafeSliceData_ ats ty #[v]))) := fun v hv => by
      subst hv; simp [execOp, resolve, invoke, builtin]
    cases bs with
    | nil =>
      refine ⟨_, ?_, .v trivial⟩
      rw [hrun _ h1.inv_v.1, Sem.run_bind, Lib.run_unsafeSliceData_nil]; rfl
    | cons b bs =>
      generalize hv : a.eval xo = v at h1
      simp only [List.map_cons, accD] at h1
      cases h1 with
      | @sl b' sz off len cap e n q1 q2 q3 q4 =>
        refine ⟨_, ?_, .ref _ _⟩
        rw [hrun _ hv, Sem.run_bind, Lib.run_unsafeSliceData_row (w := w) ats ty _ _ _ (by omega)]; simp) hrest
end

theorem freeze_other (w : World) (g n b : Nat) (h : b ≠ g) : (w.freeze ⟨g, 0, none⟩ n).heap[b]? = w.heap[b]? := by
  unfold World.freeze
  split
  · rfl
  · simp only [Array.getElem?_modify]; rw [if_neg (fun e => h e.symm)]
theorem shape?_freeze (w : World) (a : Addr) (n b : Nat) : (w.freeze a n).shape? b = w.shape? b := by
  unfold World.freeze
  split
  · rfl
  · unfold World.shape?
    by_cases h : a.block = b
    · subst h
      simp only [Array.getElem?_modify, if_true]
      cases hh : w.heap[a.block]? with
      | none => simp
      | some o => cases o <;> simp
    · simp only [Array.getElem?_modify]; rw [if_neg h]
theorem Step.freeze (w : World) (g n : Nat) : Step (· = g) w (w.freeze ⟨g, 0, none⟩ n) :=
  ⟨by unfold World.freeze; split <;> rfl, by unfold World.freeze; split <;> rfl, by unfold World.freeze; split <;> rfl, by unfold World.freeze; split <;> simp, fun b _ hb => freeze_other w g n b hb, fun b s h => by rw [shape?_freeze]; exact h⟩

section
variable {C : Ctx} {E : Env} {base : Base} {F : Nat → Prop} {st : St} {a : Act} {w : World} {ops : Array Oper} {rest : List Oper} {R : St → Prop}
  {t : Tmp} {ty : TypeId} {pos : String} {aft : Array Edge} {g : Option (Nat × Bool)}

/-- unsafe.String: the own row, if there is one, is let go. -/
theorem SOps.unsafeStr {pt it e gb : TypeId} {po no : Operand} {bs : List UInt8} (H1 H2 : DHeap) (hp : C.P.underlying pt = some (.pointer e)) (hc : C.P.cellsOf e = 1) (hx : st.val po = some (dataD gb bs))
    (hn : st.val no = some (.v (.int .i64 bs.length))) (hh : st.heap = H1 ++ (accH e 1 gb (bs.map encY) ++ H2)) (hrest : SOps C ops rest ⟨st.n, (t, .v (.string ⟨bs.toArray⟩)) :: st.slots, H1 ++ H2⟩ R)
    (hg : st.wants ops g = some true := by rfl) (ht : Nat.blt t st.n = true := by rfl) : SOps C ops (⟨some t, .call { callee := .builtin .unsafeString, args := #[po, no], argTypes := #[pt, it] }, ty, pos, aft, g⟩ :: rest) st R := by
  have hrun : ∀ (a : Act) v u, a.eval po = v → a.eval no = u → execOp a.eval ⟨some t, .call { callee := .builtin .unsafeString, args := #[po, no], argTypes := #[pt, it] }, ty, pos, aft, g⟩ = (do pure (.value (← Builtin.unsafeString_ #[pt, it] ty #[v, u]))) := fun a v u hv hu => by
    subst hv; subst hu; simp [execOp, resolve, invoke, builtin]
  cases bs with
  | nil =>
    have e1 : H1 ++ H2 = st.heap := by rw [hh]; rfl
    rw [e1] at hrest
    refine SOps.val rfl hg ht (fun base a w F hs => ⟨.string .empty, ?_, .v (by simp [scal, lenB])⟩) hrest
    rw [hrun a _ _ (hs.val hx).inv_v.1 (hs.val hn).inv_v.1, Sem.run_bind]
    have := Lib.run_unsafeString_none (P := C.P) w pt it ty none
    simp only [List.length_nil]
    rw [show ((0 : Nat) : Int) = 0 from rfl, this]; rfl
  | cons y bs =>
    refine SOps.op (R1 := (· = ⟨st.n, (t, .v (.string ⟨(y :: bs).toArray⟩)) :: st.slots, H1 ++ H2⟩)) hg ?_ (fun st' e => e ▸ hrest)
    intro base ok a w F hs K Q hK
    have h1 := hs.val hx
    have h2 := (hs.val hn).inv_v
    generalize hv : a.eval po = v at h1
    have hi : st.heap[H1.length]? = some (gb, .row e 1 ((y :: bs).map encY)) := by rw [hh]; simp [accH]
    obtain ⟨k1, k2, cs, c1, c2, c3, c4⟩ := hs.heap _ (List.mem_of_getElem? hi)
    simp only at c1
    cases h1 with
    | ref =>
      have hcell : ∀ (j : Nat) x, (y :: bs)[j]? = some x → w.cell? ((⟨gb, 0, none⟩ : Addr).add j) = some (.int .u8 x.toNat) := fun j x hj => by
        have hj' : ((y :: bs).map encY)[j]? = some (encY x) := by rw [List.getElem?_map, hj]; rfl
        obtain ⟨z, hz, _, hr⟩ := (c4 j _ hj').2 0 _ rfl
        have hz' := hr.inv_v.1
        rw [add_plain', cell_of_row w gb _ cs _ _ c1]
        simp only [Nat.mul_one, Nat.add_zero, Nat.zero_add] at hz ⊢
        rw [hz, hz']
      have hlen : (y :: bs).length ≤ cs.size := by simpa using c2
      have hmx : (y :: bs).length ≤ 9223372036854775807 := by
        have e0 : ((y :: bs).map encY).length = (y :: bs).length := by simp
        rw [e0] at c3; exact c3
      have hr := Lib.run_unsafeString_row (P := C.P) w pt it ty e hp hc gb cs.size (by simp [World.shape?, c1]) (y :: bs) (by simp) hlen hmx hcell
      unfold Oper.wp
      rw [hrun a _ _ hv h2.1, Sem.run_bind, hr]
      simp only [Result.andThen_ok, Sem.run_pure]
      rw [Oper.upon_value]
      refine hK _ _ _ rfl ⟨F, ?_⟩
      have hst := Step.freeze w gb (y :: bs).length
      have hw : SimF C.E base F ⟨st.n, st.slots, H1 ++ H2⟩ a (w.freeze ⟨gb, 0, none⟩ (y :: bs).length) := by
        have hF : ∀ c, F c → (w.freeze ⟨gb, 0, none⟩ (y :: bs).length).heap[c]? = w.heap[c]? := fun c hc => freeze_other w gb _ c (fun e => k2 (e ▸ hc))
        have hk := hs.keys
        rw [hh] at hk
        exact {
          keep := hs.keep.then hst (fun c hc e => by
            subst e
            rcases k1 with h | h
            · exact h
            · exact absurd hc (Nat.not_lt.2 h))
          base_lt := hs.base_lt
          sub := hs.sub
          lt := fun c hc => ⟨Nat.lt_of_lt_of_le (hs.lt c hc).1 hst.size, (hs.lt c hc).2⟩
          env := C.E.mono hF (fun _ x => x) hs.env
          size := hs.size
          slots := fun t d ht => ⟨(hs.slots t d ht).1, (hs.slots t d ht).2.mono hF hst.shape (fun _ x => x)⟩
          heap := fun p hp => by
            have hmem : p ∈ st.heap := by rw [hh]; simp only [List.mem_append] at hp ⊢; exact hp.elim .inl (fun h => .inr (.inr h))
            obtain ⟨h1, h2, h3⟩ := hs.heap p hmem
            refine ⟨h1, h2, h3.mono (freeze_other w gb _ _ (fun e => ?_)) hF hst.shape (fun _ x => x)⟩
            simp only [accH, List.map_cons, List.map_append, List.singleton_append] at hk
            rw [List.nodup_append] at hk
            obtain ⟨_, k5, k6⟩ := hk
            rw [List.nodup_cons] at k5
            rcases List.mem_append.1 hp with h | h
            · exact k6 _ (List.mem_map.2 ⟨p, h, rfl⟩) gb (List.mem_cons_self ..) e
            · exact k5.1 (List.mem_map.2 ⟨p, h, e⟩)
          keys := by
            simp only [accH, List.map_cons, List.map_append, List.singleton_append] at hk ⊢
            rw [List.nodup_append] at hk ⊢
            obtain ⟨k4, k5, k6⟩ := hk
            exact ⟨k4, (List.nodup_cons.1 k5).2, fun x hx y hy => k6 x hx y (List.mem_cons_of_mem _ hy)⟩
          defers := hs.defers }
      exact SimF.put (st := ⟨st.n, st.slots, H1 ++ H2⟩) hw (by simpa using ht) (.v (by
        show (y :: bs).toArray.size ≤ lenB
        rw [List.size_toArray]; exact hmx))
end

/-! ### regions of open order whose last operations act -/
def reqF (l : List Oper) : Nat → Nat → List Nat
  | 0, _ => []
  | f + 1, k => match l[k]? with
    | none => []
    | some o => (List.range k).filter (fun j => afterB o j) ++ (((List.range k).filter (fun j => afterB o j)).map (reqF l f)).flatten
theorem reqF_spec {l : List Oper} {L : Nat → Bool} (hc : ∀ (k : Nat) o j, l[k]? = some o → L k = true → afterB o j = true → L j = true) : ∀ (f k : Nat), L k = true → ∀ j ∈ reqF l f k, L j = true
  | 0, _, _, _, h => by simp [reqF] at h
  | f + 1, k, hk, j, h => by
    simp only [reqF] at h
    split at h
    · simp at h
    · rename_i o ho
      rcases List.mem_append.1 h with h | h
      · exact hc k o j ho hk (by simpa using (List.mem_filter.1 h).2)
      · obtain ⟨js, hjs, hj⟩ := List.mem_flatten.1 h
        obtain ⟨i, hi, rfl⟩ := List.mem_map.1 hjs
        exact reqF_spec hc f i (hc k o i ho hk (by simpa using (List.mem_filter.1 hi).2)) j hj
/-- From place m on, each operation waits for all that is listed before it. -/
def seqB (l : List Oper) (m f : Nat) : Bool := (List.range l.length).all (fun k => Nat.blt k m || (List.range k).all (fun j => (reqF l f k).any (fun x => Nat.beq x j)))
inductive SeqOk (C : Ctx) (ops : Array Oper) : (St → Prop) → List Oper → (St → Prop) → Prop
  | nil {R : St → Prop} : SeqOk C ops R [] R
  | cons {R R1 R2 : St → Prop} {o : Oper} {os : List Oper} (h : ∀ st, R st → SOps C ops [o] st R1) (k : SeqOk C ops R1 os R2) : SeqOk C ops R (o :: os) R2
theorem OpsOk.atDraw {C : Ctx} {l : List Oper} {n : Nat} {s : List (Nat × DV)} {H : DHeap} {D : List (Nat × DV)} {ts : List Nat} {srcs : List (List (Nat ⊕ Nat))} {nds : List (List (Nat × DV))} {l1 : List Oper}
    (hts : D.map (·.1) = ts) (hnodup : (D.map (·.1)).Nodup) (hsrc : ∀ i o, l1[i]? = some o → ∀ ss, srcs[i]? = some ss → ∀ x ∈ ss, srcB l1 ts i o x = true) (hnd : srcs.map (needOf D s) = nds) (hops : OpsOk C l.toArray n H l1 nds D)
    {L : Nat → Bool} {st' : St} {i : Nat} {o : Oper} (hi : l1[i]? = some o) (hLi : L i = false) (hle : (⟨n, pick2 L 0 D s, H⟩ : St).Le st') (haft : ∀ j, afterB o j = true → L j = true) (hbef : ∀ k o', l1[k]? = some o' → afterB o' i = true → L k = false) :
    SOps C l.toArray [o] st' (fun st2 => (⟨n, pick2 (fun k => if k = i then true else L k) 0 D s, H⟩ : St).Le st2) := by
  obtain ⟨nd, p, h1, h2, h3⟩ := hops.at i o hi
  refine SOps.weaken hle ?_
  have hneed : ∀ t d, getL nd t = some d → getL (pick2 L 0 D s) t = some d := by
    rw [← hnd] at h1
    obtain ⟨ss, hss, e⟩ := Option.map_eq_some_iff.1 (by simpa using h1)
    have hchk := hsrc i o hi ss hss
    subst e
    have key : ∀ (ss : List (Nat ⊕ Nat)), (∀ x ∈ ss, srcB l1 ts i o x = true) → ∀ t d, getL (needOf D s ss) t = some d → getL (pick2 L 0 D s) t = some d := by
      intro ss
      induction ss with
      | nil => intro _ t d h; simp [needOf, getL] at h
      | cons x ss ih =>
        intro hx t d h
        have ih' := ih (fun y hy => hx y (List.mem_cons_of_mem _ hy)) t d
        have hx0 := hx x (List.mem_cons_self ..)
        cases x with
        | inl j =>
          simp only [srcB, Bool.and_eq_true] at hx0
          simp only [needOf] at h
          split at h
          · rename_i q hq
            rw [getL_cons] at h
            split at h
            · rename_i e
              subst e
              obtain rfl := Option.some.inj h
              exact pick2_some D 0 j s q hnodup hq (by simpa using haft j hx0.1)
            · exact ih' h
          · exact ih' h
        | inr u =>
          simp only [srcB, List.all_eq_true] at hx0
          simp only [needOf] at h
          split at h
          · rename_i q hq
            rw [getL_cons] at h
            split at h
            · rename_i e
              simp only at e
              subst e
              obtain rfl := Option.some.inj h
              rw [pick2_none D 0 s (fun k p hk hp => ?_)]
              · exact hq
              · have h4 := hx0 (p.1, k) (by rw [List.mem_iff_getElem?]; exact ⟨k, by rw [← hts]; simp [List.getElem?_zipIdx, hk]⟩)
                simp only [hp, Nat.beq_refl, Bool.not_true, Bool.false_or, Bool.or_eq_true] at h4
                rw [Nat.zero_add]
                rcases h4 with h4 | h4
                · rw [Nat.eq_of_beq_eq_true h4]; exact hLi
                · unfold nthB at h4
                  split at h4
                  · rename_i o' ho'
                    exact hbef k o' ho' h4
                  · cases h4
            · exact ih' h
          · exact ih' h
    exact key ss hchk
  have hnl : ∀ t, getL (nd ++ pick2 L 0 D s) t = getL (pick2 L 0 D s) t := by
    intro t
    have : ∀ (nd : List (Nat × DV)), (∀ d, getL nd t = some d → getL (pick2 L 0 D s) t = some d) → getL (nd ++ pick2 L 0 D s) t = getL (pick2 L 0 D s) t := by
      intro nd
      induction nd with
      | nil => intro _; rfl
      | cons q nd ih =>
        intro h
        rw [List.cons_append, getL_cons]
        split
        · rename_i e
          exact (h q.2 (by rw [getL_cons, if_pos e])).symm
        · rename_i e
          exact ih (fun d hd => h d (by rw [getL_cons, if_neg e]; exact hd))
    exact this nd (hneed t)
  refine SOps.weaken (st' := ⟨n, nd ++ pick2 L 0 D s, H⟩) ⟨rfl, fun t d ht => .inl ((hnl t).symm.trans ht), H, .refl _, .refl _⟩ ((h3 (pick2 L 0 D s)).mono ?_)
  rintro st2 rfl
  refine ⟨rfl, fun t d ht => .inl ?_, H, .refl _, .refl _⟩
  show getL (p :: (nd ++ pick2 L 0 D s)) t = some d
  rw [getL_cons, hnl]
  have ht : getL (pick2 (fun k => if k = i then true else L k) 0 D s) t = some d := ht
  by_cases hpt : p.1 = t
  · rw [if_pos hpt]
    subst hpt
    rw [pick2_some D 0 i s p hnodup h2 (by simp)] at ht
    exact ht
  · rw [if_neg hpt, ← ht]
    have : ∀ (D : List (Nat × DV)) (b : Nat), (∀ k q, D[k]? = some q → b + k = i → q.1 ≠ t) → getL (pick2 L b D s) t = getL (pick2 (fun k => if k = i then true else L k) b D s) t := by
      intro D
      induction D with
      | nil => intro b _; rfl
      | cons q D ih =>
        intro b h
        have ih' := ih (b + 1) (fun k q' hk hb => h (k + 1) q' (by simpa using hk) (by omega))
        simp only [pick2]
        by_cases hbi : b = i
        · have hq := h 0 q rfl (by omega)
          simp only [if_pos hbi, if_true]
          rw [getL_cons, if_neg hq]
          split
          · rw [getL_cons, if_neg hq]; exact ih'
          · exact ih'
        · simp only [if_neg hbi]
          split
          · rw [getL_cons, getL_cons]
            split
            · rfl
            · exact ih'
          · exact ih'
    exact this D 0 (fun k q hk hb => by
      have : k = i := by omega
      subst this
      rw [h2] at hk
      obtain rfl := Option.some.inj hk
      exact hpt)
theorem pick2_all {L : Nat → Bool} {s : List (Nat × DV)} : ∀ (D : List (Nat × DV)) (b : Nat), (∀ k, b ≤ k → k < b + D.length → L k = true) → pick2 L b D s = D ++ s
  | [], _, _ => rfl
  | q :: D, b, h => by
    simp only [pick2, h b (Nat.le_refl _) (by simp), if_true, pick2_all D (b + 1) (fun k h1 h2 => h k (by omega) (by simp only [List.length_cons]; omega)), List.cons_append]
theorem pick2_eq {L L' : Nat → Bool} {s : List (Nat × DV)} : ∀ (D : List (Nat × DV)) (b : Nat), (∀ k, b ≤ k → k < b + D.length → L k = L' k) → pick2 L b D s = pick2 L' b D s
  | [], _, _ => rfl
  | q :: D, b, h => by
    simp only [pick2, h b (Nat.le_refl _) (by simp), pick2_eq D (b + 1) (fun k h1 h2 => h k (by omega) (by simp only [List.length_cons]; omega))]

theorem SCode.drawSeq {C : Ctx} {id : Nat} (l1 l2 : List Oper) {n : Nat} {s : List (Nat × DV)} {H : DHeap} {Q : Exit → St → Prop} {Rend : St → Prop} (f : Nat) (hm : C.P.follows .mixedOrders = true) (D : List (Nat × DV)) (ts : List Nat) (srcs : List (List (Nat ⊕ Nat))) (nds : List (List (Nat × DV)))
    (hts : D.map (·.1) = ts) (hB : drawB l1 ts srcs = true) (hd : distB ts = true) (hord : ordB (l1 ++ l2) = true) (hseq : seqB (l1 ++ l2) l1.length f = true) (hnd : srcs.map (needOf D s) = nds) (hops : OpsOk C (l1 ++ l2).toArray n H l1 nds D)
    (hl2 : SeqOk C (l1 ++ l2).toArray (fun st => (⟨n, D ++ s, H⟩ : St).Le st) l2 Rend) (hQ : ∀ st, Rend st → ∃ s2 : St, s2.Le st ∧ Q .normal s2) : SCode C (.region id (l1 ++ l2).toArray true) ⟨n, s, H⟩ Q := by
  simp only [drawB, Bool.and_eq_true, List.all_eq_true] at hB
  obtain ⟨⟨_, hlen⟩, hsrc⟩ := hB
  have hlen := Nat.eq_of_beq_eq_true hlen
  have hnodup : (D.map (·.1)).Nodup := hts ▸ distB_spec ts hd
  have hDl : D.length = l1.length := by rw [hlen, ← hts]; simp
  have hsrc' : ∀ i o, l1[i]? = some o → ∀ ss, srcs[i]? = some ss → ∀ x ∈ ss, srcB l1 ts i o x = true := fun i o hi ss hss => by
    have hchk := hsrc (o, i) (by rw [List.mem_iff_getElem?]; exact ⟨i, by simp [List.getElem?_zipIdx, hi]⟩)
    simp only [hss, List.all_eq_true] at hchk
    exact hchk
  have hwait : ∀ (L : Nat → Bool), (∀ (k : Nat) o j, (l1 ++ l2)[k]? = some o → L k = true → afterB o j = true → L j = true) → ∀ k, l1.length ≤ k → k < (l1 ++ l2).length → (∀ o, (l1 ++ l2)[k]? = some o → ∀ j, afterB o j = true → L j = true) → ∀ j, j < k → L j = true := by
    intro L hcl k hk1 hk2 ho j hj
    have h1 := List.all_eq_true.1 hseq k (List.mem_range.2 hk2)
    simp only [Bool.or_eq_true] at h1
    rcases h1 with h1 | h1
    · exact absurd (by simpa using h1) (Nat.not_lt.2 hk1)
    · have h2 := List.all_eq_true.1 h1 j (List.mem_range.2 hj)
      obtain ⟨x, hx, hxj⟩ := List.any_eq_true.1 h2
      have := Nat.eq_of_beq_eq_true hxj
      subst this
      cases f with
      | zero => simp [reqF] at hx
      | succ f =>
        simp only [reqF, List.getElem?_eq_getElem hk2] at hx
        have ho' := ho _ (List.getElem?_eq_getElem hk2)
        rcases List.mem_append.1 hx with hx | hx
        · exact ho' x (by simpa using (List.mem_filter.1 hx).2)
        · obtain ⟨js, hjs, hjx⟩ := List.mem_flatten.1 hx
          obtain ⟨i, hi, rfl⟩ := List.mem_map.1 hjs
          exact reqF_spec hcl f i (ho' i (by simpa using (List.mem_filter.1 hi).2)) x hjx
  refine SCode.drawAny hm hord (fun L st' => ((∀ k, l1.length ≤ k → L k = false) ∧ (⟨n, pick2 L 0 D s, H⟩ : St).Le st') ∨ ∃ (j : Nat) (R : St → Prop), l1.length ≤ j ∧ (∀ k, k < j → L k = true) ∧ (∀ k, j ≤ k → L k = false) ∧ SeqOk C (l1 ++ l2).toArray R (l2.drop (j - l1.length)) Rend ∧ R st') ?_ ?_ ?_
  · refine .inl ⟨fun _ _ => rfl, ?_⟩
    have : ∀ (D : List (Nat × DV)) i, pick2 (fun _ => false) i D s = s := fun D => by
      induction D with
      | nil => intro i; rfl
      | cons p D ih => intro i; simp [pick2, ih]
    rw [this D 0]
    exact ⟨rfl, fun t d h => .inl h, H, .refl _, .refl _⟩
  · intro L st' i o hi hLi hinv haft hbef hcl
    have hil := (List.getElem?_eq_some_iff.1 hi).1
    by_cases him : i < l1.length
    · have hi1 : l1[i]? = some o := by rw [List.getElem?_append_left him] at hi; exact hi
      rcases hinv with ⟨h1, h2⟩ | ⟨j, R, hj, h1, _⟩
      · refine (OpsOk.atDraw hts hnodup hsrc' hnd hops hi1 hLi h2 haft (fun k o' hk hka => hbef k o' (by rw [List.getElem?_append_left (List.getElem?_eq_some_iff.1 hk).1]; exact hk) hka)).mono (fun st2 h3 => .inl ⟨fun k hk => ?_, h3⟩)
        show (if k = i then true else L k) = false
        rw [if_neg (by omega)]; exact h1 k hk
      · rw [h1 i (by omega)] at hLi; cases hLi
    · have him : l1.length ≤ i := Nat.not_lt.1 him
      have hall := hwait L hcl i him hil (fun o' ho' => by rw [hi] at ho'; obtain rfl := Option.some.inj ho'; exact haft)
      have hR : ∃ R : St → Prop, SeqOk C (l1 ++ l2).toArray R (l2.drop (i - l1.length)) Rend ∧ R st' ∧ ∀ k, i ≤ k → L k = false := by
        rcases hinv with ⟨h1, h2⟩ | ⟨j, R, hj, h1, h2, h3, h4⟩
        · have hi0 : i = l1.length := by
            rcases Nat.lt_or_ge l1.length i with h | h
            · have := h1 _ (Nat.le_refl _); rw [hall _ h] at this; cases this
            · omega
          subst hi0
          refine ⟨_, by rw [Nat.sub_self]; exact hl2, ?_, h1⟩
          rw [pick2_all D 0 (fun k _ hk => hall k (by omega))] at h2
          exact h2
        · have hij : i = j := by
            rcases Nat.lt_trichotomy i j with h | h | h
            · rw [h1 i h] at hLi; cases hLi
            · exact h
            · have := h2 j (Nat.le_refl _); rw [hall j h] at this; cases this
          subst hij
          exact ⟨R, h3, h4, h2⟩
      obtain ⟨R, h3, h4, h5⟩ := hR
      have hi2 : l2[i - l1.length]? = some o := by rw [List.getElem?_append_right him] at hi; exact hi
      rw [List.drop_eq_getElem_cons (List.getElem?_eq_some_iff.1 hi2).1] at h3
      have ho : l2[i - l1.length]'(List.getElem?_eq_some_iff.1 hi2).1 = o := (List.getElem?_eq_some_iff.1 hi2).2
      rw [ho] at h3
      cases h3 with
      | @cons _ R1 _ _ _ h k =>
        refine (h st' h4).mono (fun st2 h6 => .inr ⟨i + 1, R1, by omega, fun k hk => ?_, fun k hk => ?_, by rw [show i + 1 - l1.length = i - l1.length + 1 from by omega]; exact k, h6⟩)
        · show (if k = i then true else L k) = true
          by_cases hki : k = i
          · rw [if_pos hki]
          · rw [if_neg hki]; exact hall k (by omega)
        · show (if k = i then true else L k) = false
          rw [if_neg (by omega)]; exact h5 k (by omega)
  · intro L st' hall hinv
    rcases hinv with ⟨h1, h2⟩ | ⟨j, R, hj, h1, h2, h3, h4⟩
    · cases l2 with
      | nil =>
        cases hl2
        rw [pick2_all D 0 (fun k _ hk => hall k (by simp; omega))] at h2
        exact hQ _ h2
      | cons o os =>
        have := h1 l1.length (Nat.le_refl _)
        rw [hall _ (by simp)] at this; cases this
    · have hj2 : (l1 ++ l2).length ≤ j := by
        rcases Nat.lt_or_ge j (l1 ++ l2).length with h | h
        · have := h2 j (Nat.le_refl _); rw [hall j h] at this; cases this
        · exact h
      rw [List.length_append] at hj2
      rw [List.drop_eq_nil_of_le (by omega)] at h3
      cases h3
      exact hQ _ h4
theorem SCode.drawSeqAt {C : Ctx} {id : Nat} {l : List Oper} (m : Nat) {n : Nat} {s : List (Nat × DV)} {H : DHeap} {Q : Exit → St → Prop} (Rend : St → Prop) (f : Nat) (hm : C.P.follows .mixedOrders = true) (D : List (Nat × DV)) (ts : List Nat) (srcs : List (List (Nat ⊕ Nat))) (nds : List (List (Nat × DV)))
    (hts : D.map (·.1) = ts) (hB : drawB (l.take m) ts srcs = true) (hd : distB ts = true) (hord : ordB l = true) (hseq : seqB l m f = true) (hml : (l.take m).length = m) (hnd : srcs.map (needOf D s) = nds) (hops : OpsOk C l.toArray n H (l.take m) nds D)
    (hl2 : SeqOk C l.toArray (fun st => (⟨n, D ++ s, H⟩ : St).Le st) (l.drop m) Rend) (hQ : ∀ st, Rend st → ∃ s2 : St, s2.Le st ∧ Q .normal s2) : SCode C (.region id l.toArray true) ⟨n, s, H⟩ Q := by
  have e := List.take_append_drop m l
  have := SCode.drawSeq (C := C) (id := id) (l.take m) (l.drop m) (n := n) (s := s) (H := H) (Q := Q) (Rend := Rend) f hm D ts srcs nds hts hB hd (by rw [e]; exact hord) (by rw [e, hml]; exact hseq) hnd (by rw [e]; exact hops) (by rw [e]; exact hl2) hQ
  rwa [e] at this
/-- A call that is handed the last own blocks. -/
theorem SOps.callR {C : Ctx} {st : St} {ops : Array Oper} {rest : List Oper} {R : St → Prop} {t : Tmp} {ty : TypeId} {pos : String} {aft : Array Edge} {g : Option (Nat × Bool)} {f : FuncId} {xs : Array Operand} {ats : Array TypeId} {ds : List DV} (H G : DHeap) {Rr : DV → DHeap → Prop} (hf : GCall C.P C.E f ds H Rr) (hxs : st.vals xs.toList = some ds)
    (hH : st.heap = G ++ H) (hrest : ∀ d H', Rr d H' → SOps C ops rest ⟨st.n, (t, d) :: st.slots, G ++ H'⟩ R)
    (hg : st.wants ops g = some true := by rfl) (ht : Nat.blt t st.n = true := by rfl) :
    SOps C ops (⟨some t, .call { callee := .value (.func f), args := xs, argTypes := ats }, ty, pos, aft, g⟩ :: rest) st R := by
  have hv : ∀ (l : List Operand) (ds : List DV), st.vals l = some ds → (⟨st.n, st.slots, H ++ G⟩ : St).vals l = some ds := fun l => by
    induction l with
    | nil => exact fun ds h => h
    | cons x l ih =>
      intro ds h
      simp only [St.vals] at h ⊢
      split at h
      · rename_i d ds' h1 h2
        have e1 : (⟨st.n, st.slots, H ++ G⟩ : St).val x = some d := by cases x <;> exact h1
        rw [e1, ih ds' h2]; exact h
      · cases h
  have hgw : ∀ g, st.wants ops g = some true → (⟨st.n, st.slots, H ++ G⟩ : St).wants ops g = some true := fun g h => h
  refine SOps.weaken (st' := ⟨st.n, st.slots, H ++ G⟩) ⟨rfl, fun t d h => .inl h, G ++ H, List.perm_append_comm, by rw [hH]; exact List.Sublist.refl _⟩ ?_
  refine SOps.call (H := H) (G := G) hf (hv _ _ hxs) rfl (fun d H' h => ?_) (hgw _ hg) ht
  exact SOps.weaken (st' := ⟨st.n, (t, d) :: st.slots, G ++ H'⟩) ⟨rfl, fun t d h => .inl h, H' ++ G, List.perm_append_comm, List.Sublist.refl _⟩ (hrest d H' h)
/-! #### maps, told by what is found in them -/
theorem lookupL_upd {d0 : TypeDesc} {k k' : Value} (hk : isKey d0 k = true) (hk' : isKey d0 k' = true) (d : DV) : ∀ (es : List (Value × DV)), (∀ p ∈ es, isKey d0 p.1 = true) → lookupL (updL es k d) k' = if sameKey k' k then some d else lookupL es k'
  | [], _ => by simp only [updL, lookupL]
  | p :: es, h => by
    have hp := h p (List.mem_cons_self ..)
    simp only [updL]
    by_cases e : sameKey k p.1 = true
    · have e1 := (sameKey_iff hk hp).1 e
      rw [if_pos e]
      simp only [lookupL, ← e1]
      by_cases e2 : sameKey k' k = true
      · simp [e2]
      · simp [e2]
    · rw [if_neg e]
      simp only [lookupL]
      rw [lookupL_upd hk hk' d es (fun q hq => h q (List.mem_cons_of_mem _ hq))]
      by_cases e2 : sameKey k' p.1 = true
      · rw [if_pos e2]
        by_cases e3 : sameKey k' k = true
        · exact absurd ((sameKey_iff hk hp).2 (((sameKey_iff hk' hk).1 e3).symm.trans ((sameKey_iff hk' hp).1 e2))) e
        · simp [e2, e3]
      · simp [e2]
theorem updL_keys {d0 : TypeDesc} {k : Value} (hk : isKey d0 k = true) (d : DV) : ∀ (es : List (Value × DV)), (∀ p ∈ es, isKey d0 p.1 = true) → ∀ p ∈ updL es k d, isKey d0 p.1 = true
  | [], _, p, hp => by simp [updL] at hp; subst hp; exact hk
  | q :: es, h, p, hp => by
    simp only [updL] at hp
    split at hp
    · rcases List.mem_cons.1 hp with rfl | hp
      · exact hk
      · exact h p (List.mem_cons_of_mem _ hp)
    · rcases List.mem_cons.1 hp with rfl | hp
      · exact h _ (List.mem_cons_self ..)
      · exact updL_keys hk d es (fun q hq => h q (List.mem_cons_of_mem _ hq)) p hp
end Go.GH
namespace Go.GH
open Go

def encBy (r : Int) : List UInt8 := (Utf8.encode r).data.toList
def cY (n : Nat) : List DV := [.v (.int .u8 (n : Int))]
theorem encY_ofNat {n : Nat} (h : n < 256) : encY (UInt8.ofNat n) = cY n := by
  simp [encY, cY]; omega
theorem u8wrap {n : Int} (h : 0 ≤ n) : IntKind.u8.wrap n = n % 256 := by
  simp [IntKind.wrap, IntKind.signed, IntKind.bits]
  
theorem u32wrap {n : Int} (h : 0 ≤ n) (h2 : n ≤ 4294967295) : IntKind.u32.wrap n = n := wrap_id (by
  simp [IntKind.has, IntKind.min, IntKind.max, IntKind.signed, IntKind.bits]; omega)
def orB (a x : Int) : Int := IntKind.u8.wrap (BitVec.ofInt 8 a ||| BitVec.ofInt 8 x).toNat
def andB (a x : Int) : Int := IntKind.u8.wrap (BitVec.ofInt 8 a &&& BitVec.ofInt 8 x).toNat
theorem or192 : ∀ q : Fin 32, orB 192 ((q.val : Nat) : Int) = 192 + q.val := by decide +kernel
theorem or224 : ∀ q : Fin 16, orB 224 ((q.val : Nat) : Int) = 224 + q.val := by decide +kernel
theorem or240 : ∀ q : Fin 8, orB 240 ((q.val : Nat) : Int) = 240 + q.val := by decide +kernel
theorem or128 : ∀ q : Fin 64, orB 128 ((q.val : Nat) : Int) = 128 + q.val := by decide +kernel
theorem and63 : ∀ q : Fin 256, andB ((q.val : Nat) : Int) 63 = ((q.val % 64 : Nat) : Int) := by decide +kernel
theorem or192' {q : Nat} (h : q < 32) : orB 192 (q : Int) = ((192 + q : Nat) : Int) := by have := or192 ⟨q, h⟩; simpa using this
theorem or224' {q : Nat} (h : q < 16) : orB 224 (q : Int) = ((224 + q : Nat) : Int) := by have := or224 ⟨q, h⟩; simpa using this
theorem or240' {q : Nat} (h : q < 8) : orB 240 (q : Int) = ((240 + q : Nat) : Int) := by have := or240 ⟨q, h⟩; simpa using this
theorem or128' {q : Nat} (h : q < 64) : orB 128 (q : Int) = ((128 + q : Nat) : Int) := by have := or128 ⟨q, h⟩; simpa using this
theorem and63' {q : Nat} (h : q < 256) : andB (q : Int) 63 = ((q % 64 : Nat) : Int) := by have := and63 ⟨q, h⟩; simpa using this
theorem u8nat (n : Nat) : IntKind.u8.wrap (n : Int) = ((n % 256 : Nat) : Int) := by
  rw [u8wrap (by omega)]; omega
/-- the low six bits of place k -/
theorem low6 (c d : Nat) (hd : d ≠ 0) : orB 128 (andB (IntKind.u8.wrap ((c / d : Nat) : Int)) 63) = ((128 + c / d % 64 : Nat) : Int) := by
  rw [u8nat, and63' (by omega), or128' (by omega)]
  congr 2
  omega
theorem low60 (c : Nat) : orB 128 (andB (IntKind.u8.wrap ((c : Nat) : Int)) 63) = ((128 + c % 64 : Nat) : Int) := by
  have := low6 c 1 (by decide)
  simpa using this
theorem fdiv_nat (c d : Nat) : Int.fdiv (c : Int) (d : Int) = ((c / d : Nat) : Int) := by
  rw [Int.fdiv_eq_ediv_of_nonneg _ (by omega)]; rfl
theorem valid_cases {r : Int} (h : Utf8.valid r = true) : ∃ c : Nat, r = (c : Int) ∧ (c < 55296 ∨ (57344 ≤ c ∧ c ≤ 1114111)) := by
  simp only [Utf8.valid, Bool.or_eq_true, Bool.and_eq_true, decide_eq_true_eq] at h
  exact ⟨r.toNat, by omega, by omega⟩
theorem enc_1 {c : Nat} (hv : Utf8.valid (c : Int) = true) (h : c < 128) : Utf8.encode (c : Int) = ⟨#[UInt8.ofNat c]⟩ := by
  unfold Utf8.encode
  rw [if_pos hv]
  exact if_pos h
theorem enc_2 {c : Nat} (hv : Utf8.valid (c : Int) = true) (h0 : 128 ≤ c) (h : c < 2048) : Utf8.encode (c : Int) = ⟨#[UInt8.ofNat (192 + c / 64), UInt8.ofNat (128 + c % 64)]⟩ := by
  unfold Utf8.encode
  rw [if_pos hv]
  exact (if_neg (show ¬ c < 128 by omega)).trans (if_pos h)
theorem enc_3 {c : Nat} (hv : Utf8.valid (c : Int) = true) (h0 : 2048 ≤ c) (h : c < 65536) : Utf8.encode (c : Int) = ⟨#[UInt8.ofNat (224 + c / 4096), UInt8.ofNat (128 + c / 64 % 64), UInt8.ofNat (128 + c % 64)]⟩ := by
  unfold Utf8.encode
  rw [if_pos hv]
  exact (if_neg (show ¬ c < 128 by omega)).trans ((if_neg (show ¬ c < 2048 by omega)).trans (if_pos h))
theorem enc_4 {c : Nat} (hv : Utf8.valid (c : Int) = true) (h0 : 65536 ≤ c) : Utf8.encode (c : Int) = ⟨#[UInt8.ofNat (240 + c / 262144), UInt8.ofNat (128 + c / 4096 % 64), UInt8.ofNat (128 + c / 64 % 64), UInt8.ofNat (128 + c % 64)]⟩ := by
  unfold Utf8.encode
  rw [if_pos hv]
  exact (if_neg (show ¬ c < 128 by omega)).trans ((if_neg (show ¬ c < 2048 by omega)).trans (if_neg (show ¬ c < 65536 by omega)))
theorem encBy_1 {c : Nat} (hv : Utf8.valid (c : Int) = true) (h : c < 128) : (encBy (c : Int)).map encY = [cY c] := by
  rw [encBy, enc_1 hv h]
  show [encY (UInt8.ofNat c)] = _
  rw [encY_ofNat (show c < 256 by omega)]
theorem encBy_2 {c : Nat} (hv : Utf8.valid (c : Int) = true) (h0 : 128 ≤ c) (h : c < 2048) : (encBy (c : Int)).map encY = [cY (192 + c / 64), cY (128 + c % 64)] := by
  rw [encBy, enc_2 hv h0 h]
  show [encY (UInt8.ofNat (192 + c / 64)), encY (UInt8.ofNat (128 + c % 64))] = _
  rw [encY_ofNat (show 192 + c / 64 < 256 by omega), encY_ofNat (show 128 + c % 64 < 256 by omega)]
theorem encBy_3 {c : Nat} (hv : Utf8.valid (c : Int) = true) (h0 : 2048 ≤ c) (h : c < 65536) : (encBy (c : Int)).map encY = [cY (224 + c / 4096), cY (128 + c / 64 % 64), cY (128 + c % 64)] := by
  rw [encBy, enc_3 hv h0 h]
  show [encY (UInt8.ofNat (224 + c / 4096)), encY (UInt8.ofNat (128 + c / 64 % 64)), encY (UInt8.ofNat (128 + c % 64))] = _
  rw [encY_ofNat (show 224 + c / 4096 < 256 by omega), encY_ofNat (show 128 + c / 64 % 64 < 256 by omega), encY_ofNat (show 128 + c % 64 < 256 by omega)]
theorem encBy_4 {c : Nat} (hv : Utf8.valid (c : Int) = true) (h0 : 65536 ≤ c) (h : c ≤ 1114111) : (encBy (c : Int)).map encY = [cY (240 + c / 262144), cY (128 + c / 4096 % 64), cY (128 + c / 64 % 64), cY (128 + c % 64)] := by
  rw [encBy, enc_4 hv h0]
  show [encY (UInt8.ofNat (240 + c / 262144)), encY (UInt8.ofNat (128 + c / 4096 % 64)), encY (UInt8.ofNat (128 + c / 64 % 64)), encY (UInt8.ofNat (128 + c % 64))] = _
  rw [encY_ofNat (show 240 + c / 262144 < 256 by omega), encY_ofNat (show 128 + c / 4096 % 64 < 256 by omega), encY_ofNat (show 128 + c / 64 % 64 < 256 by omega), encY_ofNat (show 128 + c % 64 < 256 by omega)]
theorem encBy_len (r : Int) : (encBy r).length ≤ 4 := encode_size r
theorem encBy_pos (r : Int) : 1 ≤ (encBy r).length := encode_pos r
theorem encs_data : ∀ rs : List Int, (encs rs).data.toList = (rs.map encBy).flatten
  | [] => rfl
  | r :: rs => by
    rw [encs, List.map_cons, List.flatten_cons, ← encs_data rs]
    simp [encBy]
end Go.GH
namespace Go.GH
open Go Go.Lib

/-! #### a word is the bytes of its runes -/
theorem encBy_lib (c : Nat) (hv : Utf8.valid (c : Int) = true) : encBy (c : Int) = encodeRune (c : Int) := by
  obtain ⟨c', h1, hc⟩ := valid_cases hv
  have hcc : c' = c := by omega
  subst hcc
  have u : ∀ n : Nat, n < 256 → UInt8.ofNat n = (n : Int).toNat.toUInt8 := fun n _ => rfl
  unfold encodeRune
  by_cases h1 : c' < 128
  · rw [encBy, enc_1 hv h1, encodeRuneZ_one (by omega) (by omega)]; rfl
  · by_cases h2 : c' < 2048
    · rw [encBy, enc_2 hv (by omega) h2, encodeRuneZ_two (by omega) (by omega)]
      show [UInt8.ofNat (192 + c' / 64), UInt8.ofNat (128 + c' % 64)] = [(192 + (c' : Int) / 64).toNat.toUInt8, (128 + (c' : Int) % 64).toNat.toUInt8]
      rw [show (192 + (c' : Int) / 64).toNat = 192 + c' / 64 from by omega, show (128 + (c' : Int) % 64).toNat = 128 + c' % 64 from by omega]
    · by_cases h3 : c' < 65536
      · rw [encBy, enc_3 hv (by omega) h3, encodeRuneZ_three (by omega)]
        show [UInt8.ofNat (224 + c' / 4096), UInt8.ofNat (128 + c' / 64 % 64), UInt8.ofNat (128 + c' % 64)] = [(224 + (c' : Int) / 4096).toNat.toUInt8, (128 + (c' : Int) / 64 % 64).toNat.toUInt8, (128 + (c' : Int) % 64).toNat.toUInt8]
        rw [show (224 + (c' : Int) / 4096).toNat = 224 + c' / 4096 from by omega, show (128 + (c' : Int) / 64 % 64).toNat = 128 + c' / 64 % 64 from by omega, show (128 + (c' : Int) % 64).toNat = 128 + c' % 64 from by omega]
      · rw [encBy, enc_4 hv (by omega), encodeRuneZ_four (by omega) (by omega)]
        show [UInt8.ofNat (240 + c' / 262144), UInt8.ofNat (128 + c' / 4096 % 64), UInt8.ofNat (128 + c' / 64 % 64), UInt8.ofNat (128 + c' % 64)] = [(240 + (c' : Int) / 262144).toNat.toUInt8, (128 + (c' : Int) / 4096 % 64).toNat.toUInt8, (128 + (c' : Int) / 64 % 64).toNat.toUInt8, (128 + (c' : Int) % 64).toNat.toUInt8]
        rw [show (240 + (c' : Int) / 262144).toNat = 240 + c' / 262144 from by omega, show (128 + (c' : Int) / 4096 % 64).toNat = 128 + c' / 4096 % 64 from by omega, show (128 + (c' : Int) / 64 % 64).toNat = 128 + c' / 64 % 64 from by omega, show (128 + (c' : Int) % 64).toNat = 128 + c' % 64 from by omega]
theorem data_app2 (x y : ByteArray) : (x ++ y).data.toList = x.data.toList ++ y.data.toList := by simp
theorem encs_cons_data (r : Int) (rs : List Int) : (encs (r :: rs)).data.toList = encBy r ++ (encs rs).data.toList := by
  rw [encs, data_app2, encBy]
theorem step_bytes (s : ByteArray) (p : Nat) (hp : p < s.size) (h : stepOK s (p, ((Utf8.decode s p).1 : Int)) = true) : encBy ((Utf8.decode s p).1 : Int) = (s.data.toList.drop p).take (Utf8.decode s p).2 := by
  have hd := decodeL_drop s p
  have hlen : (s.data.toList.drop p).length = s.size - p := by simp
  have hne : s.data.toList.drop p ≠ [] := by
    intro h; rw [h] at hlen; simp at hlen; omega
  rw [step_valid s p hp] at h
  have h' : ¬ ((Utf8.decode s p).1 = 65533 ∧ (Utf8.decode s p).2 = 1) := fun hb => by rw [decide_eq_true hb] at h; cases h
  have := encode_decode _ hne (by rw [hd]; exact h')
  rw [hd] at this
  rw [← this, encBy_lib _ (decode_valid s p)]
theorem encs_at (s : ByteArray) : ∀ (f p : Nat), s.size - p ≤ f → (steps s p).all (stepOK s) = true → (encs (runesAt s p)).data.toList = s.data.toList.drop p
  | 0, p, h, _ => by rw [runesAt_ge (by omega), List.drop_eq_nil_of_le (by simp; omega)]; rfl
  | f + 1, p, h, hv => by
    by_cases hp : p < s.size
    · have hw := decode_w s p
      rw [steps_lt hp, List.all_cons, Bool.and_eq_true] at hv
      have ih := encs_at s f (p + (Utf8.decode s p).2) (by omega) hv.2
      rw [runesAt_lt hp, encs_cons_data, ih, step_bytes s p hp hv.1, ← List.drop_drop, List.take_append_drop]
    · rw [runesAt_ge (by omega), List.drop_eq_nil_of_le (by simp; omega)]; rfl
theorem encs_runes {s : ByteArray} (h : utf8R s = true) : encs (runes s) = s := by
  have := encs_at s _ 0 (Nat.le_refl _) h
  rw [runesAt_zero, List.drop_zero] at this
  apply ByteArray.ext
  exact Array.toList_inj.1 this
theorem encs_append : ∀ x y : List Int, encs (x ++ y) = encs x ++ encs y
  | [], y => by
    apply ByteArray.ext
    simp [encs]
  | r :: x, y => by rw [List.cons_append, encs, encs, encs_append x y, ByteArray.append_assoc]
end Go.GH
namespace Go.GH
open Go Go.RowKit
section
variable {C : Ctx} {E : Env} {base : Base} {F : Nat → Prop} {st : St} {a : Act} {w : World} {ops : Array Oper} {rest : List Oper} {R : St → Prop}
  {t : Tmp} {ty : TypeId} {pos : String} {aft : Array Edge} {g : Option (Nat × Bool)}

theorem intB_slice {P : Program} {T e : TypeId} (h : P.underlying T = some (.slice e)) : ((P.underlying T).map (fun d => match d with | .int _ => true | _ => false)) = some false := by rw [h]; rfl
theorem append_zero {P : Program} {w : World} {T e sz : Nat} (hT : sliceB P T e sz = true) (ty : TypeId) (A A' : Option Addr) (len cap c' : Nat) (hcap : len ≤ cap) :
    (Builtin.append_ #[T, T] ty #[.slice A len cap, .slice A' 0 c']).run P w = .ok (.slice A len cap) w := by
  obtain ⟨hu, i, hi, hs⟩ := sliceB_spec hT
  unfold Builtin.append_
  simp only [List.getElem?_toArray, List.getElem?_cons_zero, List.getElem?_cons_succ, Sem.run_bind, run_underlying hu, Result.andThen_ok, sizeOf, typeInfo, run_program, hi, Sem.run_pure, pure_bind, Builtin.lenOf, Bool.false_eq_true, if_false, Bool.not_false, if_true, Nat.add_zero, if_pos hcap]
  cases A' with
  | none => cases A <;> simp [Builtin.firstCells, storeCells]
  | some b => cases A <;> simp [Builtin.firstCells, loadCells, loadCellsFrom, storeCells]
/-- Nothing is appended. -/
theorem SOps.append0 {T e sz : Nat} {xo yo : Operand} {d dy : DV} (hT : sliceB C.P T e sz = true) (hx : st.val xo = some d) (hd : (∃ b n, d = .sl b sz 0 n) ∨ d = .v (.slice none 0 0)) (hy : st.val yo = some dy) (hs' : SrcD st dy sz [])
    (hrest : SOps C ops rest (st.put t d) R)
    (hg : st.wants ops g = some true := by rfl) (ht : Nat.blt t st.n = true := by rfl) :
    SOps C ops (⟨some t, .call { callee := .builtin .append, args := #[xo, yo], argTypes := #[T, T] }, ty, pos, aft, g⟩ :: rest) st R :=
  SOps.val rfl hg ht (fun base a w F hs => by
    have h1 := hs.val hx
    obtain ⟨A', m, c', news, h2, h3, _⟩ := hs.src (hs.val hy) hs'
    simp only [List.length_nil] at h3
    subst h3
    refine ⟨a.eval xo, ?_, h1⟩
    have key : ∃ A len cap, a.eval xo = .slice A len cap ∧ len ≤ cap := by
      generalize a.eval xo = v at h1
      rcases hd with ⟨b, n, rfl⟩ | rfl
      · cases h1 with
        | sl q1 q2 q3 q4 => exact ⟨_, _, _, rfl, q1⟩
      · exact ⟨none, 0, 0, h1.inv_v.1, Nat.le_refl _⟩
    obtain ⟨A, len, cap, h4, h5⟩ := key
    have := append_zero (P := C.P) (w := w) hT ty A A' len cap c' h5
    rw [exec_append a xo yo T (v := .slice A len cap) (w' := w) (by rw [h2, h4]; exact this), h4]) hrest
/-- append onto a slice that owns its row, of what may be nothing. -/
theorem SOps.appendOwnE (i : Nat) {T e sz by_ b n : Nat} {xo yo : Operand} {d : DV} {es ns : List (List DV)} (hT : sliceB C.P T e sz = true) (hE : elemB C.P e sz by_ = true) (hx : st.val xo = some (.sl b sz 0 n)) (hy : st.val yo = some d)
    (hi : st.heap[i]? = some (b, .row e sz es)) (hn : es.length = n) (hs' : SrcD st d sz ns) (hB : n + ns.length ≤ lenB) (hby : (n + ns.length) * by_ ≤ 140737488355328)
    (hrest : ∀ b', SOps C ops rest ⟨st.n, (t, .sl b' sz 0 (n + ns.length)) :: st.slots, st.heap.set i (b', .row e sz (es ++ ns))⟩ R)
    (hg : st.wants ops g = some true := by rfl) (ht : Nat.blt t st.n = true := by rfl) :
    SOps C ops (⟨some t, .call { callee := .builtin .append, args := #[xo, yo], argTypes := #[T, T] }, ty, pos, aft, g⟩ :: rest) st R := by
  cases ns with
  | nil =>
    refine SOps.append0 hT hx (.inl ⟨b, n, rfl⟩) hy hs' ?_ hg ht
    have h0 := hrest b
    have e1 : st.heap.set i (b, .row e sz (es ++ [])) = st.heap := by
      rw [List.append_nil]
      apply List.ext_getElem?
      intro j
      rw [List.getElem?_set]
      split
      · rename_i e; subst e
        rw [if_pos (List.getElem?_eq_some_iff.1 hi).1]; exact hi.symm
      · rfl
    rw [e1] at h0
    exact h0
  | cons x ns => exact SOps.appendOwn i hT hE hx hy hi hn hs' (by simp) hB hby (fun b' _ => hrest b') hg ht
/-- append onto an accumulator, of what may be nothing. -/
theorem SOps.appendAccE (H1 H2 : DHeap) {T e sz by_ b : Nat} {xo yo : Operand} {d : DV} {es ns : List (List DV)} (hT : sliceB C.P T e sz = true) (hE : elemB C.P e sz by_ = true) (hx : st.val xo = some (accD sz b es)) (hy : st.val yo = some d)
    (hh : st.heap = H1 ++ (accH e sz b es ++ H2)) (hs' : SrcD st d sz ns) (hB : es.length + ns.length ≤ lenB) (hby : (es.length + ns.length) * by_ ≤ 140737488355328)
    (hrest : ∀ b', SOps C ops rest ⟨st.n, (t, accD sz b' (es ++ ns)) :: st.slots, H1 ++ (accH e sz b' (es ++ ns) ++ H2)⟩ R)
    (hg : st.wants ops g = some true := by rfl) (ht : Nat.blt t st.n = true := by rfl) :
    SOps C ops (⟨some t, .call { callee := .builtin .append, args := #[xo, yo], argTypes := #[T, T] }, ty, pos, aft, g⟩ :: rest) st R := by
  cases ns with
  | nil =>
    have h0 := hrest b
    rw [List.append_nil, ← hh] at h0
    refine SOps.append0 hT hx ?_ hy hs' h0 hg ht
    cases es with
    | nil => exact .inr rfl
    | cons x es => exact .inl ⟨b, es.length + 1, rfl⟩
  | cons x ns => exact SOps.appendAcc H1 H2 hT hE hx hy hh hs' (by simp) hB hby hrest hg ht
theorem SOps.reSlot {l : List Oper} {d d' : DV} (hd : st.get t = some d) (he : d = d') (h : SOps C ops l ⟨st.n, (t, d') :: st.slots, st.heap⟩ R) : SOps C ops l st R := by
  subst he
  have key : ∀ u e, getL ((t, d) :: st.slots) u = some e → getL st.slots u = some e := fun u e hu => by
    rw [getL_cons] at hu
    split at hu
    · rename_i h1
      simp only at h1
      subst h1
      obtain rfl := Option.some.inj hu
      exact hd
    · exact hu
  exact SOps.weaken (st' := ⟨st.n, (t, d) :: st.slots, st.heap⟩) ⟨rfl, fun u e hu => .inl (key u e hu), st.heap, .refl _, List.Sublist.refl _⟩ h
end
end Go.GH
namespace Go.GH
open Go Go.RowKit
abbrev ORes := Option (Nat × DV)
def pickO (L : Nat → Bool) : Nat → List ORes → List (Nat × DV) → List (Nat × DV)
  | _, [], s => s
  | i, none :: D, s => pickO L (i + 1) D s
  | i, some p :: D, s => if L i then p :: pickO L (i + 1) D s else pickO L (i + 1) D s
def needO (D : List ORes) (s : List (Nat × DV)) : List (Nat ⊕ Nat) → List (Nat × DV)
  | [] => []
  | .inl j :: r => match D[j]? with
    | some (some p) => p :: needO D s r
    | _ => needO D s r
  | .inr t :: r => match getL s t with
    | some d => (t, d) :: needO D s r
    | none => needO D s r
def srcO (l : List Oper) (ts : List (Option Nat)) (i : Nat) (o : Oper) : Nat ⊕ Nat → Bool
  | .inl j => afterB o j
  | .inr t => (ts.zipIdx).all (fun p => !(p.1 == some t) || Nat.beq p.2 i || nthB l p.2 (fun o' => afterB o' i))
def distO : List (Option Nat) → Bool
  | [] => true
  | none :: ts => distO ts
  | some t :: ts => ts.all (fun u => !(u == some t)) && distO ts
def resO (D : List ORes) : List (Nat × DV) := D.filterMap id
theorem pickO_none {L : Nat → Bool} {t : Nat} : ∀ (D : List ORes) (i : Nat) (s : List (Nat × DV)), (∀ k p, D[k]? = some (some p) → p.1 = t → L (i + k) = false) → getL (pickO L i D s) t = getL s t
  | [], _, _, _ => rfl
  | q :: D, i, s, h => by
    have ih := pickO_none D (i + 1) s (fun k q hk hq => by have := h (k + 1) q (by simpa using hk) hq; rwa [show i + 1 + k = i + (k + 1) from by omega])
    cases q with
    | none => exact ih
    | some p =>
      simp only [pickO]
      split
      · rename_i hl
        rw [getL_cons, if_neg (fun e => by have := h 0 p rfl e; rw [Nat.add_zero, hl] at this; cases this)]
        exact ih
      · exact ih
theorem distO_none {t : Nat} : ∀ {D : List ORes}, ((D.map (fun x => x.map (·.1))).all (fun u => !(u == some t))) = true → ∀ (k : Nat) p, D[k]? = some (some p) → p.1 ≠ t := by
  intro D h k p hk e
  have := List.all_eq_true.1 h (some p.1) (List.mem_map.2 ⟨some p, List.mem_of_getElem? hk, rfl⟩)
  simp [e] at this
theorem pickO_some {L : Nat → Bool} : ∀ (D : List ORes) (i j : Nat) (s : List (Nat × DV)) (p : Nat × DV), distO (D.map (fun x => x.map (·.1))) = true → D[j]? = some (some p) → L (i + j) = true → getL (pickO L i D s) p.1 = some p.2
  | [], _, _, _, _, _, h, _ => by simp at h
  | q :: D, i, 0, s, p, _, h, hl => by
    simp at h
    subst h
    simp only [pickO]
    rw [Nat.add_zero] at hl
    rw [if_pos hl, getL_cons, if_pos rfl]
  | q :: D, i, j + 1, s, p, hd, h, hl => by
    have hj : D[j]? = some (some p) := by simpa using h
    have hl' : L (i + 1 + j) = true := by rwa [show i + 1 + j = i + (j + 1) from by omega]
    cases q with
    | none => exact pickO_some D (i + 1) j s p (by simpa [distO] using hd) hj hl'
    | some q =>
      simp only [List.map_cons, Option.map_some, distO, Bool.and_eq_true] at hd
      have ih := pickO_some D (i + 1) j s p hd.2 hj hl'
      simp only [pickO]
      split
      · rw [getL_cons, if_neg (fun e => distO_none hd.1 j p hj e.symm)]
        exact ih
      · exact ih
theorem pickO_all {L : Nat → Bool} {s : List (Nat × DV)} : ∀ (D : List ORes) (b : Nat), (∀ k, b ≤ k → k < b + D.length → L k = true) → pickO L b D s = resO D ++ s
  | [], _, _ => rfl
  | q :: D, b, h => by
    have ih := pickO_all (s := s) D (b + 1) (fun k h1 h2 => h k (by omega) (by simp only [List.length_cons]; omega))
    cases q with
    | none => simpa [pickO, resO] using ih
    | some q => simp only [pickO, h b (Nat.le_refl _) (by simp), if_true, ih, resO, List.filterMap_cons, id, List.cons_append]
theorem pickO_false {s : List (Nat × DV)} : ∀ (D : List ORes) (i : Nat), pickO (fun _ => false) i D s = s
  | [], _ => rfl
  | none :: D, i => pickO_false D (i + 1)
  | some _ :: D, i => by simp [pickO, pickO_false D (i + 1)]
theorem pickO_set {L : Nat → Bool} {s : List (Nat × DV)} {t : Nat} {i : Nat} : ∀ (D D' : List ORes) (b : Nat), D.length = D'.length → (∀ k, b + k ≠ i → L (b + k) = true → D'[k]? = D[k]?) → (∀ k p, D'[k]? = some (some p) → b + k = i → p.1 ≠ t) → (∀ (k : Nat) p, D[k]? = some (some p) → b + k = i → p.1 ≠ t) →
    getL (pickO L b D s) t = getL (pickO (fun k => if k = i then true else L k) b D' s) t
  | [], [], _, _, _, _, _ => rfl
  | [], _ :: _, _, h, _, _, _ => by simp at h
  | _ :: _, [], _, h, _, _, _ => by simp at h
  | q :: D, q' :: D', b, hl, h1, h2, h3 => by
    have ih := pickO_set (L := L) (s := s) (t := t) (i := i) D D' (b + 1) (by simpa using hl) (fun k hk hL => by
      have := h1 (k + 1) (by omega) (by rwa [show b + (k + 1) = b + 1 + k from by omega])
      simpa using this) (fun k p hk hb => h2 (k + 1) p (by simpa using hk) (by omega)) (fun k p hk hb => h3 (k + 1) p (by simpa using hk) (by omega))
    by_cases hbi : b = i
    · have e1 : getL (pickO L b (q :: D) s) t = getL (pickO L (b + 1) D s) t := by
        cases q with
        | none => rfl
        | some p =>
          simp only [pickO]
          split
          · rw [getL_cons, if_neg (h3 0 p rfl (by omega))]
          · rfl
      have e2 : getL (pickO (fun k => if k = i then true else L k) b (q' :: D') s) t = getL (pickO (fun k => if k = i then true else L k) (b + 1) D' s) t := by
        cases q' with
        | none => rfl
        | some p =>
          simp only [pickO, if_pos hbi, if_true]
          rw [getL_cons, if_neg (h2 0 p rfl (by omega))]
      rw [e1, e2, ih]
    · by_cases hL : L b = true
      · have e : q' = q := by simpa using h1 0 (by omega) (by simpa using hL)
        subst e
        cases q' with
        | none => exact ih
        | some p =>
          simp only [pickO, if_neg hbi, hL, if_true]
          rw [getL_cons, getL_cons, ih]
      · have hL' : L b = false := by simpa using hL
        have e1 : pickO L b (q :: D) s = pickO L (b + 1) D s := by cases q <;> simp [pickO, hL']
        have e2 : pickO (fun k => if k = i then true else L k) b (q' :: D') s = pickO (fun k => if k = i then true else L k) (b + 1) D' s := by cases q' <;> simp [pickO, hbi, hL']
        rw [e1, e2, ih]

/-- How many of the chain are done. -/
def cntL (L : Nat → Bool) (T : List Nat) : Nat := (T.filter L).length
theorem cnt_prefix {L : Nat → Bool} : ∀ (T : List Nat), (∀ (j : Nat) x y, T[j]? = some x → T[j + 1]? = some y → L y = true → L x = true) → ∀ (j x : Nat), T[j]? = some x → (L x = true ↔ j < cntL L T)
  | [], _, _, _, h => by simp at h
  | a :: T, hc, j, x, hj => by
    have ih := cnt_prefix T (fun j x y h1 h2 h3 => hc (j + 1) x y (by simpa using h1) (by simpa using h2) h3)
    by_cases ha : L a = true
    · have e : cntL L (a :: T) = cntL L T + 1 := by simp [cntL, ha]
      cases j with
      | zero => simp at hj; subst hj; rw [e]; exact ⟨fun _ => by omega, fun _ => ha⟩
      | succ j => rw [ih j x (by simpa using hj), e]; omega
    · have hall : ∀ (j : Nat) x, (a :: T)[j]? = some x → ¬ L x = true := by
        intro j
        induction j with
        | zero => intro x hx; simp at hx; subst hx; exact ha
        | succ j ihj =>
          intro x hx h
          have hlt := (List.getElem?_eq_some_iff.1 hx).1
          exact ihj _ (List.getElem?_eq_getElem (by omega)) (hc j _ x (List.getElem?_eq_getElem (by omega)) hx h)
      have e : cntL L (a :: T) = 0 := by
        unfold cntL
        rw [List.filter_eq_nil_iff.2 (fun x hx => by obtain ⟨j, hj⟩ := List.mem_iff_getElem?.1 hx; exact hall j x hj)]
        rfl
      rw [e]
      exact ⟨fun h => absurd h (hall j x hj), fun h => by omega⟩
theorem cnt_set {L : Nat → Bool} {i : Nat} (hi : L i = false) : ∀ (T : List Nat), T.Nodup → cntL (fun k => if k = i then true else L k) T = cntL L T + if i ∈ T then 1 else 0
  | [], _ => rfl
  | a :: T, h => by
    have hd := List.nodup_cons.1 h
    have ih := cnt_set hi T hd.2
    unfold cntL at ih ⊢
    by_cases ha : a = i
    · subst ha
      have : (if a ∈ T then 1 else 0) = 0 := if_neg hd.1
      rw [this] at ih
      rw [List.filter_cons_of_pos (by simp), List.filter_cons_of_neg (by simp [hi]), List.length_cons, ih, if_pos (List.mem_cons_self ..)]
    · have e : (i ∈ a :: T) ↔ i ∈ T := by simp [Ne.symm ha]
      simp only [List.filter_cons, if_neg ha]
      by_cases hL : L a = true
      · simp only [hL, if_true, List.length_cons, ih, e]; omega
      · simp only [hL, e]; exact ih
inductive StgOk (C : Ctx) (ops : Array Oper) (n : Nat) (Hs : Nat → Nat → DHeap) (o : Oper) (nd : Nat → List (Nat × DV)) (r : Nat → ORes) (tl al : Bool) : List Nat → Prop
  | nil : StgOk C ops n Hs o nd r tl al []
  | cons {c : Nat} {cs : List Nat} (h : ∀ b rest, SOps C ops [o] ⟨n, nd b ++ rest, Hs b c⟩ (fun st' => ∃ b', (al = false → b' = b) ∧ st' = ⟨n, (r b').toList ++ (nd b ++ rest), Hs b' (c + tl.toNat)⟩)) (k : StgOk C ops n Hs o nd r tl al cs) : StgOk C ops n Hs o nd r tl al (c :: cs)
theorem StgOk.at {C : Ctx} {ops : Array Oper} {n : Nat} {Hs : Nat → Nat → DHeap} {o : Oper} {nd : Nat → List (Nat × DV)} {r : Nat → ORes} {tl al : Bool} {cs : List Nat} (h : StgOk C ops n Hs o nd r tl al cs) {c : Nat} (hc : c ∈ cs) : ∀ b rest, SOps C ops [o] ⟨n, nd b ++ rest, Hs b c⟩ (fun st' => ∃ b', (al = false → b' = b) ∧ st' = ⟨n, (r b').toList ++ (nd b ++ rest), Hs b' (c + tl.toNat)⟩) := by
  induction h with
  | nil => cases hc
  | cons h k ih =>
    rcases List.mem_cons.1 hc with e | hc
    · subst e; exact h
    · exact ih hc
/-- What each operation does, at each stage at which its turn may come. -/
inductive MixOk (C : Ctx) (ops : Array Oper) (n : Nat) (Hs : Nat → Nat → DHeap) : List Oper → List (Nat → List (Nat × DV)) → List (Nat → ORes) → List (Bool × Bool × List Nat) → Prop
  | nil : MixOk C ops n Hs [] [] [] []
  | cons {o : Oper} {os : List Oper} {nd : Nat → List (Nat × DV)} {nds : List (Nat → List (Nat × DV))} {r : Nat → ORes} {D : List (Nat → ORes)} {tl al : Bool} {cs : List Nat} {K : List (Bool × Bool × List Nat)}
      (h : StgOk C ops n Hs o nd r tl al cs) (k : MixOk C ops n Hs os nds D K) : MixOk C ops n Hs (o :: os) (nd :: nds) (r :: D) ((tl, al, cs) :: K)
theorem MixOk.at {C : Ctx} {ops : Array Oper} {n : Nat} {Hs : Nat → Nat → DHeap} {os : List Oper} {nds : List (Nat → List (Nat × DV))} {D : List (Nat → ORes)} {K : List (Bool × Bool × List Nat)} (h : MixOk C ops n Hs os nds D K) : ∀ (i : Nat) o, os[i]? = some o →
    ∃ nd r tl al cs, nds[i]? = some nd ∧ D[i]? = some r ∧ K[i]? = some (tl, al, cs) ∧ StgOk C ops n Hs o nd r tl al cs := by
  induction h with
  | nil => intro i o hi; simp at hi
  | cons h k ih =>
    intro i o hi
    cases i with
    | zero => simp at hi; subst hi; exact ⟨_, _, _, _, _, rfl, rfl, rfl, h⟩
    | succ i => obtain ⟨nd, r, tl, al, cs, h1, h2, h3, h4⟩ := ih i o (by simpa using hi); exact ⟨nd, r, tl, al, cs, by simpa using h1, by simpa using h2, by simpa using h3, h4⟩
def memB (l : List Nat) (x : Nat) : Bool := l.any (fun y => Nat.beq y x)
theorem memB_iff {l : List Nat} {x : Nat} : memB l x = true ↔ x ∈ l := by
  unfold memB
  rw [List.any_eq_true]
  exact ⟨fun ⟨y, h, e⟩ => Nat.eq_of_beq_eq_true e ▸ h, fun h => ⟨x, h, by simp⟩⟩
/-- The chain is one, and the stages are all that may come. -/
def mixB (l : List Oper) (ts : List (Option Nat)) (srcs : List (List (Nat ⊕ Nat))) (T : List Nat) (K : List (Bool × Bool × List Nat)) (f : Nat) : Bool :=
  ordB l && distO ts && distB T && T.all (fun x => Nat.blt x l.length) && (T.zip (T.drop 1)).all (fun p => memB (reqF l f p.2) p.1) &&
  (l.zipIdx).all (fun p => match srcs[p.2]? with
    | some ss => ss.all (srcO l ts p.2 p.1)
    | none => true) &&
  (List.range l.length).all (fun i => match K[i]? with
    | some (tl, _, cs) => (tl == memB T i) && (List.range (T.length + 1)).all (fun c => memB cs c || (T.zipIdx).any (fun p => (Nat.blt p.2 c && (memB (reqF l f p.1) i || Nat.beq p.1 i)) || (!Nat.blt p.2 c && memB (reqF l f i) p.1)))
    | none => false)

theorem SCode.drawMix {C : Ctx} {id : Nat} {l : List Oper} {n : Nat} {s : List (Nat × DV)} {H : DHeap} {Q : Exit → St → Prop} (f : Nat) (T : List Nat) (hm : C.P.follows .mixedOrders = true) (D : List (Nat → ORes)) (ts : List (Option Nat)) (srcs : List (List (Nat ⊕ Nat))) (nds : List (Nat → List (Nat × DV))) (Hs : Nat → Nat → DHeap) (K : List (Bool × Bool × List Nat))
    (hB : mixB l ts srcs T K f = true) (hts : ∀ b, D.map (fun r => (r b).map (·.1)) = ts) (hlen : D.length = l.length) (hnd : ∀ b, nds.map (fun x => x b) = srcs.map (needO (D.map (fun r => r b)) s)) (hH : ∀ b, Hs b 0 = H)
    (hcoh : ∀ (j a : Nat) tl cs (r : Nat → ORes), K[a]? = some (tl, true, cs) → D[j]? = some r → (∀ b b', r b = r b') ∨ j = a ∨ ∃ o, l[j]? = some o ∧ afterB o a = true)
    (hops : MixOk C l.toArray n Hs l nds D K) (hQ : ∀ b, Q .normal ⟨n, resO (D.map (fun r => r b)) ++ s, Hs b T.length⟩) : SCode C (.region id l.toArray true) ⟨n, s, H⟩ Q := by
  simp only [mixB, Bool.and_eq_true, List.all_eq_true] at hB
  obtain ⟨⟨⟨⟨⟨⟨hord, hdist⟩, hdT⟩, hTl⟩, hchain⟩, hsrc⟩, hstg⟩ := hB
  have hdB : ∀ b, distO ((D.map (fun r => r b)).map (fun x => x.map (·.1))) = true := fun b => by
    have := hts b
    rw [List.map_map, show ((fun x : ORes => x.map (·.1)) ∘ fun r : Nat → ORes => r b) = (fun r => (r b).map (·.1)) from rfl, this]; exact hdist
  have hTn : T.Nodup := distB_spec T hdT
  refine SCode.drawAny hm hord (fun L st' => ∃ b, (⟨n, pickO L 0 (D.map (fun r => r b)) s, Hs b (cntL L T)⟩ : St).Le st') ?_ ?_ ?_
  · refine ⟨0, ?_⟩
    rw [pickO_false, show cntL (fun _ => false) T = 0 by simp [cntL], hH]
    exact ⟨rfl, fun t d h => .inl h, H, .refl _, .refl _⟩
  · intro L st' i o hi hLi hinv haft hbef hcl
    obtain ⟨b, hle⟩ := hinv
    have hil := (List.getElem?_eq_some_iff.1 hi).1
    obtain ⟨nd, r, tl, al, cs, h1, h2, h3, h4⟩ := hops.at i o hi
    have hreq : ∀ x ∈ reqF l f i, L x = true := fun x hx => by
      cases f with
      | zero => simp [reqF] at hx
      | succ f =>
        simp only [reqF, hi] at hx
        rcases List.mem_append.1 hx with hx | hx
        · exact haft x (by simpa using (List.mem_filter.1 hx).2)
        · obtain ⟨js, hjs, hjx⟩ := List.mem_flatten.1 hx
          obtain ⟨y, hy, rfl⟩ := List.mem_map.1 hjs
          exact reqF_spec hcl f y (haft y (by simpa using (List.mem_filter.1 hy).2)) x hjx
    have hpre := cnt_prefix T (fun j x y hx hy hLy => by
      have := hchain (x, y) (by
        rw [List.mem_iff_getElem?]
        refine ⟨j, ?_⟩
        rw [List.getElem?_zip_eq_some]
        exact ⟨hx, by rw [List.getElem?_drop, Nat.add_comm]; exact hy⟩)
      exact reqF_spec hcl f y hLy x (memB_iff.1 this))
    have hst := hstg i (List.mem_range.2 hil)
    simp only [h3, Bool.and_eq_true, List.all_eq_true] at hst
    obtain ⟨htl, hst⟩ := hst
    have hcT : cntL L T ≤ T.length := List.length_filter_le _ _
    have hc : cntL L T ∈ cs := by
      have := hst (cntL L T) (List.mem_range.2 (by omega))
      simp only [Bool.or_eq_true] at this
      rcases this with h | h
      · exact memB_iff.1 h
      · obtain ⟨p, hp, h⟩ := List.any_eq_true.1 h
        obtain ⟨j, hj⟩ := List.mem_iff_getElem?.1 hp
        rw [List.getElem?_zipIdx] at hj
        obtain ⟨x, hx, e⟩ := Option.map_eq_some_iff.1 hj
        subst e
        simp only [Nat.zero_add, Bool.or_eq_true, Bool.and_eq_true] at h
        rcases h with ⟨h5, h6⟩ | ⟨h5, h6⟩
        · have hlt : j < cntL L T := by simpa using h5
          have hLx := (hpre j x hx).2 hlt
          rcases h6 with h6 | h6
          · rw [reqF_spec hcl f x hLx i (memB_iff.1 h6)] at hLi; cases hLi
          · rw [Nat.eq_of_beq_eq_true h6, hLi] at hLx; cases hLx
        · have hLx := hreq x (memB_iff.1 h6)
          have := (hpre j x hx).1 hLx
          rw [show Nat.blt j (cntL L T) = true from Nat.ble_eq_true_of_le this] at h5
          cases h5
    refine SOps.weaken hle ?_
    have hneed : ∀ t d, getL (nd b) t = some d → getL (pickO L 0 (D.map (fun r => r b)) s) t = some d := by
      have hn := congrArg (fun x => x[i]?) (hnd b)
      simp only [List.getElem?_map, h1, Option.map_some] at hn
      obtain ⟨ss, hss, e⟩ := Option.map_eq_some_iff.1 hn.symm
      have hchk := hsrc (o, i) (by rw [List.mem_iff_getElem?]; exact ⟨i, by simp [List.getElem?_zipIdx, hi]⟩)
      simp only [hss, List.all_eq_true] at hchk
      rw [← e]
      have key : ∀ (ss : List (Nat ⊕ Nat)), (∀ x ∈ ss, srcO l ts i o x = true) → ∀ t d, getL (needO (D.map (fun r => r b)) s ss) t = some d → getL (pickO L 0 (D.map (fun r => r b)) s) t = some d := by
        intro ss
        induction ss with
        | nil => intro _ t d h; simp [needO, getL] at h
        | cons x ss ih =>
          intro hx t d h
          have ih' := ih (fun y hy => hx y (List.mem_cons_of_mem _ hy)) t d
          have hx0 := hx x (List.mem_cons_self ..)
          cases x with
          | inl j =>
            simp only [srcO] at hx0
            simp only [needO] at h
            split at h
            · rename_i q hq
              rw [getL_cons] at h
              split at h
              · rename_i e
                subst e
                obtain rfl := Option.some.inj h
                exact pickO_some _ 0 j s q (hdB b) hq (by simpa using haft j hx0)
              · exact ih' h
            · exact ih' h
          | inr u =>
            simp only [srcO, List.all_eq_true] at hx0
            simp only [needO] at h
            split at h
            · rename_i q hq
              rw [getL_cons] at h
              split at h
              · rename_i e
                simp only at e
                subst e
                obtain rfl := Option.some.inj h
                rw [pickO_none _ 0 s (fun k p hk hp => ?_)]
                · exact hq
                · have h4 := hx0 (some p.1, k) (by
                    rw [List.mem_iff_getElem?]
                    refine ⟨k, ?_⟩
                    rw [← hts b, List.getElem?_zipIdx]
                    simp only [List.getElem?_map] at hk ⊢
                    cases hD : D[k]? with
                    | none => rw [hD] at hk; simp at hk
                    | some rr => rw [hD] at hk; simp at hk; simp [hk])
                  simp only [hp, BEq.rfl, Bool.not_true, Bool.false_or, Bool.or_eq_true] at h4
                  rw [Nat.zero_add]
                  rcases h4 with h4 | h4
                  · rw [Nat.eq_of_beq_eq_true h4]; exact hLi
                  · unfold nthB at h4
                    split at h4
                    · rename_i o' ho'
                      exact hbef k o' ho' h4
                    · cases h4
              · exact ih' h
            · exact ih' h
      exact key ss hchk
    have hnl : ∀ t, getL (nd b ++ pickO L 0 (D.map (fun r => r b)) s) t = getL (pickO L 0 (D.map (fun r => r b)) s) t := by
      intro t
      have : ∀ (nd : List (Nat × DV)), (∀ d, getL nd t = some d → getL (pickO L 0 (D.map (fun r => r b)) s) t = some d) → getL (nd ++ pickO L 0 (D.map (fun r => r b)) s) t = getL (pickO L 0 (D.map (fun r => r b)) s) t := by
        intro nd
        induction nd with
        | nil => intro _; rfl
        | cons q nd ih =>
          intro h
          rw [List.cons_append, getL_cons]
          split
          · rename_i e
            exact (h q.2 (by rw [getL_cons, if_pos e])).symm
          · rename_i e
            exact ih (fun d hd => h d (by rw [getL_cons, if_neg e]; exact hd))
      exact this (nd b) (hneed t)
    refine SOps.weaken (st' := ⟨n, nd b ++ pickO L 0 (D.map (fun r => r b)) s, Hs b (cntL L T)⟩) ⟨rfl, fun t d ht => .inl ((hnl t).symm.trans ht), _, .refl _, .refl _⟩ ((h4.at hc b (pickO L 0 (D.map (fun r => r b)) s)).mono ?_)
    rintro st2 ⟨b', hb', rfl⟩
    have hcnt : cntL (fun k => if k = i then true else L k) T = cntL L T + tl.toNat := by
      rw [cnt_set hLi T hTn]
      have : tl = memB T i := by simpa using htl
      subst this
      by_cases hmem : i ∈ T
      · rw [if_pos hmem, memB_iff.2 hmem]; rfl
      · rw [if_neg hmem, show memB T i = false by cases h : memB T i with | false => rfl | true => exact absurd (memB_iff.1 h) hmem]; rfl
    refine ⟨b', rfl, fun t d ht => .inl ?_, _, by rw [hcnt], .refl _⟩
    show getL ((r b').toList ++ (nd b ++ pickO L 0 (D.map (fun r => r b)) s)) t = some d
    have ht : getL (pickO (fun k => if k = i then true else L k) 0 (D.map (fun r => r b')) s) t = some d := ht
    have hDi : ∀ b, (D.map (fun r => r b))[i]? = some (r b) := fun b => by simp [h2]
    have hcase : (∃ p, r b' = some p ∧ p.1 = t) ∨ (∀ p, r b' = some p → p.1 ≠ t) := by
      cases hr : r b' with
      | none => exact .inr (fun p h => by cases h)
      | some p =>
        by_cases e : p.1 = t
        · exact .inl ⟨p, rfl, e⟩
        · exact .inr (fun q h => by cases h; exact e)
    rcases hcase with ⟨p, hp, e⟩ | hne
    · subst e
      rw [hp]
      simp only [Option.toList_some, List.singleton_append]
      rw [getL_cons, if_pos rfl]
      rw [pickO_some _ 0 i s p (hdB b') (by rw [hDi, hp]) (by simp)] at ht
      exact ht
    · have e1 : getL ((r b').toList ++ (nd b ++ pickO L 0 (D.map (fun r => r b)) s)) t = getL (nd b ++ pickO L 0 (D.map (fun r => r b)) s) t := by
        cases hr : r b' with
        | none => rfl
        | some p => simp only [Option.toList_some, List.singleton_append]; rw [getL_cons, if_neg (hne p hr)]
      rw [e1, hnl, ← ht]
      refine pickO_set _ _ 0 (by simp) (fun k hk hLk => ?_) (fun k p hk hki => ?_) (fun k p hk hki => ?_)
      · rw [Nat.zero_add] at hk hLk
        simp only [List.getElem?_map]
        cases hDk : D[k]? with
        | none => rfl
        | some rr =>
          simp only [Option.map_some]
          congr 1
          cases al with
          | false => rw [hb' rfl]
          | true =>
            rcases hcoh k i tl cs rr h3 hDk with h | h | ⟨o', ho', h⟩
            · exact h b' b
            · exact absurd h hk
            · rw [hcl k o' i ho' hLk h] at hLi; cases hLi
      · have : k = i := by omega
        subst this
        rw [hDi] at hk
        exact hne p (Option.some.inj hk)
      · have : k = i := by omega
        subst this
        have hb1 := hts b
        have hb2 := hts b'
        have := congrArg (fun x => x[k]?) (hb1.trans hb2.symm)
        simp only [List.getElem?_map, h2, Option.map_some, Option.some.injEq] at this
        rw [hDi] at hk
        rw [Option.some.inj hk] at this
        simp only [Option.map_some] at this
        obtain ⟨q, hq, e⟩ := Option.map_eq_some_iff.1 this.symm
        rw [← e]
        exact hne q hq
  · intro L st' hall hinv
    obtain ⟨b, hle⟩ := hinv
    have hcT : cntL L T = T.length := by
      unfold cntL
      rw [List.filter_eq_self.2 (fun x hx => hall x (by simpa using hTl x hx))]
    rw [pickO_all _ 0 (fun k _ hk => hall k (by simp at hk; omega)), hcT] at hle
    exact ⟨_, hle, hQ b⟩
theorem cohNone {l : List Oper} {D : List (Nat → ORes)} {K : List (Bool × Bool × List Nat)} (h : K.all (fun k => !k.2.1) = true) (j a : Nat) (tl : Bool) (cs : List Nat) (r : Nat → ORes) (hK : K[a]? = some (tl, true, cs)) (_ : D[j]? = some r) :
    (∀ b b', r b = r b') ∨ j = a ∨ ∃ o, l[j]? = some o ∧ afterB o a = true := by
  have := List.all_eq_true.1 h _ (List.mem_of_getElem? hK)
  cases this
theorem cohOne {l : List Oper} {D : List (Nat → ORes)} {K : List (Bool × Bool × List Nat)} (a0 : Nat) (h : (K.zipIdx).all (fun k => !k.1.2.1 || Nat.beq k.2 a0) = true) (hD : ∀ (j : Nat) r, D[j]? = some r → (∀ b b', r b = r b') ∨ j = a0 ∨ ∃ o, l[j]? = some o ∧ afterB o a0 = true) (j a : Nat) (tl : Bool) (cs : List Nat) (r : Nat → ORes) (hK : K[a]? = some (tl, true, cs)) (hj : D[j]? = some r) :
    (∀ b b', r b = r b') ∨ j = a ∨ ∃ o, l[j]? = some o ∧ afterB o a = true := by
  have := List.all_eq_true.1 h ((tl, true, cs), a) (by rw [List.mem_iff_getElem?]; exact ⟨a, by simp [List.getElem?_zipIdx, hK]⟩)
  simp only [Bool.not_true, Bool.false_or] at this
  obtain rfl := Nat.eq_of_beq_eq_true this
  exact hD j r hj
end Go.GH
namespace Go.GH
open Go Go.RowKit
section
variable {α : Type} {C : Ctx} {E : Env} {base : Base} {F : Nat → Prop} {st : St} {a : Act} {w : World} {ops : Array Oper} {rest : List Oper} {R : St → Prop}
  {t : Tmp} {ty : TypeId} {pos : String} {aft : Array Edge} {g : Option (Nat × Bool)}
theorem SOps.storeK (i k : Nat) {T b o elem : Nat} {xo yo : Operand} {f : α → List DV} {xs : List α} {v : α} {d : DV} (hx : st.val xo = some (.ref b o)) (hy : st.val yo = some d) (hT : oneB C.P T = true)
    (hi : st.heap[i]? = some (b, .row elem 1 (xs.map f))) (ho : o = k) (hk : k < xs.length) (hf : f v = [d]) (h1 : ∀ x, (f x).length = 1)
    (hrest : SOps C ops rest ⟨st.n, st.slots, st.heap.set i (b, .row elem 1 ((xs.set k v).map f))⟩ R) (hd : d.one = true := by rfl)
    (hg : st.wants ops g = some true := by rfl) : SOps C ops (⟨none, .store T xo yo, ty, pos, aft, g⟩ :: rest) st R := by
  refine SOps.store i k 0 (e := f (xs[k]'hk)) hx hy hT hi (by omega) (by rw [List.getElem?_map, List.getElem?_eq_getElem hk]; rfl) (by omega) hd ?_ hg
  have e1 : (f (xs[k]'hk)).set 0 d = f v := by
    have := h1 (xs[k]'hk)
    rw [hf]
    match hq : f (xs[k]'hk), this with
    | [y], _ => rfl
  rw [e1, ← List.map_set]
  exact hrest
theorem SOps.storeAK (i k : Nat) {T b o elem sz : Nat} {xo yo : Operand} {f : α → List DV} {xs : List α} {v : α} (hx : st.val xo = some (.ref b o)) (hy : st.val yo = some (.agg (f v))) (hT : aggB C.P T sz = true)
    (hi : st.heap[i]? = some (b, .row elem sz (xs.map f))) (ho : o = k * sz) (hk : k < xs.length) (hds : (f v).length = sz)
    (hrest : SOps C ops rest ⟨st.n, st.slots, st.heap.set i (b, .row elem sz ((xs.set k v).map f))⟩ R) (hd : (f v).all DV.one = true)
    (hg : st.wants ops g = some true := by rfl) : SOps C ops (⟨none, .store T xo yo, ty, pos, aft, g⟩ :: rest) st R := by
  refine SOps.storeA i k (e := f (xs[k]'hk)) hx hy hT hi ho (by rw [List.getElem?_map, List.getElem?_eq_getElem hk]; rfl) hds (fun d h => List.all_eq_true.1 hd d h) ?_ hg
  rw [← List.map_set]
  exact hrest
theorem SOps.loadK (i k : Nat) {T b o elem : Nat} {xo : Operand} {f : α → List DV} {xs : List α} {d : DV} (hx : st.val xo = some (.ref b o)) (hT : flatB C.P T = true)
    (hi : st.heap[i]? = some (b, .row elem 1 (xs.map f))) (ho : o = k) (hk : k < xs.length) (hf : f (xs[k]'hk) = [d]) (hrest : SOps C ops rest (st.put t d) R)
    (hg : st.wants ops g = some true := by rfl) (ht : Nat.blt t st.n = true := by rfl) : SOps C ops (⟨some t, .load T xo, ty, pos, aft, g⟩ :: rest) st R :=
  SOps.loadRef i k 0 (e := f (xs[k]'hk)) hx hT hi (by omega) (by rw [List.getElem?_map, List.getElem?_eq_getElem hk]; rfl) (by rw [hf]; rfl) hrest hg ht
theorem SOps.loadAK (i k : Nat) {T b o elem sz : Nat} {xo : Operand} {f : α → List DV} {xs : List α} (hx : st.val xo = some (.ref b o)) (hT : aggB C.P T sz = true)
    (hi : st.heap[i]? = some (b, .row elem sz (xs.map f))) (ho : o = k * sz) (hk : k < xs.length) (hf : (f (xs[k]'hk)).length = sz) (hrest : SOps C ops rest (st.put t (.agg (f (xs[k]'hk)))) R)
    (hg : st.wants ops g = some true := by rfl) (ht : Nat.blt t st.n = true := by rfl) : SOps C ops (⟨some t, .load T xo, ty, pos, aft, g⟩ :: rest) st R :=
  SOps.loadRefA i k 0 (e := f (xs[k]'hk)) (n := sz) hx hT hi (by omega) (by rw [List.getElem?_map, List.getElem?_eq_getElem hk]; rfl) (by omega) (by rw [List.drop_zero, List.take_of_length_le (by omega)]; exact hrest) hg ht

theorem rep_row {w : World} {F : Nat → Prop} {b elem sz : Nat} {es : List (List DV)} {v : Value} (ho : ObjRep w F b (.row elem sz es)) (hv : Rep w F v (.sl b sz 0 es.length)) : Rep w (fun c => F c ∨ c = b) v (.isl false sz es) := by
  obtain ⟨cs, k1, k2, k3, k4⟩ := ho
  cases hv with
  | @sl b sz off len cap e n q1 q2 q3 q4 =>
    refine .isl (b := b) (o := 0 * sz) (fun i j => cs.getD (i * sz + j) undef) rfl q1 k3 (fun h => by cases h) (fun _ => ⟨rfl, .inr rfl⟩) (fun i e he => (k4 _ _ he).1) (fun i e j d he hj => ?_) (fun i e j d he hj => ?_)
    · obtain ⟨x, hx, ho, hr⟩ := (k4 _ _ he).2 j d hj
      have e1 : cs.getD (i * sz + j) undef = x := by simp [Array.getD_eq_getD_getElem?, hx]
      rw [e1]
      exact ⟨by rw [cell_of_row w b _ cs _ _ k1, ← hx, Nat.zero_mul, Nat.zero_add], ho⟩
    · obtain ⟨x, hx, ho, hr⟩ := (k4 _ _ he).2 j d hj
      have e1 : cs.getD (i * sz + j) undef = x := by simp [Array.getD_eq_getD_getElem?, hx]
      rw [e1]
      exact hr.mono (fun _ _ => rfl) (fun _ _ h => h) (fun _ h => .inl h)
/-- A row that stands in a row of one's own, and is written no more. -/
theorem SOps.freezeIn {l : List Oper} (i i' k j : Nat) {b bT elem elem2 sz sz2 : Nat} {es : List (List DV)} {rows : List (List DV)} {row : List DV} (hp : C.pu = true) (hi : st.heap[i]? = some (b, .row elem2 sz2 es)) (hi' : (st.heap.eraseIdx i)[i']? = some (bT, .row elem sz rows))
    (hk : rows[k]? = some row) (hj : row[j]? = some (.sl b sz2 0 es.length))
    (h : SOps C ops l ⟨st.n, st.slots, (st.heap.eraseIdx i).set i' (bT, .row elem sz (rows.set k (row.set j (.isl false sz2 es))))⟩ R) : SOps C ops l st R := by
  intro base ok a w ⟨F, hs⟩
  have hmem := hs.heap _ (List.mem_of_getElem? hi)
  have hnew : base.w.heap.size ≤ b := hmem.1.resolve_left (ok hp b)
  have hT0 := hs.heap (bT, .row elem sz rows) ((List.eraseIdx_sublist ..).subset (List.mem_of_getElem? hi'))
  have h2 := hs.letGo hi hnew
  have hT := (h2.heap (bT, .row elem sz rows) (List.mem_of_getElem? hi')).2.2
  refine h base ok a w ⟨_, h2.write (w' := w) hi' (Step.refl _ _) ?_⟩
  obtain ⟨cs, k1, k2, k3, k4⟩ := hT
  obtain ⟨cs0, k10, _, _, k40⟩ := hT0.2.2
  have hkl := (List.getElem?_eq_some_iff.1 hk).1
  refine ⟨cs, k1, by simpa using k2, by simpa using k3, fun q e hq => ?_⟩
  rw [List.getElem?_set] at hq
  split at hq
  · rename_i hkq
    subst hkq
    obtain rfl := Option.some.inj hq
    obtain ⟨m1, m2⟩ := k4 _ _ hk
    refine ⟨by simpa using m1, fun u d hd => ?_⟩
    rw [List.getElem?_set] at hd
    split at hd
    · rename_i hju
      subst hju
      split at hd
      · obtain rfl := Option.some.inj hd
        obtain ⟨x, hx, ho, hr⟩ := (k40 _ _ hk).2 _ _ hj
        have hcs : cs0 = cs := by
          have := k10.symm.trans k1
          simpa using this
        subst hcs
        exact ⟨x, hx, ho, rep_row hmem.2.2 hr⟩
      · cases hd
    · exact m2 u d hd
  · exact k4 q e hq

/-! #### functions with their first arguments -/
theorem SOps.makeFuncB {f : FuncId} {xs : Array Operand} {ds : List DV} (hx : st.vals xs.toList = some ds) (hrest : SOps C ops rest (st.put t (.bfn f ds)) R)
    (hg : st.wants ops g = some true := by rfl) (ht : Nat.blt t st.n = true := by rfl) : SOps C ops (⟨some t, .makeFunc (.func f) xs #[], ty, pos, aft, g⟩ :: rest) st R :=
  SOps.val rfl hg ht (fun base a w F hs => by
    obtain ⟨h1, h2⟩ := hs.vals xs.toList ds hx
    refine ⟨.func (.func f) (xs.map a.eval) #[], by simp [execOp, Instr.makeFunc], .bfn (by simpa using h1) (fun j x d hj hd => ?_)⟩
    rw [eval_args] at hj
    obtain ⟨y, hy, rfl⟩ := Option.map_eq_some_iff.1 hj
    exact h2 j y d hy hd) hrest
theorem SOps.callB {f : FuncId} {xo : Operand} {xs : Array Operand} {ats : Array TypeId} {fst ds : List DV} {Rr : DV → Prop} (hx : st.val xo = some (.bfn f fst)) (hf : GCall C.P C.E f (fst ++ ds) [] (fun d H' => Rr d ∧ H' = [])) (hxs : st.vals xs.toList = some ds)
    (hrest : ∀ d, Rr d → SOps C ops rest (st.put t d) R)
    (hg : st.wants ops g = some true := by rfl) (ht : Nat.blt t st.n = true := by rfl) :
    SOps C ops (⟨some t, .call { callee := .value xo, args := xs, argTypes := ats }, ty, pos, aft, g⟩ :: rest) st R := by
  refine SOps.op (R1 := fun st' => ∃ d, Rr d ∧ st' = st.put t d) hg ?_ (fun st' ⟨d, h1, h2⟩ => h2 ▸ hrest d h1)
  intro base ok a w F hs K Q hK
  obtain ⟨h1, h2⟩ := hs.vals xs.toList ds hxs
  have h3 := hs.val hx
  generalize hv : a.eval xo = v at h3
  cases h3 with
  | @bfn _ us _ hl hr =>
    refine upon_call (H := []) (G := st.heap) hf rfl ht (vs := us ++ xs.map a.eval) rfl hs (by simp [← h1, hl]) (fun j x d hx hd => ?_) (fun d H' a' w' r s => ?_) ?_
    · rw [Array.getElem?_append, hl] at hx
      rw [List.getElem?_append] at hd
      split at hx
      · rename_i hlt
        rw [if_pos hlt] at hd
        exact hr _ x d hx hd
      · rename_i hlt
        rw [if_neg hlt] at hd
        rw [eval_args] at hx
        obtain ⟨y, hy, rfl⟩ := Option.map_eq_some_iff.1 hx
        exact h2 _ y d hy hd
    · obtain ⟨r1, rfl⟩ := r
      exact hK _ _ _ ⟨d, r1, rfl⟩ s
    · have := run_callFunc hf.1 (us ++ xs.map a.eval) w
      rw [show execOp a.eval ⟨some t, .call { callee := .value xo, args := xs, argTypes := ats }, ty, pos, aft, g⟩ = (do let d ← Deferred.ofValue (a.eval xo) (xs.map a.eval); invoke d.target d.args) from rfl, hv]
      simp only [Deferred.ofValue, invoke, pure_bind]
      simpa using this
/-- make([]T, n), told by an encoding. -/
theorem SOps.makeK {T e sz by_ : Nat} {z : Value} {lo co : Operand} {kl kc : IntKind} {m m' : Int} {f : α → List DV} (n : Nat) (v : α) (hT : sliceB C.P T e sz = true) (hE : elemB C.P e sz by_ = true) (hz : zeroIs C.P e z) (hlo : st.val lo = some (.v (.int kl m))) (hco : st.val co = some (.v (.int kc m'))) (hm : m = (n : Int)) (hm' : m' = (n : Int))
    (hf : z.cells.toList.map DV.v = f v) (hby : n * by_ ≤ 281474976710656) (hB : n ≤ lenB) (hrest : ∀ b, st.fresh b → SOps C ops rest ⟨st.n, (t, .sl b sz 0 n) :: st.slots, (b, .row e sz ((List.replicate n v).map f)) :: st.heap⟩ R) (hb : zcellsB z = true := by rfl)
    (hg : st.wants ops g = some true := by rfl) (ht : Nat.blt t st.n = true := by rfl) : SOps C ops (⟨some t, .makeSlice T lo co, ty, pos, aft, g⟩ :: rest) st R := by
  subst hm; subst hm'
  refine SOps.makeSlice n hT hE hz hlo hco hby hB (fun b hb' => ?_) hb hg ht
  rw [hf, ← List.map_replicate]
  exact hrest b hb'

/-! #### shifts and bits of small sets -/
theorem u8hasN {n : Nat} (h : n < 256) : IntKind.u8.has (n : Int) := by
  simp only [IntKind.has, IntKind.min, IntKind.max, IntKind.signed, IntKind.bits]
  have e : (2 : Int) ^ 8 = 256 := by decide
  simp only [Bool.false_eq_true, if_false, e]
  omega
theorem u8wrapN {n : Nat} (h : n < 256) : IntKind.u8.wrap (n : Int) = n := by
  unfold IntKind.wrap
  simp only [IntKind.signed, IntKind.bits]
  have e : (2 : Int) ^ 8 = 256 := by decide
  simp only [Bool.false_and, Bool.false_eq_true, if_false, e]
  omega
theorem SOps.shrN {T T2 : TypeId} {xo yo : Operand} {s k : Nat} {m : Int} (hx : st.val xo = some (.v (.int .u8 (s : Int)))) (hy : st.val yo = some (.v (.int .i64 m))) (hm : m = (k : Int)) (hk : k ≤ 8) (hs : s < 256)
    (hrest : SOps C ops rest (st.put t (.v (.int .u8 ((s >>> k : Nat) : Int)))) R)
    (hg : st.wants ops g = some true := by rfl) (ht : Nat.blt t st.n = true := by rfl) : SOps C ops (⟨some t, .binOp .shr T xo yo T2, ty, pos, aft, g⟩ :: rest) st R :=
  have hlt : s >>> k < 256 := Nat.lt_of_le_of_lt (by rw [Nat.shiftRight_eq_div_pow]; exact Nat.div_le_self ..) hs
  SOps.binRun hx hy (z := .int .u8 ((s >>> k : Nat) : Int)) (fun w => by
    subst hm
    have h0 : ¬ ((k : Int) < 0) := by omega
    have hk' : min ((k : Int)).toNat IntKind.u8.bits = k := by simp [IntKind.bits]; omega
    have e : ((s : Int)).fdiv (2 ^ k) = ((s >>> k : Nat) : Int) := by
      rw [show ((2 : Int) ^ k) = ((2 ^ k : Nat) : Int) from (by simp), Int.fdiv_eq_ediv_of_nonneg _ (Int.natCast_nonneg _), Nat.shiftRight_eq_div_pow]; exact (Int.natCast_ediv _ _).symm
    simp only [eqGuard, binOp, Op.shift, h0, hk', e, if_false]
    rfl) (u8hasN hlt) hrest hg ht
theorem SOps.shlN {T T2 : TypeId} {xo yo : Operand} {k : Nat} {m : Int} (hx : st.val xo = some (.v (.int .u8 1))) (hy : st.val yo = some (.v (.int .i64 m))) (hm : m = (k : Int)) (hk : k < 8)
    (hrest : SOps C ops rest (st.put t (.v (.int .u8 ((2 ^ k : Nat) : Int)))) R)
    (hg : st.wants ops g = some true := by rfl) (ht : Nat.blt t st.n = true := by rfl) : SOps C ops (⟨some t, .binOp .shl T xo yo T2, ty, pos, aft, g⟩ :: rest) st R :=
  have hlt : 2 ^ k < 256 := Nat.pow_lt_pow_right (by decide) hk
  SOps.binRun hx hy (z := .int .u8 ((2 ^ k : Nat) : Int)) (fun w => by
    subst hm
    have h0 : ¬ ((k : Int) < 0) := by omega
    have hk' : min ((k : Int)).toNat IntKind.u8.bits = k := by simp [IntKind.bits]; omega
    have e : IntKind.u8.wrap (1 * 2 ^ k) = ((2 ^ k : Nat) : Int) := by
      rw [Int.one_mul, ← u8wrapN hlt]; push_cast; rfl
    simp only [eqGuard, binOp, Op.shift, h0, hk', e, if_false]
    rfl) (u8hasN hlt) hrest hg ht
theorem u8and {x y : Nat} (hx : x < 256) (hy : y < 256) : IntKind.u8.wrap (BitVec.ofInt IntKind.u8.bits (x : Int) &&& BitVec.ofInt IntKind.u8.bits (y : Int)).toNat = ((x &&& y : Nat) : Int) := by
  have e : (BitVec.ofInt IntKind.u8.bits (x : Int) &&& BitVec.ofInt IntKind.u8.bits (y : Int)).toNat = x &&& y := by
    rw [BitVec.toNat_and]
    simp only [IntKind.bits, BitVec.ofInt_natCast, BitVec.toNat_ofNat]
    rw [Nat.mod_eq_of_lt hx, Nat.mod_eq_of_lt hy]
  rw [e]
  exact u8wrapN (Nat.lt_of_le_of_lt Nat.and_le_left hx)
theorem u8or {x y : Nat} (hx : x < 256) (hy : y < 256) : IntKind.u8.wrap (BitVec.ofInt IntKind.u8.bits (x : Int) ||| BitVec.ofInt IntKind.u8.bits (y : Int)).toNat = ((x ||| y : Nat) : Int) := by
  have e : (BitVec.ofInt IntKind.u8.bits (x : Int) ||| BitVec.ofInt IntKind.u8.bits (y : Int)).toNat = x ||| y := by
    rw [BitVec.toNat_or]
    simp only [IntKind.bits, BitVec.ofInt_natCast, BitVec.toNat_ofNat]
    rw [Nat.mod_eq_of_lt hx, Nat.mod_eq_of_lt hy]
  rw [e]
  exact u8wrapN (Nat.or_lt_two_pow (n := 8) hx hy)
theorem SOps.andN {T T2 : TypeId} {xo yo : Operand} {x y : Nat} (hx : st.val xo = some (.v (.int .u8 (x : Int)))) (hy : st.val yo = some (.v (.int .u8 (y : Int)))) (h1 : x < 256) (h2 : y < 256)
    (hrest : SOps C ops rest (st.put t (.v (.int .u8 ((x &&& y : Nat) : Int)))) R)
    (hg : st.wants ops g = some true := by rfl) (ht : Nat.blt t st.n = true := by rfl) : SOps C ops (⟨some t, .binOp .and T xo yo T2, ty, pos, aft, g⟩ :: rest) st R :=
  SOps.bits hx hy rfl (by rw [u8and h1 h2]; exact hrest) hg ht
theorem SOps.orN {T T2 : TypeId} {xo yo : Operand} {x y : Nat} (hx : st.val xo = some (.v (.int .u8 (x : Int)))) (hy : st.val yo = some (.v (.int .u8 (y : Int)))) (h1 : x < 256) (h2 : y < 256)
    (hrest : SOps C ops rest (st.put t (.v (.int .u8 ((x ||| y : Nat) : Int)))) R)
    (hg : st.wants ops g = some true := by rfl) (ht : Nat.blt t st.n = true := by rfl) : SOps C ops (⟨some t, .binOp .or T xo yo T2, ty, pos, aft, g⟩ :: rest) st R :=
  SOps.bits hx hy rfl (by rw [u8or h1 h2]; exact hrest) hg ht
end
end Go.GH
namespace Go.GH
open Go Go.RowKit
section
variable {α : Type} {C : Ctx} {E : Env} {base : Base} {F : Nat → Prop} {st : St} {a : Act} {w : World} {ops : Array Oper} {rest : List Oper} {R : St → Prop}
  {t : Tmp} {ty : TypeId} {pos : String} {aft : Array Edge} {g : Option (Nat × Bool)}
/-- A call that is handed own blocks, wherever they stand. -/
theorem SOps.callH {f : FuncId} {xs : Array Operand} {ats : Array TypeId} {ds : List DV} (H1 H H2 : DHeap) {Rr : DV → DHeap → Prop} (hf : GCall C.P C.E f ds H Rr) (hxs : st.vals xs.toList = some ds)
    (hH : st.heap = H1 ++ (H ++ H2)) (hrest : ∀ d H', Rr d H' → SOps C ops rest ⟨st.n, (t, d) :: st.slots, H1 ++ (H' ++ H2)⟩ R)
    (hg : st.wants ops g = some true := by rfl) (ht : Nat.blt t st.n = true := by rfl) :
    SOps C ops (⟨some t, .call { callee := .value (.func f), args := xs, argTypes := ats }, ty, pos, aft, g⟩ :: rest) st R := by
  have hv : ∀ (l : List Operand) (ds : List DV), st.vals l = some ds → (⟨st.n, st.slots, (H1 ++ H2) ++ H⟩ : St).vals l = some ds := fun l => by
    induction l with
    | nil => exact fun ds h => h
    | cons x l ih =>
      intro ds h
      simp only [St.vals] at h ⊢
      split at h
      · rename_i d ds' h1 h2
        have e1 : (⟨st.n, st.slots, (H1 ++ H2) ++ H⟩ : St).val x = some d := by cases x <;> exact h1
        rw [e1, ih ds' h2]; exact h
      · cases h
  have hgw : ∀ g, st.wants ops g = some true → (⟨st.n, st.slots, (H1 ++ H2) ++ H⟩ : St).wants ops g = some true := fun g h => h
  have hperm : ∀ H : DHeap, (H1 ++ (H ++ H2)).Perm ((H1 ++ H2) ++ H) := fun H => by
    rw [List.append_assoc]
    exact List.Perm.append_left _ List.perm_append_comm
  refine SOps.weaken (st' := ⟨st.n, st.slots, (H1 ++ H2) ++ H⟩) ⟨rfl, fun t d h => .inl h, H1 ++ (H ++ H2), (hperm H).symm, by rw [hH]; exact List.Sublist.refl _⟩ ?_
  refine SOps.callR (st := ⟨st.n, st.slots, (H1 ++ H2) ++ H⟩) H (H1 ++ H2) hf (hv _ _ hxs) rfl (fun d H' h => ?_) (hgw _ hg) ht
  exact SOps.weaken (st' := ⟨st.n, (t, d) :: st.slots, H1 ++ (H' ++ H2)⟩) ⟨rfl, fun t d h => .inl h, (H1 ++ H2) ++ H', hperm H', List.Sublist.refl _⟩ (hrest d H' h)
def accI (sz b : Nat) : List (List DV) → DV
  | [] => .isl false sz []
  | e :: es => .sl b sz 0 (es.length + 1)
theorem accI_len {sz b : Nat} : ∀ {es es' : List (List DV)}, es.length = es'.length → accI sz b es = accI sz b es'
  | [], [], _ => rfl
  | [], _ :: _, h => by simp at h
  | _ :: _, [], h => by simp at h
  | _ :: es, _ :: es', h => by simp only [List.length_cons] at h; simp only [accI, h]
theorem nil_isl {w : World} {F : Nat → Prop} {v : Value} {sz : Nat} (hv : Rep w F v (.v (.slice none 0 0))) : Rep w F v (.isl false sz []) := by
  rw [hv.inv_v.1]
  exact .isl (b := 0) (o := 0) (fun _ _ => undef) rfl (by omega) (by simp [lenB]) (fun h => by cases h) (fun h => absurd rfl h) (fun i e h => by simp at h) (fun i e j d h => by simp at h) (fun i e j d h => by simp at h)
theorem sl_isl {w : World} {F : Nat → Prop} {v : Value} {b sz : Nat} (hv : Rep w F v (.sl b sz 0 0)) : Rep w F v (.isl false sz []) := by
  cases hv with
  | sl h1 h2 h3 h4 => exact .isl (b := 0) (o := 0) (fun _ _ => undef) rfl (by omega) (by simp [lenB]) (fun h => by cases h) (fun h => absurd rfl h) (fun i e h => by simp at h) (fun i e j d h => by simp at h) (fun i e j d h => by simp at h)
theorem SOps.accDI {l : List Oper} {sz b : Nat} {es : List (List DV)} (hd : st.get t = some (accD sz b es)) (h : SOps C ops l ⟨st.n, (t, accI sz b es) :: st.slots, st.heap⟩ R) : SOps C ops l st R := by
  intro base ok a w ⟨F, hs⟩
  refine h base ok a w ⟨F, SimF.relabel hs hd (fun hv => ?_)⟩
  cases es with
  | nil => exact nil_isl hv
  | cons x es => exact hv
/-- An own row, as a slice that may be empty. -/
theorem SOps.slI {l : List Oper} (H1 H2 : DHeap) {b elem sz len : Nat} {es : List (List DV)} (hd : st.get t = some (.sl b sz 0 len)) (hl : len = es.length) (hh : st.heap = H1 ++ ((b, .row elem sz es) :: H2))
    (h : SOps C ops l ⟨st.n, (t, accI sz b es) :: st.slots, H1 ++ (accH elem sz b es ++ H2)⟩ R) : SOps C ops l st R := by
  subst hl
  intro base ok a w ⟨F, hs⟩
  cases es with
  | nil =>
    have hs2 : SimF C.E base F ⟨st.n, st.slots, H1 ++ H2⟩ a w := hs.weaken ⟨rfl, fun u e hu => .inl hu, H1 ++ H2, .refl _, by rw [hh]; exact List.Sublist.append (List.Sublist.refl _) (List.sublist_cons_self ..)⟩
    exact h base ok a w ⟨F, SimF.relabel (st := ⟨st.n, st.slots, H1 ++ H2⟩) hs2 hd (fun hv => sl_isl hv)⟩
  | cons x es =>
    have hs2 : SimF C.E base F ⟨st.n, st.slots, H1 ++ (accH elem sz b (x :: es) ++ H2)⟩ a w := by
      have : H1 ++ (accH elem sz b (x :: es) ++ H2) = st.heap := by rw [hh]; rfl
      rw [this]; exact hs
    exact h base ok a w ⟨F, SimF.relabel (st := ⟨st.n, st.slots, H1 ++ (accH elem sz b (x :: es) ++ H2)⟩) hs2 hd (fun hv => hv)⟩
theorem SOps.freezeAccI {l : List Oper} (H1 H2 : DHeap) {e sz b : Nat} {es : List (List DV)} (hp : C.pu = true) (hd : st.get t = some (accI sz b es)) (hh : st.heap = H1 ++ (accH e sz b es ++ H2))
    (h : SOps C ops l ⟨st.n, (t, .isl false sz es) :: st.slots, H1 ++ H2⟩ R) : SOps C ops l st R := by
  cases es with
  | nil =>
    intro base ok a w ⟨F, hs⟩
    have e1 : st.heap = H1 ++ H2 := by rw [hh]; rfl
    have hs2 : SimF C.E base F ⟨st.n, st.slots, H1 ++ H2⟩ a w := e1 ▸ hs
    exact h base ok a w ⟨F, SimF.relabel (st := ⟨st.n, st.slots, H1 ++ H2⟩) hs2 hd (fun hv => hv)⟩
  | cons x l' =>
    have hi : st.heap[H1.length]? = some (b, .row e sz (x :: l')) := by rw [hh]; simp [accH]
    have e1 : st.heap.eraseIdx H1.length = H1 ++ H2 := by
      rw [hh, List.eraseIdx_append_of_length_le (by simp)]; simp [accH]
    refine SOps.freezeS (t := t) H1.length hp hi hd rfl ?_
    rw [e1]; exact h
theorem SCode.nilIsl {c : Code} {Q : Exit → St → Prop} {sz : Nat} (hd : st.get t = some (.v (.slice none 0 0))) (h : SCode C c ⟨st.n, (t, .isl false sz []) :: st.slots, st.heap⟩ Q) : SCode C c st Q := by
  intro base ok a w ⟨F, hs⟩
  exact h base ok a w ⟨F, SimF.relabel hs hd (fun hv => nil_isl hv)⟩
theorem SCode.slIsl {c : Code} {Q : Exit → St → Prop} {b sz len : Nat} (hd : st.get t = some (.sl b sz 0 len)) (hl : len = 0) (h : SCode C c ⟨st.n, (t, .isl false sz []) :: st.slots, st.heap⟩ Q) : SCode C c st Q := by
  subst hl
  intro base ok a w ⟨F, hs⟩
  exact h base ok a w ⟨F, SimF.relabel hs hd (fun hv => sl_isl hv)⟩
/-- A scope that no jump leaves by a label. -/
def scopeQ (Q : Exit → St → Prop) : Exit → St → Prop
  | .goto _, _ => False
  | e, st => Q e st
theorem SCode.scope {c : Code} {Q : Exit → St → Prop} (h : SCode C c st (scopeQ Q)) : SCode C (.scope c) st Q := fun base ok a w hs =>
  wp_scope_straight (wp_mono (h base ok a w hs) (fun e a' w' ⟨st', q, s⟩ => by
    cases e with
    | goto l => exact q
    | _ => exact ⟨st', q, s⟩))
theorem SCode.label {l : Nat} {Q : Exit → St → Prop} (h : Q .normal st) : SCode C (.label l) st Q := fun base ok a w hs => wp_label ⟨st, h, hs⟩
theorem rep_aggNil {w : World} {F : Nat → Prop} {v : Value} {ds : List DV} {sz : Nat} (i : Nat) (h : Rep w F v (.agg ds)) (hi : ds[i]? = some (.v (.slice none 0 0))) : Rep w F v (.agg (ds.set i (.isl false sz []))) := by
  cases h with
  | agg hl hr =>
    refine .agg (by simpa using hl) (fun j x d hx hd => ?_)
    rw [List.getElem?_set] at hd
    split at hd
    · rename_i e
      subst e
      split at hd
      · obtain rfl := Option.some.inj hd
        exact nil_isl (hr _ x _ hx hi)
      · cases hd
    · exact hr j x d hx hd
/-- What a slot holds, told otherwise. -/
theorem SOps.relab {l : List Oper} {d d' : DV} (hd : st.get t = some d) (hr : ∀ (w : World) (F : Nat → Prop) (v : Value), Rep w F v d → Rep w F v d') (h : SOps C ops l ⟨st.n, (t, d') :: st.slots, st.heap⟩ R) : SOps C ops l st R := by
  intro base ok a w ⟨F, hs⟩
  exact h base ok a w ⟨F, SimF.relabel hs hd (fun hv => hr w F _ hv)⟩
/-- A slice beside nil: if it is nil, it is a slice of nothing. -/
theorem SOps.eqNilS {T T2 te : TypeId} {xo yo : Operand} {nn : Bool} {sz : Nat} {es : List (List DV)} (hT : C.P.underlying T = some (.slice te)) (hx : st.val xo = some (.isl nn sz es)) (hy : st.val yo = some (.v (.slice none 0 0)))
    (hrest : ∀ c : Bool, (c = true → es = []) → SOps C ops rest (st.put t (.v (.bool c))) R)
    (hg : st.wants ops g = some true := by rfl) (ht : Nat.blt t st.n = true := by rfl) : SOps C ops (⟨some t, .binOp .eql T xo yo T2, ty, pos, aft, g⟩ :: rest) st R := by
  refine SOps.op (R1 := fun st' => ∃ c : Bool, (c = true → es = []) ∧ st' = st.put t (.v (.bool c))) hg ?_ (fun st' ⟨c, h1, h2⟩ => h2 ▸ hrest c h1)
  intro base ok a w F hs K Q hK
  have h1 := hs.val hx
  have h2 := (hs.val hy).inv_v.1
  generalize hv : a.eval xo = v at h1
  cases h1 with
  | @isl A len cap nn sz es b o xs hlen hcap hB hnn hA hsz hc hr =>
    have hrun : (execOp a.eval ⟨some t, .binOp .eql T xo yo T2, ty, pos, aft, g⟩).run C.P w = .ok (.value (.bool A.isNone)) w := by
      have key : ∀ (d : Nat) (q : Option Addr), (Op.equalIn (d + 1) T (.slice q len cap) (.slice none 0 0)).run C.P w = .ok q.isNone w := fun d q => by
        cases q <;> simp [Op.equalIn, run_underlying hT]
      simp only [execOp, hv, h2]
      exact run_binNext (by simp only [eqGuard, binOp, Op.equal, Op.maxDepth, Sem.run_bind]; simp [key 9999 A])
    unfold Oper.wp
    rw [hrun, Oper.upon_value]
    refine hK _ _ _ ⟨A.isNone, fun h => ?_, rfl⟩ ⟨F, hs.put (by simpa using ht) (.v trivial)⟩
    cases es with
    | nil => rfl
    | cons x l => have := (hA (by simp)).1; rw [this] at h; cases h
end
end Go.GH
namespace Go.GH
open Go Go.RowKit
section
variable {C : Ctx} {E : Env} {base : Base} {F : Nat → Prop} {st : St} {a : Act} {w : World} {ops : Array Oper} {rest : List Oper} {R : St → Prop}
  {t : Tmp} {ty : TypeId} {pos : String} {aft : Array Edge} {g : Option (Nat × Bool)}
theorem SOps.insert (i : Nat) {T K V b : Nat} {d : TypeDesc} {xo ko yo : Operand} {es : List (Value × DV)} {k : Value} {v : DV} (hx : st.val xo = some (.mp b)) (hi : st.heap[i]? = some (b, .map es)) (hk : st.val ko = some (.v k)) (hy : st.val yo = some v) (hT : mapB C.P T K V d) (hkk : isKey d k = true) (hks : ∀ p ∈ es, isKey d p.1 = true)
    (hrest : SOps C ops rest ⟨st.n, st.slots, st.heap.set i (b, .map (updL es k v))⟩ R)
    (hg : st.wants ops g = some true := by rfl) : SOps C ops (⟨none, .insert T xo ko yo, ty, pos, aft, g⟩ :: rest) st R := by
  refine SOps.op (R1 := (· = ⟨st.n, st.slots, st.heap.set i (b, .map (updL es k v))⟩)) hg ?_ (fun st' e => e ▸ hrest)
  intro base ok a w F hs K' Q hK
  have h1 := hs.val hx
  have h2 := (hs.val hk).inv_v.1
  have h3 := hs.val hy
  generalize hv : a.eval xo = x at h1
  cases h1 with
  | mp =>
    obtain ⟨kk1, hbF, ents, clock, hb, hE⟩ := hs.heap _ (List.mem_of_getElem? hi)
    have hE : EntsRep w F ents es := hE
    simp only at hb
    have main : ∃ ents' clock', (execOp a.eval ⟨none, .insert T xo ko yo, ty, pos, aft, g⟩).run C.P w = .ok .skip (World.setObj' w b (.map ents' clock')) ∧ ∀ w', (∀ u d, Rep w F u d → Rep w' F u d) → EntsRep w' F ents' (updL es k v) := by
      rw [show execOp a.eval ⟨none, .insert T xo ko yo, ty, pos, aft, g⟩ = (do Instr.mapUpdate T (a.eval xo) (a.eval ko) (a.eval yo); pure .skip) from rfl, hv, h2]
      rcases hE.find (P := C.P) hT.2 hkk hks with ⟨k1, k2, k3⟩ | ⟨j, x, e, k2, k3, k4, k5, k6, k7, k8⟩
      · refine ⟨ents.push { key := k, val := a.eval yo, born := clock }, clock + 1, ?_, fun w' hm => ?_⟩
        · simp only [Instr.mapUpdate, Sem.run_bind, run_underlying hT.1, Result.andThen_ok, MapKept.run_getObj_map hb, MapKept.run_checkKey hT.2 (isKey_spec hkk), k2, MapKept.run_setObj_map _ hb, Sem.run_pure, pure_bind]
          rfl
        · rw [k3]
          refine ⟨by simp [hE.1], fun q p hp => ?_⟩
          rw [List.getElem?_append] at hp
          split at hp
          · rename_i hlt
            obtain ⟨e, he, hke, hr⟩ := hE.2 q p hp
            exact ⟨e, by rw [Array.getElem?_push, if_neg (by rw [hE.1]; omega)]; exact he, hke, hm _ _ hr⟩
          · rename_i hlt
            match hq : q - es.length, hp with
            | 0, hp =>
              simp at hp
              subst hp
              have : q = ents.size := by rw [hE.1]; omega
              exact ⟨_, by rw [Array.getElem?_push, if_pos this], rfl, hm _ _ h3⟩
            | m + 1, hp => simp at hp
      · refine ⟨ents.modify j fun e => { e with key := k, val := a.eval yo }, clock, ?_, fun w' hm => ?_⟩
        · simp only [Instr.mapUpdate, Sem.run_bind, run_underlying hT.1, Result.andThen_ok, MapKept.run_getObj_map hb, MapKept.run_checkKey hT.2 (isKey_spec hkk), k2, k3, Option.map_some, Option.getD_some, k4, MapKept.run_keyThatStays (isKey_spec hkk), MapKept.run_setObj_map _ hb, Sem.run_pure, pure_bind]
          rfl
        · rw [k8]
          refine ⟨by simp [hE.1], fun q p hp => ?_⟩
          rw [List.getElem?_set] at hp
          rw [Array.getElem?_modify]
          split at hp
          · rename_i hjq
            subst hjq
            split at hp
            · obtain rfl := Option.some.inj hp
              exact ⟨{ e with key := k, val := a.eval yo }, by simp [k3], rfl, hm _ _ h3⟩
            · cases hp
          · rename_i hjq
            obtain ⟨e', he', hke, hr⟩ := hE.2 q p hp
            exact ⟨e', by rw [if_neg hjq]; exact he', hke, hm _ _ hr⟩
    obtain ⟨ents', clock', m1, m2⟩ := main
    have hlt := (Array.getElem?_eq_some_iff.1 hb).1
    have hst : Step (· = b) w (World.setObj' w b (.map ents' clock')) := by
      refine ⟨rfl, rfl, rfl, by simp [World.setObj'], fun c _ hc => ?_, fun c q hq => ?_⟩
      · simp only [World.setObj', Array.getElem?_setIfInBounds]; rw [if_neg (fun e => hc e.symm)]
      · unfold World.shape? at *
        by_cases e : c = b
        · subst e; rw [hb] at hq; cases hq
        · simp only [World.setObj', Array.getElem?_setIfInBounds]; rw [if_neg (fun e' => e e'.symm)]; exact hq
    unfold Oper.wp
    rw [m1, Oper.upon_skip]
    refine hK _ _ _ rfl ⟨F, hs.write hi hst ⟨ents', clock', by simp [World.setObj', hlt], m2 _ (fun u d hr => hr.mono (fun c hc => hst.block c (hs.lt c hc).1 (fun e => hbF (e ▸ hc))) hst.shape (fun _ h => h))⟩⟩
end
end Go.GH
namespace Go.GH
open Go
variable {C : Ctx} {ops : Array Oper} {st : St} {rest : List Oper} {R : St → Prop} {t : Tmp} {ty : TypeId} {pos : String} {aft : Array Edge} {g : Option (Nat × Bool)}

theorem SOps.shr8 {T T2 : TypeId} {xo yo : Operand} {s : Nat} (hx : st.val xo = some (.v (.int .i64 (s : Int)))) (hy : st.val yo = some (.v (.int .u64 8))) (hs : s < 9223372036854775808)
    (hrest : SOps C ops rest (st.put t (.v (.int .i64 ((s >>> 8 : Nat) : Int)))) R)
    (hg : st.wants ops g = some true := by rfl) (ht : Nat.blt t st.n = true := by rfl) : SOps C ops (⟨some t, .binOp .shr T xo yo T2, ty, pos, aft, g⟩ :: rest) st R := by
  have e : ((s : Int)).fdiv (2 ^ min ((8 : Int)).toNat IntKind.i64.bits) = ((s >>> 8 : Nat) : Int) := by
    rw [show (2 : Int) ^ min ((8 : Int)).toNat IntKind.i64.bits = ((2 ^ 8 : Nat) : Int) from by decide, Int.fdiv_eq_ediv_of_nonneg _ (Int.natCast_nonneg _), Nat.shiftRight_eq_div_pow]
    exact (Int.natCast_ediv _ _).symm
  refine SOps.shrI hx hy (by decide) ?_ ?_ hg ht
  · rw [e]
    have : s >>> 8 ≤ s := by rw [Nat.shiftRight_eq_div_pow]; exact Nat.div_le_self ..
    exact has_i64 (by omega) (by omega)
  · rw [e]; exact hrest
theorem u8_wrap_nat (n : Nat) : IntKind.u8.wrap (n : Int) = (((UInt8.ofNat n).toNat : Nat) : Int) := by
  simp [IntKind.wrap, IntKind.bits, IntKind.signed]
theorem SOps.lowByte {src dst : TypeId} {xo : Operand} {k : IntKind} {n : Nat} (hx : st.val xo = some (.v (.int k (n : Int)))) (hs' : (C.P.underlying src).isSome = true) (hT : intB C.P dst .u8 = true) (hrest : SOps C ops rest (st.put t (.v (.int .u8 (((UInt8.ofNat n).toNat : Nat) : Int)))) R)
    (hg : st.wants ops g = some true := by rfl) (ht : Nat.blt t st.n = true := by rfl) : SOps C ops (⟨some t, .convert src dst xo, ty, pos, aft, g⟩ :: rest) st R :=
  SOps.convInt hx hs' hT (by rw [u8_wrap_nat]; exact hrest) hg ht
end Go.GH
namespace Go.GH
open Go

def pairV (p : Nat × Nat) : Value := .agg #[.int .u8 (p.1 : Int), .int .u8 (p.2 : Int)]
abbrev pairD (p : Nat × Nat) : DV := .agg [.v (.int .u8 (p.1 : Int)), .v (.int .u8 (p.2 : Int))]
def setE (ks : List (Nat × Nat)) : List (Value × DV) := ks.map (fun p => (pairV p, DV.v (.bool true)))
def SmP (p : Nat × Nat) : Prop := p.1 < 256 ∧ p.2 < 256
structure pairB (P : Program) (T K V : Nat) : Prop where
  map : P.underlying T = some (.map K V)
  law : WideMaps.KeyLaw P K
  key : ∀ p, SmP p → ∃ l, keyOf P K (pairV p) = some l
theorem u8_wf {n : Nat} (h : n < 256) : (Lit.int .u8 (n : Int)).wf = true := by
  simp [Lit.wf, IntKind.min, IntKind.max, IntKind.signed, IntKind.bits]
  omega
theorem pairB.of {P : Program} {T K V e k : Nat} (hm : P.underlying T = some (.map K V)) (hK : P.underlying K = some (.array 2 e)) (he : P.underlying e = some (.int .u8)) (hcK : P.cellsOf K = 2) (hce : P.cellsOf e = 1) (hk : P.keyType K = true)
    (h2 : P.keyTypeAt 2 K = true) (ht : P.tiled 2 K = true) (hs : P.types.size = k + 1) : pairB P T K V where
  map := hm
  law := deep_law (m := 2) (by decide) h2 ht (by rw [hK])
  key := fun p hp => by
    have h1 : P.keyLits (k + 1) e [.int .u8 (p.1 : Int)] = some [.int .u8 (p.1 : Int)] := by
      unfold Program.keyLits; simp only [he]; rw [if_pos ⟨trivial, u8_wf hp.1⟩]
    have h2 : P.keyLits (k + 1) e [.int .u8 (p.2 : Int)] = some [.int .u8 (p.2 : Int)] := by
      unfold Program.keyLits; simp only [he]; rw [if_pos ⟨trivial, u8_wf hp.2⟩]
    have h3 : P.keyLits (P.types.size + 1) K (pairV p).cells.toList = some [.int .u8 (p.1 : Int), .int .u8 (p.2 : Int)] := by
      rw [hs]
      unfold Program.keyLits
      simp only [hK, pairV, Value.cells, hcK, hce]
      rw [if_pos (by simp)]
      simp [List.range_succ, h1, h2]
    refine ⟨.string (keyBytes [.int .u8 (p.1 : Int), .int .u8 (p.2 : Int)]), ?_⟩
    unfold keyOf
    simp only [hK]
    rw [if_pos (by simp [hk, Value.formed, pairV, hK, hcK]), h3]
    rfl
theorem rep_pair {w : World} {F : Nat → Prop} {v : Value} {p : Nat × Nat} (h : Rep w F v (pairD p)) : v = pairV p := by
  cases h with
  | @agg us ds hl hr =>
    have hs : us.size = 2 := hl
    obtain ⟨l⟩ := us
    match l, hs with
    | [x, y], _ =>
      have h1 := (hr 0 x _ rfl rfl).inv_v.1
      have h2 := (hr 1 y _ rfl rfl).inv_v.1
      rw [h1, h2]; rfl
theorem pairV_inj {p q : Nat × Nat} (h : pairV p = pairV q) : p = q := by
  simp only [pairV, Value.agg.injEq, Array.mk.injEq, List.cons.injEq, Value.int.injEq, and_true, true_and] at h
  obtain ⟨a, b⟩ := p
  obtain ⟨c, d⟩ := q
  simp only [Prod.mk.injEq] at *
  omega
theorem setE_at {ks : List (Nat × Nat)} {i : Nat} {p : Nat × Nat} (h : ks[i]? = some p) : (setE ks)[i]? = some (pairV p, .v (.bool true)) := by
  rw [setE, List.getElem?_map, h]; rfl
theorem set_find {P : Program} {w : World} {F : Nat → Prop} {T K V : Nat} (hT : pairB P T K V) {ents : Array MapEntry} {ks : List (Nat × Nat)} (hE : EntsRep w F ents (setE ks)) (hks : ∀ q ∈ ks, SmP q) {p : Nat × Nat} (hp : SmP p) :
    (p ∉ ks ∧ (Instr.findKey K (pairV p) ents.toList).run P w = .ok none w) ∨ (p ∈ ks ∧ ∃ j, (Instr.findKey K (pairV p) ents.toList).run P w = .ok (some (j, .bool true)) w) := by
  obtain ⟨l, hl⟩ := hT.key p hp
  have hlen : ents.size = ks.length := by rw [hE.1, setE, List.length_map]
  have hall : ∀ (j : Nat) e, ents[j]? = some e → ∃ q, ks[j]? = some q ∧ e.key = pairV q ∧ e.val = .bool true := fun j e he => by
    have hj : j < ks.length := by rw [← hlen]; exact (Array.getElem?_eq_some_iff.1 he).1
    obtain ⟨e', h1, h2, h3⟩ := hE.2 j _ (setE_at (List.getElem?_eq_getElem hj))
    rw [he] at h1
    obtain rfl := Option.some.inj h1
    exact ⟨ks[j], List.getElem?_eq_getElem hj, h2, h3.inv_v.1⟩
  rcases hT.law.find w hl ents.toList (fun e he => by
    obtain ⟨j, hj⟩ := List.mem_iff_getElem?.1 he
    obtain ⟨q, h1, h2, _⟩ := hall j e (by simpa using hj)
    rw [h2]
    exact hT.key q (hks q (List.mem_of_getElem? h1))) with ⟨h1, h2⟩ | ⟨j, e, h1, h2, h3⟩
  · refine .inl ⟨fun hm => ?_, h1⟩
    obtain ⟨i, hi⟩ := List.mem_iff_getElem?.1 hm
    obtain ⟨e', g1, g2, _⟩ := hE.2 i _ (setE_at hi)
    exact h2 e' (by rw [Array.mem_toList_iff]; exact Array.mem_of_getElem? g1) g2
  · obtain ⟨q, g1, g2, g3⟩ := hall j e (by simpa using h2)
    rw [g2] at h3
    obtain rfl := pairV_inj h3
    exact .inr ⟨List.mem_of_getElem? g1, j, by rw [g3] at h1; exact h1⟩

variable {C : Ctx} {ops : Array Oper} {st : St} {rest : List Oper} {R : St → Prop} {t : Tmp} {ty : TypeId} {pos : String} {aft : Array Edge} {g : Option (Nat × Bool)}

theorem SOps.lookupPair (i : Nat) {T K V b : Nat} {xo ko : Operand} {ks : List (Nat × Nat)} {p : Nat × Nat} (hx : st.val xo = some (.mp b)) (hi : st.heap[i]? = some (b, .map (setE ks))) (hk : st.val ko = some (pairD p)) (hT : pairB C.P T K V) (hz : zeroIs C.P V (.bool false)) (hks : ∀ q ∈ ks, SmP q) (hp : SmP p)
    (hrest : SOps C ops rest (st.put t (.v (.bool (decide (p ∈ ks))))) R)
    (hg : st.wants ops g = some true := by rfl) (ht : Nat.blt t st.n = true := by rfl) : SOps C ops (⟨some t, .lookup T xo ko false, ty, pos, aft, g⟩ :: rest) st R :=
  SOps.val rfl hg ht (fun base a w F hs => by
    have h1 := hs.val hx
    have h2 := rep_pair (hs.val hk)
    generalize hv : a.eval xo = v at h1
    cases h1 with
    | mp =>
      obtain ⟨ents, clock, hb, hE⟩ := (hs.heap _ (List.mem_of_getElem? hi)).2.2
      simp only at hb
      obtain ⟨l, hl⟩ := hT.key p hp
      rcases set_find hT (show EntsRep w F ents (setE ks) from hE) hks hp with ⟨m, h3⟩ | ⟨m, j, h3⟩
      · refine ⟨.bool false, ?_, by rw [decide_eq_false m]; exact .v trivial⟩
        simp only [execOp, hv, h2, Instr.lookup, Sem.run_bind, run_underlying hT.map, Result.andThen_ok, MapKept.run_getObj_map hb, Sem.run_pure, hT.law.check w _ hl, h3, run_zeroValue hz, pure_bind]
        rfl
      · refine ⟨.bool true, ?_, by rw [decide_eq_true m]; exact .v trivial⟩
        simp only [execOp, hv, h2, Instr.lookup, Sem.run_bind, run_underlying hT.map, Result.andThen_ok, MapKept.run_getObj_map hb, Sem.run_pure, hT.law.check w _ hl, h3, pure_bind]
        rfl) hrest
theorem run_setNew {P : Program} {w : World} {F : Nat → Prop} {T K V b : Nat} (hT : pairB P T K V) {ents : Array MapEntry} {clock : Nat} (hb : w.heap[b]? = some (.map ents clock)) {ks : List (Nat × Nat)} (hE : EntsRep w F ents (setE ks)) (hks : ∀ q ∈ ks, SmP q) {p : Nat × Nat} (hp : SmP p) (hn : p ∉ ks) :
    ∃ ents' clock', (Instr.mapUpdate T (.map (some b)) (pairV p) (.bool true)).run P w = .ok () (World.setObj' w b (.map ents' clock')) ∧ ∀ w', (∀ u d, Rep w F u d → Rep w' F u d) → EntsRep w' F ents' (setE (ks ++ [p])) := by
  obtain ⟨l, hl⟩ := hT.key p hp
  rcases set_find hT hE hks hp with ⟨m, h3⟩ | ⟨m, _⟩
  · refine ⟨ents.push { key := pairV p, val := .bool true, born := clock }, clock + 1, ?_, fun w' hm => ?_⟩
    · simp only [Instr.mapUpdate, Sem.run_bind, run_underlying hT.map, Result.andThen_ok, MapKept.run_getObj_map hb, hT.law.check w _ hl, h3, MapKept.run_setObj_map _ hb, Sem.run_pure, pure_bind]
      rfl
    · have hlen : ents.size = (setE ks).length := hE.1
      rw [show setE (ks ++ [p]) = setE ks ++ [(pairV p, DV.v (.bool true))] from by simp [setE]]
      refine ⟨by simp [hlen], fun q x hq => ?_⟩
      rw [List.getElem?_append] at hq
      split at hq
      · rename_i hlt
        obtain ⟨e, he, hke, hr⟩ := hE.2 q x hq
        exact ⟨e, by rw [Array.getElem?_push, if_neg (by rw [hlen]; omega)]; exact he, hke, hm _ _ hr⟩
      · rename_i hlt
        match hqq : q - (setE ks).length, hq with
        | 0, hq =>
          simp at hq
          subst hq
          have : q = ents.size := by rw [hlen]; omega
          exact ⟨_, by rw [Array.getElem?_push, if_pos this], rfl, .v (x := .bool true) trivial⟩
        | m + 1, hq => simp at hq
  · exact absurd m hn
theorem set_write {base : Base} {a : Act} {w : World} {F : Nat → Prop} (hs : SimF C.E base F st a w) {i b : Nat} {ks : List (Nat × Nat)} (hi : st.heap[i]? = some (b, .map (setE ks))) {T K V : Nat} (hT : pairB C.P T K V) (hks : ∀ q ∈ ks, SmP q) {p : Nat × Nat} (hp : SmP p) (hn : p ∉ ks) :
    ∃ w', (Instr.mapUpdate T (.map (some b)) (pairV p) (.bool true)).run C.P w = .ok () w' ∧ SimF C.E base F ⟨st.n, st.slots, st.heap.set i (b, .map (setE (ks ++ [p])))⟩ a w' := by
  obtain ⟨kk1, hbF, ents, clock, hb, hE⟩ := hs.heap _ (List.mem_of_getElem? hi)
  have hE : EntsRep w F ents (setE ks) := hE
  simp only at hb
  obtain ⟨ents', clock', m1, m2⟩ := run_setNew hT hb hE hks hp hn
  have hlt := (Array.getElem?_eq_some_iff.1 hb).1
  have hst : Step (· = b) w (World.setObj' w b (.map ents' clock')) := by
    refine ⟨rfl, rfl, rfl, by simp [World.setObj'], fun c _ hc => ?_, fun c q hq => ?_⟩
    · simp only [World.setObj', Array.getElem?_setIfInBounds]; rw [if_neg (fun e => hc e.symm)]
    · unfold World.shape? at *
      by_cases e : c = b
      · subst e; rw [hb] at hq; cases hq
      · simp only [World.setObj', Array.getElem?_setIfInBounds]; rw [if_neg (fun e' => e e'.symm)]; exact hq
  exact ⟨_, m1, hs.write hi hst ⟨ents', clock', by simp [World.setObj', hlt], m2 _ (fun u d hr => hr.mono (fun c hc => hst.block c (hs.lt c hc).1 (fun e => hbF (e ▸ hc))) hst.shape (fun _ h => h))⟩⟩
theorem SOps.insertPair (i : Nat) {T K V b : Nat} {xo ko yo : Operand} {ks : List (Nat × Nat)} {p : Nat × Nat} (hx : st.val xo = some (.mp b)) (hi : st.heap[i]? = some (b, .map (setE ks))) (hk : st.val ko = some (pairD p)) (hy : st.val yo = some (.v (.bool true))) (hT : pairB C.P T K V) (hks : ∀ q ∈ ks, SmP q) (hp : SmP p) (hn : p ∉ ks)
    (hrest : SOps C ops rest ⟨st.n, st.slots, st.heap.set i (b, .map (setE (ks ++ [p])))⟩ R)
    (hg : st.wants ops g = some true := by rfl) : SOps C ops (⟨none, .insert T xo ko yo, ty, pos, aft, g⟩ :: rest) st R := by
  refine SOps.op (R1 := (· = ⟨st.n, st.slots, st.heap.set i (b, .map (setE (ks ++ [p])))⟩)) hg ?_ (fun st' e => e ▸ hrest)
  intro base ok a w F hs K' Q hK
  have h1 := hs.val hx
  have h2 := rep_pair (hs.val hk)
  have h3 := (hs.val hy).inv_v.1
  generalize hv : a.eval xo = x at h1
  cases h1 with
  | mp =>
    obtain ⟨w', m1, m2⟩ := set_write hs hi hT hks hp hn
    unfold Oper.wp
    rw [show (execOp a.eval ⟨none, .insert T xo ko yo, ty, pos, aft, g⟩).run C.P w = .ok .skip w' from by
      rw [show execOp a.eval ⟨none, .insert T xo ko yo, ty, pos, aft, g⟩ = (do Instr.mapUpdate T (a.eval xo) (a.eval ko) (a.eval yo); pure .skip) from rfl, hv, h2, h3]
      simp only [Sem.run_bind, m1, Result.andThen_ok, Sem.run_pure], Oper.upon_skip]
    exact hK _ _ _ rfl ⟨F, m2⟩
theorem SOps.updatePair (i : Nat) {T K V b : Nat} {xo ko yo : Operand} {ks : List (Nat × Nat)} {p : Nat × Nat} (hx : st.val xo = some (.mp b)) (hi : st.heap[i]? = some (b, .map (setE ks))) (hk : st.val ko = some (pairD p)) (hy : st.val yo = some (.v (.bool true))) (hT : pairB C.P T K V) (hks : ∀ q ∈ ks, SmP q) (hp : SmP p) (hn : p ∉ ks)
    (hrest : SOps C ops rest ⟨st.n, st.slots, st.heap.set i (b, .map (setE (ks ++ [p])))⟩ R)
    (hg : st.wants ops g = some true := by rfl) : SOps C ops (⟨none, .mapUpdate T xo ko yo, ty, pos, aft, g⟩ :: rest) st R := by
  refine SOps.op (R1 := (· = ⟨st.n, st.slots, st.heap.set i (b, .map (setE (ks ++ [p])))⟩)) hg ?_ (fun st' e => e ▸ hrest)
  intro base ok a w F hs K' Q hK
  have h1 := hs.val hx
  have h2 := rep_pair (hs.val hk)
  have h3 := (hs.val hy).inv_v.1
  generalize hv : a.eval xo = x at h1
  cases h1 with
  | mp =>
    obtain ⟨w', m1, m2⟩ := set_write hs hi hT hks hp hn
    unfold Oper.wp
    rw [show (execOp a.eval ⟨none, .mapUpdate T xo ko yo, ty, pos, aft, g⟩).run C.P w = .ok .skip w' from by
      rw [show execOp a.eval ⟨none, .mapUpdate T xo ko yo, ty, pos, aft, g⟩ = (do Instr.mapUpdate T (a.eval xo) (a.eval ko) (a.eval yo); pure .skip) from rfl, hv, h2, h3]
      simp only [Sem.run_bind, m1, Result.andThen_ok, Sem.run_pure], Oper.upon_skip]
    exact hK _ _ _ rfl ⟨F, m2⟩
end Go.GH
namespace Go.GH
open Go
variable {α : Type} {C : Ctx} {ops : Array Oper} {st : St} {rest : List Oper} {R : St → Prop} {t : Tmp} {ty : TypeId} {pos : String} {aft : Array Edge} {g : Option (Nat × Bool)}

theorem SOps.loadF (i k j : Nat) {T b o elem sz : Nat} {xo : Operand} {f : α → List DV} {xs : List α} {d : DV} (hx : st.val xo = some (.ref b o)) (hT : flatB C.P T = true)
    (hi : st.heap[i]? = some (b, .row elem sz (xs.map f))) (ho : o = k * sz + j) (hk : k < xs.length) (hd : (f (xs[k]))[j]? = some d) (hrest : SOps C ops rest (st.put t d) R)
    (hg : st.wants ops g = some true := by rfl) (ht : Nat.blt t st.n = true := by rfl) : SOps C ops (⟨some t, .load T xo, ty, pos, aft, g⟩ :: rest) st R :=
  SOps.loadRef i k j hx hT hi ho (by rw [List.getElem?_map, List.getElem?_eq_getElem hk]; rfl) hd hrest hg ht
theorem SOps.buildArrM {T n e sz : TypeId} {z : Value} {parts : Array (Nat × Operand)} {qs : List (Nat × Nat × DV)} {ds : List DV} (hT : arrayB C.P T n e sz = true) (hz : zeroIs C.P T z) (hq : st.parts ((List.range n).map (fun i => (i * sz, sz))) parts.toList = some qs)
    (hf : dfill (z.cells.toList.map DV.v) qs = some ds) (hrest : SOps C ops rest (st.put t (.agg ds)) R) (h1 : qs.all (fun q => (ecells q.2.2).all DV.one) = true := by rfl) (hb : zcellsB z = true := by rfl)
    (hg : st.wants ops g = some true := by rfl) (ht : Nat.blt t st.n = true := by rfl) : SOps C ops (⟨some t, .build T parts, ty, pos, aft, g⟩ :: rest) st R :=
  SOps.buildArr hT hz hq hf (fun q hq c hc => List.all_eq_true.1 (List.all_eq_true.1 h1 q hq) c hc) hrest hb hg ht
end Go.GH
namespace Go.GH
open Go

def inlB (n : Nat) (ss : List (Nat ⊕ Nat)) : Bool := ss.all (fun x => match x with | .inl j => Nat.blt j n | .inr _ => true)
inductive NeedIs (D s : List (Nat × DV)) : List (Nat ⊕ Nat) → List (Nat × DV) → Prop
  | nil : NeedIs D s [] []
  | inl {j : Nat} {ss : List (Nat ⊕ Nat)} {nd : List (Nat × DV)} (k t : Nat) (d : DV) (hk : k + j + 1 = D.length) (h : D[k]? = some (t, d)) (r : NeedIs D s ss nd) : NeedIs D s (.inl j :: ss) ((t, d) :: nd)
  | inr {t : Nat} {ss : List (Nat ⊕ Nat)} {nd : List (Nat × DV)} (d : DV) (h : getL s t = some d) (k : NeedIs D s ss nd) : NeedIs D s (.inr t :: ss) ((t, d) :: nd)
theorem NeedIs.eq {D s : List (Nat × DV)} : ∀ {ss : List (Nat ⊕ Nat)} {nd : List (Nat × DV)}, NeedIs D s ss nd → needOf D.reverse s ss = nd
  | _, _, .nil => rfl
  | _, _, .inl (j := j) k t d hk h r => by
    have e : D.reverse[j]? = some (t, d) := by rw [List.getElem?_reverse (by omega), show D.length - 1 - j = k by omega, h]
    simp only [needOf, e, r.eq]
  | _, _, .inr d h k => by simp only [needOf, h, k.eq]
inductive DOk (C : Ctx) (ops : Array Oper) (n : Nat) (H : DHeap) (s : List (Nat × DV)) : List (Nat × DV) → List Oper → List (List (Nat ⊕ Nat)) → List (Nat × DV) → Prop
  | nil {D : List (Nat × DV)} : DOk C ops n H s D [] [] []
  | cons {D E nd : List (Nat × DV)} {o : Oper} {os : List Oper} {ss : List (Nat ⊕ Nat)} {sss : List (List (Nat ⊕ Nat))} (t : Nat) (d : DV) (hj : inlB D.length ss = true) (hn : NeedIs D s ss nd)
      (h : ∀ rest, SOps C ops [o] ⟨n, nd ++ rest, H⟩ (fun st' => st' = ⟨n, (t, d) :: (nd ++ rest), H⟩)) (k : DOk C ops n H s ((t, d) :: D) os sss E) :
      DOk C ops n H s D (o :: os) (ss :: sss) ((t, d) :: E)
theorem needOf_more {D E s : List (Nat × DV)} : ∀ {ss : List (Nat ⊕ Nat)}, inlB D.length ss = true → needOf (D ++ E) s ss = needOf D s ss
  | [], _ => rfl
  | .inl j :: r, h => by
    simp only [inlB, List.all_cons, Bool.and_eq_true] at h
    have hj := Nat.le_of_ble_eq_true h.1
    simp only [needOf, List.getElem?_append_left (show j < D.length from hj), needOf_more (E := E) (s := s) (ss := r) h.2]
  | .inr t :: r, h => by
    simp only [inlB, List.all_cons, Bool.and_eq_true] at h
    simp only [needOf, needOf_more (E := E) (s := s) (ss := r) h.2]
theorem DOk.ops {C : Ctx} {ops : Array Oper} {n : Nat} {H : DHeap} {s : List (Nat × DV)} : ∀ {D E : List (Nat × DV)} {os : List Oper} {sss : List (List (Nat ⊕ Nat))}, DOk C ops n H s D os sss E → OpsOk C ops n H os (sss.map (needOf (D.reverse ++ E) s)) E
  | _, _, _, _, .nil => OpsOk.nil
  | D, _, _, _, .cons (E := E) t d hj hn h k => by
    rw [List.map_cons, needOf_more (by rw [List.length_reverse]; exact hj), hn.eq]
    have e : D.reverse ++ (t, d) :: E = ((t, d) :: D).reverse ++ E := by simp
    rw [e]
    exact OpsOk.cons h k.ops
theorem SCode.drawAuto {C : Ctx} {id : Nat} {l : List Oper} {n : Nat} {s : List (Nat × DV)} {H : DHeap} {Q : Exit → St → Prop} {E : List (Nat × DV)} (hm : C.P.follows .mixedOrders = true) (ts : List Nat) (srcs : List (List (Nat ⊕ Nat)))
    (hB : drawB l ts srcs = true) (hd : distB ts = true) (hops : DOk C l.toArray n H s [] l srcs E) (hts : E.map (·.1) = ts) (hQ : Q .normal ⟨n, E ++ s, H⟩) : SCode C (.region id l.toArray true) ⟨n, s, H⟩ Q :=
  SCode.drawPure hm E ts srcs _ hts hB hd rfl hops.ops hQ
end Go.GH
namespace Go.GH
open Go

theorem GCall.clean {P : Program} {E : Env} {f : FuncId} {ds : List DV} {R : DV → DHeap → Prop} {R' : DV → Prop} (h : GCall P E f ds [] R) (hc : ∀ d H, R d H → ∃ d', (∀ (w : World) (F : Nat → Prop) (v : Value), Rep w F v d → Rep w F v d') ∧ R' d') : GCall P E f ds [] (fun d H => R' d ∧ H = []) :=
  ⟨h.1, fun w F vs hE hF hl hr h1 h2 => (h.2 w F vs hE hF hl hr h1 h2).mono (fun e w' ⟨u, d, H', F', e1, e2, e3, e4, e5, e6, e7, e8⟩ => by
    obtain ⟨d', k1, k2⟩ := hc d H' e2
    exact ⟨u, d', [], F', e1, ⟨k2, rfl⟩, e3, e4, k1 _ _ _ e5, (fun p hp => by cases hp), List.nodup_nil, e8⟩)⟩
theorem rep_tup0 {w : World} {F : Nat → Prop} {v : Value} {d d' : DV} {ds : List DV} (hd : ∀ (w : World) (F : Nat → Prop) (v : Value), Rep w F v d → Rep w F v d') (h : Rep w F v (.tup (d :: ds))) : Rep w F v (.tup (d' :: ds)) := by
  cases h with
  | tup hl hr =>
    refine .tup (by simpa using hl) (fun j x e hj he => ?_)
    cases j with
    | zero => simp only [List.getElem?_cons_zero, Option.some.injEq] at he; subst he; exact hd _ _ _ (hr 0 x d hj rfl)
    | succ j => exact hr (j + 1) x e hj (by simpa using he)
end Go.GH
namespace Go.GH
open Go

abbrev Ids := Nat → Nat
/-- A chain: its operations, and what its memory is after so many of them. -/
structure Chn where
  T : List Nat
  Y : List Nat → Nat → DHeap
def Chn.X (x : Chn) (b : Ids) (c : Nat) : DHeap := x.Y (x.T.map b) c
def Chn.at (L : Nat → Bool) (b : Ids) (x : Chn) : DHeap := x.X b (cntL L x.T)
def chnH (L : Nat → Bool) (b : Ids) (xs : List Chn) : DHeap := (xs.map (Chn.at L b)).flatten
inductive NeedG (D : List (Ids → ORes)) (s : List (Nat × DV)) (b : Ids) : List (Nat ⊕ Nat) → List (Nat × DV) → Prop
  | nil : NeedG D s b [] []
  | inl {j : Nat} {ss : List (Nat ⊕ Nat)} {nd : List (Nat × DV)} {r : Ids → ORes} (k t : Nat) (d : DV) (hk : k + j + 1 = D.length) (h : D[k]? = some r) (h2 : r b = some (t, d)) (q : NeedG D s b ss nd) : NeedG D s b (.inl j :: ss) ((t, d) :: nd)
  | inr {t : Nat} {ss : List (Nat ⊕ Nat)} {nd : List (Nat × DV)} (d : DV) (h : getL s t = some d) (q : NeedG D s b ss nd) : NeedG D s b (.inr t :: ss) ((t, d) :: nd)
/-- What each operation does. 'none': it reads alone; 'some (m, c)': it is number c of chain m. -/
inductive GOk (C : Ctx) (ops : Array Oper) (n : Nat) (base : DHeap) (s : List (Nat × DV)) (xs : List Chn) : List (Ids → ORes) → List Oper → List (List (Nat ⊕ Nat)) → List (Option (Nat × Nat)) → List (List Nat) → List (Ids → ORes) → Prop
  | nil {D : List (Ids → ORes)} : GOk C ops n base s xs D [] [] [] [] []
  | pure {D E : List (Ids → ORes)} {o : Oper} {os : List Oper} {ss : List (Nat ⊕ Nat)} {sss : List (List (Nat ⊕ Nat))} {cls : List (Option (Nat × Nat))} {Ss : List (List Nat)} (S : List Nat) (g : List Nat → ORes) {nd : Ids → List (Nat × DV)} (hj : inlB D.length ss = true) (hn : ∀ b, NeedG D s b ss (nd b))
      (h : ∀ b rest ext, SOps C ops [o] ⟨n, nd b ++ rest, base ++ ext⟩ (fun st' => st' = ⟨n, (g (S.map b)).toList ++ (nd b ++ rest), base ++ ext⟩)) (k : GOk C ops n base s xs ((fun b => g (S.map b)) :: D) os sss cls Ss E) : GOk C ops n base s xs D (o :: os) (ss :: sss) (none :: cls) (S :: Ss) ((fun b => g (S.map b)) :: E)
  | act {D E : List (Ids → ORes)} {o : Oper} {os : List Oper} {ss : List (Nat ⊕ Nat)} {sss : List (List (Nat ⊕ Nat))} {cls : List (Option (Nat × Nat))} {Ss : List (List Nat)} {m c : Nat} {x : Chn} (S : List Nat) (g : List Nat → ORes) {nd : Ids → List (Nat × DV)} (hx : xs[m]? = some x) (hc : x.T[c]? = some D.length) (hj : inlB D.length ss = true) (hn : ∀ b, NeedG D s b ss (nd b))
      (h : ∀ b rest ext, SOps C ops [o] ⟨n, nd b ++ rest, base ++ (x.X b c ++ ext)⟩ (fun st' => ∃ b', (∀ k, k ≠ D.length → b' k = b k) ∧ (⟨n, (g (S.map b')).toList ++ (nd b ++ rest), base ++ (x.X b' (c + 1) ++ ext)⟩ : St).Le st')) (k : GOk C ops n base s xs ((fun b => g (S.map b)) :: D) os sss cls Ss E) :
      GOk C ops n base s xs D (o :: os) (ss :: sss) (some (m, c) :: cls) (S :: Ss) ((fun b => g (S.map b)) :: E)
theorem needO_more {D E : List ORes} {s : List (Nat × DV)} : ∀ {ss : List (Nat ⊕ Nat)}, inlB D.length ss = true → needO (D ++ E) s ss = needO D s ss
  | [], _ => rfl
  | .inl j :: r, h => by
    simp only [inlB, List.all_cons, Bool.and_eq_true] at h
    have hj := Nat.le_of_ble_eq_true h.1
    simp only [needO, List.getElem?_append_left (show j < D.length from hj), needO_more (E := E) (s := s) (ss := r) h.2]
  | .inr t :: r, h => by
    simp only [inlB, List.all_cons, Bool.and_eq_true] at h
    simp only [needO, needO_more (E := E) (s := s) (ss := r) h.2]
theorem NeedG.eq {D : List (Ids → ORes)} {s : List (Nat × DV)} {b : Ids} : ∀ {ss : List (Nat ⊕ Nat)} {nd : List (Nat × DV)}, NeedG D s b ss nd → needO (D.reverse.map (fun r => r b)) s ss = nd
  | _, _, .nil => rfl
  | _, _, .inl (j := j) (r := r) k t d hk h h2 q => by
    have e : (D.reverse.map (fun r => r b))[j]? = some (some (t, d)) := by
      rw [List.getElem?_map, List.getElem?_reverse (by omega), show D.length - 1 - j = k by omega, h]
      simp [h2]
    simp only [needO, e, q.eq]
  | _, _, .inr d h q => by simp only [needO, h, q.eq]
/-- Operation i: its sources, its class, what it does. -/
theorem GOk.at {C : Ctx} {ops : Array Oper} {n : Nat} {base : DHeap} {s : List (Nat × DV)} {xs : List Chn} : ∀ {D E : List (Ids → ORes)} {os : List Oper} {sss : List (List (Nat ⊕ Nat))} {cls : List (Option (Nat × Nat))} {Ss : List (List Nat)}, GOk C ops n base s xs D os sss cls Ss E → ∀ (i : Nat) o, os[i]? = some o →
    ∃ (ss : List (Nat ⊕ Nat)) (cl : Option (Nat × Nat)) (r : Ids → ORes) (nd : Ids → List (Nat × DV)), sss[i]? = some ss ∧ cls[i]? = some cl ∧ E[i]? = some r ∧ (∀ b, needO ((D.reverse ++ E).map (fun r => r b)) s ss = nd b) ∧
      (cl = none → ∀ b rest ext, SOps C ops [o] ⟨n, nd b ++ rest, base ++ ext⟩ (fun st' => st' = ⟨n, (r b).toList ++ (nd b ++ rest), base ++ ext⟩)) ∧
      (∀ m c, cl = some (m, c) → ∃ x, xs[m]? = some x ∧ x.T[c]? = some (D.length + i) ∧ ∀ b rest ext, SOps C ops [o] ⟨n, nd b ++ rest, base ++ (x.X b c ++ ext)⟩ (fun st' => ∃ b', (∀ k, k ≠ D.length + i → b' k = b k) ∧ (⟨n, (r b').toList ++ (nd b ++ rest), base ++ (x.X b' (c + 1) ++ ext)⟩ : St).Le st'))
  | _, _, _, _, _, _, .nil, i, o, hi => by simp at hi
  | D, _, _, _, _, _, .pure (E := E) (ss := ss) S g (nd := nd) hj hn h k, 0, o, hi => by
    simp only [List.getElem?_cons_zero, Option.some.injEq] at hi
    subst hi
    refine ⟨ss, none, fun b => g (S.map b), nd, rfl, rfl, rfl, fun b => ?_, fun _ => h, fun m c e => by cases e⟩
    rw [List.map_append, needO_more (by simpa using hj)]
    exact (hn b).eq
  | D, _, _, _, _, _, .act (E := E) (ss := ss) (m := m) (c := c) (x := x) S g (nd := nd) hx hc hj hn h k, 0, o, hi => by
    simp only [List.getElem?_cons_zero, Option.some.injEq] at hi
    subst hi
    refine ⟨ss, some (m, c), fun b => g (S.map b), nd, rfl, rfl, rfl, fun b => ?_, (fun e => by cases e), fun m' c' e => ?_⟩
    · rw [List.map_append, needO_more (by simpa using hj)]
      exact (hn b).eq
    · simp only [Option.some.injEq, Prod.mk.injEq] at e
      obtain ⟨rfl, rfl⟩ := e
      exact ⟨x, hx, by simpa using hc, h⟩
  | D, _, _, _, _, _, .pure (E := E) S g hj hn h k, i + 1, o, hi => by
    obtain ⟨ss, cl, r', nd, h1, h2, h3, h4, h5, h6⟩ := k.at i o (by simpa using hi)
    refine ⟨ss, cl, r', nd, by simpa using h1, by simpa using h2, by simpa using h3, ?_, h5, ?_⟩
    · simpa using h4
    · simpa [Nat.add_assoc, Nat.add_comm 1 i] using h6
  | D, _, _, _, _, _, .act (E := E) S g hx hc hj hn h k, i + 1, o, hi => by
    obtain ⟨ss, cl, r', nd, h1, h2, h3, h4, h5, h6⟩ := k.at i o (by simpa using hi)
    refine ⟨ss, cl, r', nd, by simpa using h1, by simpa using h2, by simpa using h3, ?_, h5, ?_⟩
    · simpa using h4
    · simpa [Nat.add_assoc, Nat.add_comm 1 i] using h6
/-- The chains are chains; an operation is of at most one of them; what an operation yields hangs on names of such as it waits for. -/
def genB (l : List Oper) (ts : List (Option Nat)) (srcs : List (List (Nat ⊕ Nat))) (Ts : List (List Nat)) (cls : List (Option (Nat × Nat))) (Ss : List (List Nat)) (f : Nat) : Bool :=
  ordB l && distO ts && (Ts.all (fun T => distB T && T.all (fun x => Nat.blt x l.length) && (T.zip (T.drop 1)).all (fun p => memB (reqF l f p.2) p.1))) &&
  (l.zipIdx).all (fun p => match srcs[p.2]? with
    | some ss => ss.all (srcO l ts p.2 p.1)
    | none => true) &&
  (List.range l.length).all (fun i => match cls[i]? with
    | some (some (m, _)) => (Ts.zipIdx).all (fun p => Nat.beq p.2 m || !memB p.1 i)
    | some none => Ts.all (fun T => !memB T i)
    | none => false) &&
  (l.zipIdx).all (fun p => match Ss[p.2]? with
    | some S => S.all (fun k => Nat.beq k p.2 || afterB p.1 k)
    | none => false)
theorem chnH_congr {L L' : Nat → Bool} {b b' : Ids} : ∀ {xs : List Chn}, (∀ x ∈ xs, Chn.at L b x = Chn.at L' b' x) → chnH L b xs = chnH L' b' xs := fun {xs} h => by
  unfold chnH
  rw [List.map_congr_left h]
theorem chnH_out {L : Nat → Bool} {b : Ids} : ∀ {xs : List Chn} {m : Nat} {x : Chn}, xs[m]? = some x → (chnH L b xs).Perm (Chn.at L b x ++ chnH L b (xs.eraseIdx m))
  | [], _, _, h => by simp at h
  | y :: xs, 0, x, h => by
    simp only [List.getElem?_cons_zero, Option.some.injEq] at h
    subst h
    exact .refl _
  | y :: xs, m + 1, x, h => by
    have := chnH_out (L := L) (b := b) (xs := xs) (m := m) (by simpa using h)
    show (Chn.at L b y ++ chnH L b xs).Perm (Chn.at L b x ++ (Chn.at L b y ++ chnH L b (xs.eraseIdx m)))
    refine (this.append_left _).trans ?_
    rw [← List.append_assoc, ← List.append_assoc]
    exact List.Perm.append_right _ List.perm_append_comm
theorem mem_eraseIdx_ne {α : Type} {xs : List α} {m : Nat} {y : α} (h : y ∈ xs.eraseIdx m) : ∃ j, j ≠ m ∧ xs[j]? = some y := by
  rw [List.mem_eraseIdx_iff_getElem?] at h
  exact h
theorem GOk.dep {C : Ctx} {ops : Array Oper} {n : Nat} {base : DHeap} {s : List (Nat × DV)} {xs : List Chn} {D E : List (Ids → ORes)} {os : List Oper} {sss : List (List (Nat ⊕ Nat))} {cls : List (Option (Nat × Nat))} {Ss : List (List Nat)} (h : GOk C ops n base s xs D os sss cls Ss E) :
    E.length = os.length ∧ ∀ (j : Nat) r S, E[j]? = some r → Ss[j]? = some S → ∀ b b', (∀ k ∈ S, b k = b' k) → r b = r b' := by
  induction h with
  | nil => exact ⟨rfl, fun j r S h => by simp at h⟩
  | pure S g _ _ _ _ ih =>
    refine ⟨by simp [ih.1], fun j r S' h1 h2 b b' hb => ?_⟩
    cases j with
    | zero =>
      simp only [List.getElem?_cons_zero, Option.some.injEq] at h1 h2
      subst h1; subst h2
      show g (S.map b) = g (S.map b')
      rw [List.map_congr_left hb]
    | succ j => exact ih.2 j r S' (by simpa using h1) (by simpa using h2) b b' hb
  | act S g _ _ _ _ _ _ ih =>
    refine ⟨by simp [ih.1], fun j r S' h1 h2 b b' hb => ?_⟩
    cases j with
    | zero =>
      simp only [List.getElem?_cons_zero, Option.some.injEq] at h1 h2
      subst h1; subst h2
      show g (S.map b) = g (S.map b')
      rw [List.map_congr_left hb]
    | succ j => exact ih.2 j r S' (by simpa using h1) (by simpa using h2) b b' hb
theorem SCode.drawGen {C : Ctx} {id : Nat} {l : List Oper} {n : Nat} {s : List (Nat × DV)} {H : DHeap} {Q : Exit → St → Prop} {D : List (Ids → ORes)} (hm : C.P.follows .mixedOrders = true) (f : Nat) (ts : List (Option Nat)) (srcs : List (List (Nat ⊕ Nat))) (cls : List (Option (Nat × Nat))) (Ss : List (List Nat)) (base : DHeap) (xs : List Chn)
    (hB : genB l ts srcs (xs.map (·.T)) cls Ss f = true) (hH : ∀ b, (base ++ (xs.map (fun x => x.X b 0)).flatten).Perm H)
    (hops : GOk C l.toArray n base s xs [] l srcs cls Ss D) (hts : ∀ b, D.map (fun r => (r b).map (·.1)) = ts)
    (hQ : ∀ b, Q .normal ⟨n, resO (D.map (fun r => r b)) ++ s, base ++ (xs.map (fun x => x.X b x.T.length)).flatten⟩) : SCode C (.region id l.toArray true) ⟨n, s, H⟩ Q := by
  obtain ⟨hDl, hS⟩ := hops.dep
  have hX : ∀ x ∈ xs, ∀ b b', (∀ k ∈ x.T, b k = b' k) → ∀ c, x.X b c = x.X b' c := fun x _ b b' h c => by unfold Chn.X; rw [List.map_congr_left h]
  simp only [genB, Bool.and_eq_true, List.all_eq_true] at hB
  obtain ⟨⟨⟨⟨⟨hord, hdist⟩, hTs⟩, hsrc⟩, hcls⟩, hSs⟩ := hB
  have hdB : ∀ b, distO ((D.map (fun r => r b)).map (fun x => x.map (·.1))) = true := fun b => by
    have := hts b
    rw [List.map_map, show ((fun x : ORes => x.map (·.1)) ∘ fun r : Ids → ORes => r b) = (fun r => (r b).map (·.1)) from rfl, this]; exact hdist
  have hlen : ∀ i o, l[i]? = some o → ∃ r, D[i]? = some r := fun i o hi => by
    obtain ⟨_, _, r, _, _, _, h, _⟩ := hops.at i o hi
    exact ⟨r, h⟩
  have hT : ∀ x ∈ xs, x.T.Nodup ∧ (∀ y ∈ x.T, y < l.length) ∧ ∀ (j : Nat) u v, x.T[j]? = some u → x.T[j + 1]? = some v → u ∈ reqF l f v := fun x hx => by
    have := hTs x.T (List.mem_map.2 ⟨x, hx, rfl⟩)
    obtain ⟨⟨h1, h2⟩, h3⟩ := this
    refine ⟨distB_spec _ h1, fun y hy => by simpa using h2 y hy, fun j u v hu hv => ?_⟩
    have := h3 (u, v) (by
      rw [List.mem_iff_getElem?]
      refine ⟨j, ?_⟩
      rw [List.getElem?_zip_eq_some]
      exact ⟨hu, by rw [List.getElem?_drop, Nat.add_comm]; exact hv⟩)
    exact memB_iff.1 this
  refine SCode.drawAny hm hord (fun L st' => ∃ b, (⟨n, pickO L 0 (D.map (fun r => r b)) s, base ++ chnH L b xs⟩ : St).Le st') ?_ ?_ ?_
  · refine ⟨fun _ => 0, ?_⟩
    rw [pickO_false]
    refine ⟨rfl, fun t d h => .inl h, H, ?_, .refl _⟩
    have e : chnH (fun _ => false) (fun _ => 0) xs = (xs.map (fun x => x.X (fun _ => 0) 0)).flatten := by
      unfold chnH Chn.at
      congr 1
      refine List.map_congr_left (fun x _ => ?_)
      rw [show cntL (fun _ => false) x.T = 0 by simp [cntL]]
    show (base ++ chnH (fun _ => false) (fun _ => 0) xs).Perm H
    rw [e]; exact hH _
  · intro L st' i o hi hLi hinv haft hbef hcl
    obtain ⟨b, hle⟩ := hinv
    have hil := (List.getElem?_eq_some_iff.1 hi).1
    obtain ⟨ss, cl, r, nd, h1, h2, h3, h4, h5, h6⟩ := hops.at i o hi
    have hreq : ∀ x ∈ reqF l f i, L x = true := fun x hx => by
      cases f with
      | zero => simp [reqF] at hx
      | succ f =>
        simp only [reqF, hi] at hx
        rcases List.mem_append.1 hx with hx | hx
        · exact haft x (by simpa using (List.mem_filter.1 hx).2)
        · obtain ⟨js, hjs, hjx⟩ := List.mem_flatten.1 hx
          obtain ⟨y, hy, rfl⟩ := List.mem_map.1 hjs
          exact reqF_spec hcl f y (haft y (by simpa using (List.mem_filter.1 hy).2)) x hjx
    refine SOps.weaken hle ?_
    have hneed : ∀ t d, getL (nd b) t = some d → getL (pickO L 0 (D.map (fun r => r b)) s) t = some d := by
      have hn := h4 b
      simp only [List.reverse_nil, List.nil_append] at hn
      have hchk := hsrc (o, i) (by rw [List.mem_iff_getElem?]; exact ⟨i, by simp [List.getElem?_zipIdx, hi]⟩)
      simp only [h1, List.all_eq_true] at hchk
      rw [← hn]
      have key : ∀ (ss : List (Nat ⊕ Nat)), (∀ x ∈ ss, srcO l ts i o x = true) → ∀ t d, getL (needO (D.map (fun r => r b)) s ss) t = some d → getL (pickO L 0 (D.map (fun r => r b)) s) t = some d := by
        intro ss
        induction ss with
        | nil => intro _ t d h; simp [needO, getL] at h
        | cons x ss ih =>
          intro hx t d h
          have ih' := ih (fun y hy => hx y (List.mem_cons_of_mem _ hy)) t d
          have hx0 := hx x (List.mem_cons_self ..)
          cases x with
          | inl j =>
            simp only [srcO] at hx0
            simp only [needO] at h
            split at h
            · rename_i q hq
              rw [getL_cons] at h
              split at h
              · rename_i e
                subst e
                obtain rfl := Option.some.inj h
                exact pickO_some _ 0 j s q (hdB b) hq (by simpa using haft j hx0)
              · exact ih' h
            · exact ih' h
          | inr u =>
            simp only [srcO, List.all_eq_true] at hx0
            simp only [needO] at h
            split at h
            · rename_i q hq
              rw [getL_cons] at h
              split at h
              · rename_i e
                simp only at e
                subst e
                obtain rfl := Option.some.inj h
                rw [pickO_none _ 0 s (fun k p hk hp => ?_)]
                · exact hq
                · have h4 := hx0 (some p.1, k) (by
                    rw [List.mem_iff_getElem?]
                    refine ⟨k, ?_⟩
                    rw [← hts b, List.getElem?_zipIdx]
                    simp only [List.getElem?_map] at hk ⊢
                    cases hD : D[k]? with
                    | none => rw [hD] at hk; simp at hk
                    | some rr => rw [hD] at hk; simp at hk; simp [hk])
                  simp only [hp, BEq.rfl, Bool.not_true, Bool.false_or, Bool.or_eq_true] at h4
                  rw [Nat.zero_add]
                  rcases h4 with h4 | h4
                  · rw [Nat.eq_of_beq_eq_true h4]; exact hLi
                  · unfold nthB at h4
                    split at h4
                    · rename_i o' ho'
                      exact hbef k o' ho' h4
                    · cases h4
              · exact ih' h
            · exact ih' h
      exact key ss hchk
    have hnl : ∀ t, getL (nd b ++ pickO L 0 (D.map (fun r => r b)) s) t = getL (pickO L 0 (D.map (fun r => r b)) s) t := by
      intro t
      have : ∀ (nd : List (Nat × DV)), (∀ d, getL nd t = some d → getL (pickO L 0 (D.map (fun r => r b)) s) t = some d) → getL (nd ++ pickO L 0 (D.map (fun r => r b)) s) t = getL (pickO L 0 (D.map (fun r => r b)) s) t := by
        intro nd
        induction nd with
        | nil => intro _; rfl
        | cons q nd ih =>
          intro h
          rw [List.cons_append, getL_cons]
          split
          · rename_i e
            exact (h q.2 (by rw [getL_cons, if_pos e])).symm
          · rename_i e
            exact ih (fun d hd => h d (by rw [getL_cons, if_neg e]; exact hd))
      exact this (nd b) (hneed t)
    have hDi : ∀ b, (D.map (fun r => r b))[i]? = some (r b) := fun b => by simp [h3]
    -- what is known of the slots behind the operation
    have hslots : ∀ b', (∀ k, k ≠ i → b' k = b k) → ∀ t d, getL (pickO (fun k => if k = i then true else L k) 0 (D.map (fun r => r b')) s) t = some d → getL ((r b').toList ++ (nd b ++ pickO L 0 (D.map (fun r => r b)) s)) t = some d := by
      intro b' hb' t d ht
      have hcase : (∃ p, r b' = some p ∧ p.1 = t) ∨ (∀ p, r b' = some p → p.1 ≠ t) := by
        cases hr : r b' with
        | none => exact .inr (fun p h => by cases h)
        | some p =>
          by_cases e : p.1 = t
          · exact .inl ⟨p, rfl, e⟩
          · exact .inr (fun q h => by cases h; exact e)
      rcases hcase with ⟨p, hp, e⟩ | hne
      · subst e
        rw [hp]
        simp only [Option.toList_some, List.singleton_append]
        rw [getL_cons, if_pos rfl]
        rw [pickO_some _ 0 i s p (hdB b') (by rw [hDi, hp]) (by simp)] at ht
        exact ht
      · have e1 : getL ((r b').toList ++ (nd b ++ pickO L 0 (D.map (fun r => r b)) s)) t = getL (nd b ++ pickO L 0 (D.map (fun r => r b)) s) t := by
          cases hr : r b' with
          | none => rfl
          | some p => simp only [Option.toList_some, List.singleton_append]; rw [getL_cons, if_neg (hne p hr)]
        rw [e1, hnl, ← ht]
        refine pickO_set _ _ 0 (by simp) (fun k hk hLk => ?_) (fun k p hk hki => ?_) (fun k p hk hki => ?_)
        · rw [Nat.zero_add] at hk hLk
          simp only [List.getElem?_map]
          cases hDk : D[k]? with
          | none => rfl
          | some rr =>
            simp only [Option.map_some]
            congr 1
            have hkl : k < l.length := by
              rcases Nat.lt_or_ge k l.length with h | h
              · exact h
              · exfalso
                have hlt := (List.getElem?_eq_some_iff.1 hDk).1
                omega
            have hSk := hSs (l[k], k) (by rw [List.mem_iff_getElem?]; exact ⟨k, by simp [List.getElem?_zipIdx, hkl]⟩)
            cases hS' : Ss[k]? with
            | none => rw [hS'] at hSk; cases hSk
            | some S =>
              rw [hS'] at hSk
              simp only [List.all_eq_true, Bool.or_eq_true] at hSk
              refine hS k rr S hDk hS' b' b (fun u hu => hb' u (fun e => ?_))
              subst e
              rcases hSk u hu with h7 | h7
              · exact hk (Nat.eq_of_beq_eq_true h7).symm
              · rw [hcl k _ u (List.getElem?_eq_getElem hkl) hLk h7] at hLi; cases hLi
        · have : k = i := by omega
          subst this
          rw [hDi] at hk
          exact hne p (Option.some.inj hk)
        · have : k = i := by omega
          subst this
          have hb1 := hts b
          have hb2 := hts b'
          have := congrArg (fun x => x[k]?) (hb1.trans hb2.symm)
          simp only [List.getElem?_map, h3, Option.map_some, Option.some.injEq] at this
          rw [hDi] at hk
          rw [Option.some.inj hk] at this
          simp only [Option.map_some] at this
          obtain ⟨q, hq, e⟩ := Option.map_eq_some_iff.1 this.symm
          rw [← e]
          exact hne q hq
    have hci := hcls i (List.mem_range.2 hil)
    rw [h2] at hci
    cases cl with
    | none =>
      simp only [List.all_eq_true] at hci
      have hsame : ∀ x ∈ xs, Chn.at (fun k => if k = i then true else L k) b x = Chn.at L b x := fun x hx => by
        unfold Chn.at
        rw [cnt_set hLi x.T (hT x hx).1]
        have := hci x.T (List.mem_map.2 ⟨x, hx, rfl⟩)
        rw [if_neg (fun hm => by rw [memB_iff.2 hm] at this; cases this), Nat.add_zero]
      refine SOps.weaken (st' := ⟨n, nd b ++ pickO L 0 (D.map (fun r => r b)) s, base ++ chnH L b xs⟩) ⟨rfl, fun t d ht => .inl ((hnl t).symm.trans ht), _, .refl _, .refl _⟩ ((h5 rfl b (pickO L 0 (D.map (fun r => r b)) s) (chnH L b xs)).mono ?_)
      rintro st2 rfl
      exact ⟨b, rfl, fun t d ht => .inl (hslots b (fun _ _ => rfl) t d ht), _, by rw [chnH_congr hsame], .refl _⟩
    | some mc =>
      obtain ⟨m, c⟩ := mc
      obtain ⟨x, hx, hc, hstep⟩ := h6 m c rfl
      simp only [List.length_nil, Nat.zero_add] at hc hstep
      simp only [List.all_eq_true] at hci
      have hxm := List.mem_of_getElem? hx
      obtain ⟨t1, t2, t3⟩ := hT x hxm
      have hpre := cnt_prefix (L := L) x.T (fun j u v hu hv hLv => reqF_spec hcl f v hLv u (t3 j u v hu hv))
      have hcnt : cntL L x.T = c := by
        have h7 := hpre c i hc
        have h8 : ¬ c < cntL L x.T := fun h => by rw [h7.2 h] at hLi; cases hLi
        rcases Nat.eq_zero_or_pos c with h0 | h0
        · omega
        · have hlt := (List.getElem?_eq_some_iff.1 hc).1
          have h9 := t3 (c - 1) _ i (List.getElem?_eq_getElem (by omega)) (by rw [show c - 1 + 1 = c by omega]; exact hc)
          have := (hpre (c - 1) _ (List.getElem?_eq_getElem (by omega))).1 (hreq _ h9)
          omega
      have hmem : i ∈ x.T := List.mem_of_getElem? hc
      have hnot : ∀ j y, j ≠ m → xs[j]? = some y → i ∉ y.T := fun j y hj hy hm => by
        have := hci (y.T, j) (by
          rw [List.mem_iff_getElem?]
          exact ⟨j, by rw [List.getElem?_zipIdx, List.getElem?_map, hy]; simp⟩)
        simp only [Bool.or_eq_true] at this
        rcases this with h | h
        · exact hj (Nat.eq_of_beq_eq_true h)
        · rw [memB_iff.2 hm] at h; cases h
      have hat : Chn.at L b x = x.X b c := by unfold Chn.at; rw [hcnt]
      have hp := chnH_out (L := L) (b := b) hx
      rw [hat] at hp
      refine SOps.weaken (st' := ⟨n, nd b ++ pickO L 0 (D.map (fun r => r b)) s, base ++ (x.X b c ++ chnH L b (xs.eraseIdx m))⟩) ⟨rfl, fun t d ht => .inl ((hnl t).symm.trans ht), _, List.Perm.append_left _ hp.symm, .refl _⟩ ((hstep b (pickO L 0 (D.map (fun r => r b)) s) (chnH L b (xs.eraseIdx m))).mono ?_)
      rintro st2 ⟨b', hb', hle2⟩
      refine ⟨b', hle2.n, fun t d ht => ?_, ?_⟩
      · exact hle2.slots t d (hslots b' hb' t d ht)
      · obtain ⟨l2, p1, p2⟩ := hle2.heap
        refine ⟨l2, ?_, p2⟩
        refine List.Perm.trans ?_ p1
        have hp' := chnH_out (L := fun k => if k = i then true else L k) (b := b') hx
        have hat' : Chn.at (fun k => if k = i then true else L k) b' x = x.X b' (c + 1) := by
          unfold Chn.at
          rw [cnt_set hLi x.T t1, if_pos hmem, hcnt]
        have hrest : chnH (fun k => if k = i then true else L k) b' (xs.eraseIdx m) = chnH L b (xs.eraseIdx m) := chnH_congr (fun y hy => by
          obtain ⟨j, hj, hyj⟩ := mem_eraseIdx_ne hy
          have hni := hnot j y hj hyj
          have hym := List.mem_of_getElem? hyj
          unfold Chn.at
          rw [cnt_set hLi y.T (hT y hym).1, if_neg hni, Nat.add_zero]
          exact hX y hym b' b (fun k hk => hb' k (fun e => hni (e ▸ hk))) _)
        rw [hat', hrest] at hp'
        exact List.Perm.append_left _ hp'
  · intro L st' hall hinv
    obtain ⟨b, hle⟩ := hinv
    have e : chnH L b xs = (xs.map (fun x => x.X b x.T.length)).flatten := by
      unfold chnH Chn.at
      congr 1
      refine List.map_congr_left (fun x hx => ?_)
      have : cntL L x.T = x.T.length := by
        unfold cntL
        rw [List.filter_eq_self.2 (fun y hy => hall y ((hT x hx).2.1 y hy))]
      rw [this]
    rw [pickO_all _ 0 (fun k _ hk => hall k (by simp at hk; omega)), e] at hle
    exact ⟨_, hle, hQ b⟩
theorem SCode.drawG {C : Ctx} {id : Nat} {l : List Oper} {n : Nat} {s : List (Nat × DV)} {H : DHeap} {Q : Exit → St → Prop} {D : List (Ids → ORes)} (f : Nat) (ts : List (Option Nat)) (srcs : List (List (Nat ⊕ Nat))) (Ts : List (List Nat)) (cls : List (Option (Nat × Nat))) (Ss : List (List Nat)) (base : DHeap) (xs : List Chn) (hm : C.P.follows .mixedOrders = true)
    (hB : genB l ts srcs Ts cls Ss f = true) (hT : xs.map (·.T) = Ts) (hH : ∀ b, (base ++ (xs.map (fun x => x.X b 0)).flatten).Perm H)
    (hops : GOk C l.toArray n base s xs [] l srcs cls Ss D) (hts : ∀ b, D.map (fun r => (r b).map (·.1)) = ts)
    (hQ : ∀ b, Q .normal ⟨n, resO (D.map (fun r => r b)) ++ s, base ++ (xs.map (fun x => x.X b x.T.length)).flatten⟩) : SCode C (.region id l.toArray true) ⟨n, s, H⟩ Q :=
  SCode.drawGen hm f ts srcs cls Ss base xs (by rw [hT]; exact hB) hH hops hts hQ
theorem GOk.rd {C : Ctx} {ops : Array Oper} {n : Nat} {base : DHeap} {s : List (Nat × DV)} {xs : List Chn} {D E : List (Ids → ORes)} {o : Oper} {os : List Oper} {ss : List (Nat ⊕ Nat)} {sss : List (List (Nat ⊕ Nat))} {cls : List (Option (Nat × Nat))} {Ss : List (List Nat)} (t : Nat) (d : DV) {nd : Ids → List (Nat × DV)} (hj : inlB D.length ss = true) (hn : ∀ b, NeedG D s b ss (nd b))
    (h : ∀ b rest ext, SOps C ops [o] ⟨n, nd b ++ rest, base ++ ext⟩ (fun st' => st' = ⟨n, (t, d) :: (nd b ++ rest), base ++ ext⟩)) (k : GOk C ops n base s xs ((fun _ => some (t, d)) :: D) os sss cls Ss E) :
    GOk C ops n base s xs D (o :: os) (ss :: sss) (none :: cls) ([] :: Ss) ((fun _ => some (t, d)) :: E) :=
  GOk.pure [] (fun _ => some (t, d)) hj hn h k
end Go.GH
namespace Go.GH
open Go Go.Proofs
variable {E : Env}

structure Bx where
  word : ByteArray
  pts : List Int
structure Ln where
  words : List ByteArray
  hyph : Bool
def encBx (b : Bx) : List DV := [.v (.string b.word), DInts b.pts]
abbrev DBxs (l : List Bx) : DV := .isl false 2 (l.map encBx)
def encLn (l : Ln) : List DV := [DStrs l.words, .v (.bool l.hyph)]
abbrev DLns (l : List Ln) : DV := .isl false 2 (l.map encLn)
def spnl : ByteArray := ⟨#[32, 10]⟩
theorem arg2 {w : World} {F : Nat → Prop} {vs : Array Value} {x y : Value} (hl : vs.size = 2) (hr : ∀ (j : Nat) (v : Value) (d : DV), vs[j]? = some v → [DV.v x, DV.v y][j]? = some d → Rep w F v d) : vs = #[x, y] ∧ scal x ∧ scal y := by
  have h0 := hr 0 vs[0] (.v x) (Array.getElem?_eq_getElem (by omega)) rfl
  have h1 := hr 1 vs[1] (.v y) (Array.getElem?_eq_getElem (by omega)) rfl
  refine ⟨?_, h0.inv_v.2, h1.inv_v.2⟩
  apply Array.ext
  · simpa using hl
  · intro i k1 k2
    rcases (show i = 0 ∨ i = 1 by omega) with rfl | rfl
    · exact h0.inv_v.1
    · exact h1.inv_v.1
theorem sIndexAnyLong (s : ByteArray) (h8 : 8 < s.size) (hs : s.size ≤ 1048576) : GCall Tryd.prog E 71 [.v (.string s), .v (.string spnl)] [] (fun d H => d = .v (.int .i64 (Lib.indexAny s.data.toList spnl.data.toList)) ∧ H = []) :=
  GCall.ofCalls (by kernel_rfl) (by
    have h1 := Lib.indexAny_ge spnl.data.toList s.data.toList
    have h2 : Lib.indexAny s.data.toList spnl.data.toList ≤ s.data.toList.length := by
      have key : ∀ l : List UInt8, Lib.indexAny l spnl.data.toList ≤ l.length := by
        intro l
        induction l with
        | nil => decide
        | cons b l ih =>
          rw [Lib.indexAny, List.length_cons]
          split
          · omega
          · split
            · omega
            · omega
      exact key _
    have h3 : s.data.toList.length = s.size := by simp
    show IntKind.i64.has _
    exact has_i64 (by omega) (by omega)) (fun w F vs hE hl hr => by
    obtain ⟨rfl, _, _⟩ := arg2 hl hr
    have hz := zero_of_info (P := Tryd.prog) (t := Tryd.laysAny_ren.t 116) (v := .agg (Array.replicate 256 (.bool false))) (n := 256) (by kernel_rfl)
    refine (Any.strings_IndexAny_long Tryd.laysAny hz.1 hz.2 s spnl w (by decide) h8 (by omega) (by decide) ?_).mono fun e w' ⟨h1, h2⟩ => ⟨h1, ?_⟩
    · intro j b hb
      have : b ∈ spnl.data.toList := List.mem_of_getElem? hb
      simp only [spnl, List.mem_cons, List.not_mem_nil, or_false] at this
      rcases this with rfl | rfl <;> decide
    · rw [h2]
      exact ((RowKit.Below.refl _ _).alloc (Nat.le_refl _) _).alloc (by simp) _)
theorem sIndexRuneAscii (r : Int) (h0 : 0 ≤ r) (h1 : r < 128) : GCall Tryd.prog E 72 [.v (.string spnl), .v (.int .i32 r)] [] (fun d H => d = .v (.int .i64 (Lib.indexByte spnl.data.toList r.toNat.toUInt8)) ∧ H = []) := by
  have hv : scal (.int .i64 (Lib.indexByte spnl.data.toList r.toNat.toUInt8)) := by
    show IntKind.i64.has _
    have key : ∀ (x : UInt8), Lib.indexByte spnl.data.toList x = -1 ∨ Lib.indexByte spnl.data.toList x = 0 ∨ Lib.indexByte spnl.data.toList x = 1 := by
      intro x
      simp only [spnl, Lib.indexByte]
      split
      · simp
      · split
        · simp
        · simp
    rcases key r.toNat.toUInt8 with h | h | h <;> rw [h] <;> exact has_i64 (by decide) (by decide)
  exact GCall.ofCalls (by kernel_rfl) hv (fun w F vs hE hl hr => by
    obtain ⟨rfl, _, _⟩ := arg2 hl hr
    exact (Any.strings_IndexRune_ascii { Tryd.laysAny with } spnl r w h0 h1).mono fun e w' ⟨h1, h2⟩ => ⟨h1, h2 ▸ RowKit.Below.refl _ _⟩)
end Go.GH
namespace Go.GH
open Go Go.Lib

theorem utf8R_encs : ∀ {rs : List Int}, (∀ r ∈ rs, Utf8.valid r = true) → utf8R (encs rs) = true
  | [], _ => rfl
  | r :: rs, h => by
    have hv := h r (List.mem_cons_self ..)
    have ih := utf8R_encs (fun x hx => h x (List.mem_cons_of_mem _ hx))
    rw [utf8R_valid] at ih ⊢
    have hd := decodeL_drop (encs (r :: rs)) 0
    rw [List.drop_zero] at hd
    have hdec : Utf8.decode (encs (r :: rs)) 0 = (r.toNat, (Utf8.encode r).size) := decode_encode hv (encs rs)
    rw [hdec] at hd
    have hp := encode_pos r
    have hdata : (encs (r :: rs)).data.toList = (Utf8.encode r).data.toList ++ (encs rs).data.toList := by
      rw [show encs (r :: rs) = Utf8.encode r ++ encs rs from rfl, data_app2]
    have hlen : (Utf8.encode r).data.toList.length = (Utf8.encode r).size := by simp
    have hne : (encs (r :: rs)).data.toList ≠ [] := by
      intro h0
      rw [hdata] at h0
      have := congrArg List.length h0
      simp only [List.length_append, List.length_nil] at this
      omega
    rw [validD_step _ hne, hd]
    have hno : ¬ (r.toNat = 65533 ∧ (Utf8.encode r).size = 1) := by
      rintro ⟨h1, h2⟩
      have hr : r = 65533 := by
        simp only [Utf8.valid, Bool.or_eq_true, Bool.and_eq_true, decide_eq_true_eq] at hv
        omega
      subst hr
      have h3 : (Utf8.encode 65533).size = 3 := by decide
      omega
    rw [if_neg hno, hdata, List.drop_left' hlen]
    exact ih
theorem utf8R_iff (s : ByteArray) : utf8R s = true ↔ encs (runes s) = s :=
  ⟨encs_runes, fun h => by rw [← h]; exact utf8R_encs (fun r hr => runes_valid hr)⟩
def isSp (r : Int) : Bool := r == 32 || r == 10
def anySp (s : ByteArray) : Bool := (runes s).any isSp
def wordB (s : ByteArray) : Bool := decide (s ≠ ⟨#[]⟩) && utf8R s && !anySp s
def spB (b : UInt8) : Bool := b == 32 || b == 10
theorem toNat_ofNat {n : Nat} (h : n < 256) : (UInt8.ofNat n).toNat = n := by simp [UInt8.toNat_ofNat']; omega
theorem spB_of {n : Nat} (h : n < 256) : spB (UInt8.ofNat n) = (n == 32 || n == 10) := by
  have key : ∀ m : Fin 256, spB (UInt8.ofNat m.val) = (m.val == 32 || m.val == 10) := by decide +kernel
  exact key ⟨n, h⟩
theorem big_sp {n : Nat} (h1 : 128 ≤ n) (h2 : n < 256) : spB (UInt8.ofNat n) = false := by
  rw [spB_of h2]; simp; omega
theorem encL_1 {c : Nat} (hv : Utf8.valid (c : Int) = true) (h : c < 128) : encBy (c : Int) = [UInt8.ofNat c] := by rw [encBy, enc_1 hv h]
theorem encL_2 {c : Nat} (hv : Utf8.valid (c : Int) = true) (h0 : 128 ≤ c) (h : c < 2048) : encBy (c : Int) = [UInt8.ofNat (192 + c / 64), UInt8.ofNat (128 + c % 64)] := by rw [encBy, enc_2 hv h0 h]
theorem encL_3 {c : Nat} (hv : Utf8.valid (c : Int) = true) (h0 : 2048 ≤ c) (h : c < 65536) : encBy (c : Int) = [UInt8.ofNat (224 + c / 4096), UInt8.ofNat (128 + c / 64 % 64), UInt8.ofNat (128 + c % 64)] := by rw [encBy, enc_3 hv h0 h]
theorem encL_4 {c : Nat} (hv : Utf8.valid (c : Int) = true) (h0 : 65536 ≤ c) : encBy (c : Int) = [UInt8.ofNat (240 + c / 262144), UInt8.ofNat (128 + c / 4096 % 64), UInt8.ofNat (128 + c / 64 % 64), UInt8.ofNat (128 + c % 64)] := by rw [encBy, enc_4 hv h0]
theorem any2 {a b : UInt8} (h1 : spB a = false) (h2 : spB b = false) : [a, b].any spB = false := by simp [h1, h2]
theorem any3 {a b c : UInt8} (h1 : spB a = false) (h2 : spB b = false) (h3 : spB c = false) : [a, b, c].any spB = false := by simp [h1, h2, h3]
theorem any4 {a b c d : UInt8} (h1 : spB a = false) (h2 : spB b = false) (h3 : spB c = false) (h4 : spB d = false) : [a, b, c, d].any spB = false := by simp [h1, h2, h3, h4]
theorem isSp_nat (c : Nat) : isSp (c : Int) = (c == 32 || c == 10) := by
  rw [Bool.eq_iff_iff]; simp only [isSp, Bool.or_eq_true, beq_iff_eq]; omega
theorem isSp_big {c : Nat} (h : 128 ≤ c) : isSp (c : Int) = false := by rw [isSp_nat]; simp; omega
theorem enc_sp {r : Int} (hv : Utf8.valid r = true) : (encBy r).any spB = isSp r := by
  obtain ⟨c, rfl, hc⟩ := valid_cases hv
  rcases Nat.lt_or_ge c 128 with h1 | h1
  · rw [encL_1 hv h1, isSp_nat, ← spB_of (show c < 256 by omega), List.any_cons, List.any_nil, Bool.or_false]
  · rw [isSp_big h1]
    rcases Nat.lt_or_ge c 2048 with h2 | h2
    · rw [encL_2 hv h1 h2]
      exact any2 (big_sp (by omega) (by omega)) (big_sp (by omega) (by omega))
    · rcases Nat.lt_or_ge c 65536 with h3 | h3
      · rw [encL_3 hv h2 h3]
        exact any3 (big_sp (by omega) (by omega)) (big_sp (by omega) (by omega)) (big_sp (by omega) (by omega))
      · rw [encL_4 hv h3]
        exact any4 (big_sp (by omega) (by omega)) (big_sp (by omega) (by omega)) (big_sp (by omega) (by omega)) (big_sp (by omega) (by omega))
theorem encs_sp : ∀ {rs : List Int}, (∀ r ∈ rs, Utf8.valid r = true) → (encs rs).data.toList.any spB = rs.any isSp
  | [], _ => rfl
  | r :: rs, h => by
    rw [encs_cons_data, List.any_append, enc_sp (h r (List.mem_cons_self ..)), encs_sp (fun x hx => h x (List.mem_cons_of_mem _ hx)), List.any_cons]
theorem bytes_sp {s : ByteArray} (h : utf8R s = true) : s.data.toList.any spB = anySp s := by
  have := encs_sp (rs := runes s) (fun r hr => runes_valid hr)
  rw [encs_runes h] at this
  exact this
theorem spnl_contains (b : UInt8) : spnl.data.toList.contains b = spB b := by
  rw [Bool.eq_iff_iff]; simp [spnl, spB]
theorem indexAny_sp : ∀ l : List UInt8, decide (0 ≤ Lib.indexAny l spnl.data.toList) = l.any spB
  | [] => rfl
  | b :: l => by
    have ih := indexAny_sp l
    rw [Lib.indexAny, List.any_cons, ← ih]
    have hc := spnl_contains b
    by_cases hb : spB b = true
    · rw [if_pos (by rw [hc, hb]), hb]; rfl
    · rw [if_neg (by rw [hc]; exact hb)]
      simp only [Bool.not_eq_true] at hb
      rw [hb, Bool.false_or]
      by_cases h1 : (Lib.indexAny l spnl.data.toList == -1) = true
      · rw [if_pos h1, beq_iff_eq.1 h1]
      · rw [if_neg h1]
        have h2 := Lib.indexAny_ge spnl.data.toList l
        have h3 : ¬ Lib.indexAny l spnl.data.toList = -1 := fun e => h1 (by rw [e]; rfl)
        exact decide_eq_decide.2 (by omega)
theorem any_long {s : ByteArray} (h : utf8R s = true) : decide (0 ≤ Lib.indexAny s.data.toList spnl.data.toList) = anySp s := by
  rw [indexAny_sp, bytes_sp h]
theorem indexByte_sp {r : Int} (h0 : 0 ≤ r) (h1 : r < 128) : decide (0 ≤ Lib.indexByte spnl.data.toList r.toNat.toUInt8) = isSp r := by
  have key : ∀ m : Fin 128, decide (0 ≤ Lib.indexByte spnl.data.toList (m.val).toUInt8) = (m.val == 32 || m.val == 10) := by decide +kernel
  have h2 := key ⟨r.toNat, by omega⟩
  dsimp only at h2
  rw [h2, Bool.eq_iff_iff]
  simp only [isSp, Bool.or_eq_true, beq_iff_eq]
  omega
end Go.GH
namespace Go.GH
open Go Go.Lib
def findI {α : Type} (q : α → Bool) (l : List α) : Int := match l.findIdx? q with
  | none => -1
  | some n => (n : Int)
theorem findI_at {α : Type} {q : α → Bool} {l : List α} {i : Nat} (h : ∀ x ∈ l.take i, q x = false) (hi : i < l.length) (hq : q (l[i]) = true) : findI q l = (i : Int) := by
  have : l.findIdx? q = some i := by
    rw [List.findIdx?_eq_some_iff_getElem]
    refine ⟨hi, hq, fun j hj => ?_⟩
    have hm : l[j] ∈ l.take i := List.mem_iff_getElem.2 ⟨j, by simp; omega, by simp⟩
    rw [h _ hm]; simp
  unfold findI; rw [this]
theorem findI_none {α : Type} {q : α → Bool} {l : List α} (h : ∀ x ∈ l, q x = false) : findI q l = -1 := by
  have : l.findIdx? q = none := by
    rw [List.findIdx?_eq_none_iff]
    exact h
  unfold findI; rw [this]
theorem findI_nonneg {α : Type} {q : α → Bool} {l : List α} : decide (0 ≤ findI q l) = l.any q := by
  unfold findI
  cases h : l.findIdx? q with
  | none =>
    rw [List.findIdx?_eq_none_iff] at h
    rw [List.any_eq_false.2 (fun x hx => by rw [h x hx]; simp)]; rfl
  | some n =>
    rw [List.findIdx?_eq_some_iff_getElem] at h
    obtain ⟨h1, h2, _⟩ := h
    rw [List.any_eq_true.2 ⟨_, List.getElem_mem h1, h2⟩]
    exact decide_eq_true (by show (0 : Int) ≤ (n : Int); omega)
def wideB (w : Int) : Bool := decide (1 ≤ w) && decide (w ≤ 200)
def penB (p : Int) : Bool := decide (0 ≤ p) && decide (p ≤ 1000000)
def wlen (s : ByteArray) : Nat := (runes s).length
def ptB (n : Nat) (l : List Int) (i : Nat) : Bool := decide (1 ≤ l.getD i 0) && decide (l.getD i 0 < n) && (decide (i = 0) || decide (l.getD (i - 1) 0 < l.getD i 0))
def ptsB (n : Nat) (l : List Int) : Bool := (List.range l.length).all (ptB n l)
def boxB (b : Bx) : Bool := wordB b.word && decide (wlen b.word ≤ 200) && ptsB (wlen b.word) b.pts
def boxesB (l : List Bx) : Bool := decide (l.length ≤ 200) && l.all boxB
def validL (l : List Bx) (w : Int) : Bool := wideB w && boxesB l
theorem getD_int {l : List Int} {i : Nat} (h : i < l.length) : l.getD i 0 = l[i] := by
  rw [List.getD_eq_getElem?_getD, List.getElem?_eq_getElem h]; rfl
theorem ptB_at {n : Nat} {l : List Int} {i : Nat} (h : i < l.length) : ptB n l i = true ↔ 1 ≤ l[i] ∧ l[i] < n ∧ (i = 0 ∨ ∃ (h2 : i - 1 < l.length), l[i - 1] < l[i]) := by
  unfold ptB
  rw [getD_int h]
  simp only [Bool.and_eq_true, Bool.or_eq_true, decide_eq_true_eq, and_assoc]
  have h2 : i - 1 < l.length := by omega
  rw [getD_int h2]
  exact ⟨fun ⟨a, b, c⟩ => ⟨a, b, c.imp_right (fun x => ⟨h2, x⟩)⟩, fun ⟨a, b, c⟩ => ⟨a, b, c.imp_right (fun ⟨_, x⟩ => x)⟩⟩
theorem ptsB_take {n : Nat} {l : List Int} : ptsB n l = true ↔ ∀ i, i < l.length → ptB n l i = true := by
  unfold ptsB
  rw [List.all_eq_true]
  exact ⟨fun h i hi => h i (List.mem_range.2 hi), fun h i hi => h i (List.mem_range.1 hi)⟩
theorem boxB_iff {b : Bx} : boxB b = true ↔ wordB b.word = true ∧ wlen b.word ≤ 200 ∧ ∀ i, i < b.pts.length → ptB (wlen b.word) b.pts i = true := by
  rw [boxB, Bool.and_eq_true, Bool.and_eq_true, decide_eq_true_eq, ptsB_take, and_assoc]
theorem pts_step {n : Nat} {l : List Int} {i : Nat} (hf : ∀ j, j < i → ptB n l j = true) (hi : i < l.length) (h1 : 1 ≤ l[i]) (h2 : l[i] < n) (h3 : i = 0 ∨ ∃ (h2 : i - 1 < l.length), l[i - 1] < l[i]) : ∀ j, j < i + 1 → ptB n l j = true := fun j hj => by
  rcases Nat.lt_or_ge j i with h | h
  · exact hf j h
  · obtain rfl : j = i := by omega
    exact (ptB_at hi).2 ⟨h1, h2, h3⟩
theorem boxesB_iff {l : List Bx} : boxesB l = true ↔ l.length ≤ 200 ∧ ∀ b ∈ l, boxB b = true := by
  rw [boxesB, Bool.and_eq_true, decide_eq_true_eq, List.all_eq_true]
end Go.GH
namespace Go.GH
open Go Go.Proofs
variable {E : Env}
theorem mixed_ : Tryd.prog.follows .mixedOrders = true := by kernel_rfl
theorem someB_21 : (Tryd.prog.underlying 21).isSome = true := by kernel_rfl
theorem strB_9 : strB Tryd.prog 9 = true := by kernel_rfl
def VS (E : Env) : Prop := ∀ s : ByteArray, GCall Tryd.prog E 67 [.v (.string s)] [] (fun d H => d = .v (.bool (utf8R s)) ∧ H = [])
theorem wideW (w : Int)  : GCall Tryd.prog E 45 [.v (.int .i64 w)] [] (fun d H => d = .v (.bool (wideB w)) ∧ H = []) := by
  refine GCall.body (C := ⟨Tryd.prog, E, true⟩) Tryd.func45 rfl (fun _ => rfl) (by kernel_rfl) rfl ?_
  refine SCode.seqR ?_
  refine SOps.assign rfl ?_
  refine SOps.nil ?_
  refine SCode.seqR ?_
  refine SOps.move rfl ?_
  refine SOps.bin rfl rfl rfl ?_
  refine SOps.move rfl ?_
  refine SOps.caseB 5 rfl (fun hb1 => ?_) (fun hb1 => ?_)
  · try simp only [decide_eq_true_eq, decide_eq_false_iff_not, Bool.not_eq_true', Bool.not_eq_false', beq_iff_eq, bne_iff_ne, ne_eq, beq_eq_false_iff_ne, bne_eq_false_iff_eq, Int.not_lt, Int.not_le, Nat.not_lt, Nat.not_le, Int.ofNat_lt, Int.ofNat_le, Bool.not_eq_eq_eq_not, Bool.not_true, Bool.not_false] at hb1
    refine SOps.move rfl ?_
    refine SOps.bin rfl rfl rfl ?_
    refine SOps.pick rfl rfl ?_
    refine SOps.assign rfl ?_
    refine SOps.nil ?_
    refine SCode.ret ?_
    exact ⟨_, Res.one (.tmp rfl), congrArg (fun b => DV.v (.bool b)) (by rw [Bool.eq_iff_iff]; simp only [wideB, Bool.and_eq_true, decide_eq_true_eq, Bool.false_eq_true, Bool.true_eq_false, beq_iff_eq]; first | omega | (simp; omega)), rfl⟩
  · try simp only [decide_eq_true_eq, decide_eq_false_iff_not, Bool.not_eq_true', Bool.not_eq_false', beq_iff_eq, bne_iff_ne, ne_eq, beq_eq_false_iff_ne, bne_eq_false_iff_eq, Int.not_lt, Int.not_le, Nat.not_lt, Nat.not_le, Int.ofNat_lt, Int.ofNat_le, Bool.not_eq_eq_eq_not, Bool.not_true, Bool.not_false] at hb1
    refine SOps.skip rfl ?_
    refine SOps.skip rfl ?_
    refine SOps.pick rfl rfl ?_
    refine SOps.assign rfl ?_
    refine SOps.nil ?_
    refine SCode.ret ?_
    exact ⟨_, Res.one (.tmp rfl), congrArg (fun b => DV.v (.bool b)) (by rw [Bool.eq_iff_iff]; simp only [wideB, Bool.and_eq_true, decide_eq_true_eq, Bool.false_eq_true, Bool.true_eq_false, beq_iff_eq]; first | omega | (simp; omega)), rfl⟩
theorem qWidth (w : Int)  : GCall Tryd.prog E 16 [.v (.int .i64 w)] [] (fun d H => d = .v (.bool (wideB w)) ∧ H = []) := by
  refine GCall.body (C := ⟨Tryd.prog, E, true⟩) Tryd.func16 rfl (fun _ => rfl) (by kernel_rfl) rfl ?_
  refine SCode.seqR ?_
  refine SOps.assign rfl ?_
  refine SOps.nil ?_
  refine SCode.seqR ?_
  refine SOps.move rfl ?_
  refine SOps.bin rfl rfl rfl ?_
  refine SOps.move rfl ?_
  refine SOps.caseB 5 rfl (fun hb1 => ?_) (fun hb1 => ?_)
  · try simp only [decide_eq_true_eq, decide_eq_false_iff_not, Bool.not_eq_true', Bool.not_eq_false', beq_iff_eq, bne_iff_ne, ne_eq, beq_eq_false_iff_ne, bne_eq_false_iff_eq, Int.not_lt, Int.not_le, Nat.not_lt, Nat.not_le, Int.ofNat_lt, Int.ofNat_le, Bool.not_eq_eq_eq_not, Bool.not_true, Bool.not_false] at hb1
    refine SOps.move rfl ?_
    refine SOps.bin rfl rfl rfl ?_
    refine SOps.pick rfl rfl ?_
    refine SOps.assign rfl ?_
    refine SOps.nil ?_
    refine SCode.ret ?_
    exact ⟨_, Res.one (.tmp rfl), congrArg (fun b => DV.v (.bool b)) (by rw [Bool.eq_iff_iff]; simp only [wideB, Bool.and_eq_true, decide_eq_true_eq, Bool.false_eq_true, Bool.true_eq_false, beq_iff_eq]; first | omega | (simp; omega)), rfl⟩
  · try simp only [decide_eq_true_eq, decide_eq_false_iff_not, Bool.not_eq_true', Bool.not_eq_false', beq_iff_eq, bne_iff_ne, ne_eq, beq_eq_false_iff_ne, bne_eq_false_iff_eq, Int.not_lt, Int.not_le, Nat.not_lt, Nat.not_le, Int.ofNat_lt, Int.ofNat_le, Bool.not_eq_eq_eq_not, Bool.not_true, Bool.not_false] at hb1
    refine SOps.skip rfl ?_
    refine SOps.skip rfl ?_
    refine SOps.pick rfl rfl ?_
    refine SOps.assign rfl ?_
    refine SOps.nil ?_
    refine SCode.ret ?_
    exact ⟨_, Res.one (.tmp rfl), congrArg (fun b => DV.v (.bool b)) (by rw [Bool.eq_iff_iff]; simp only [wideB, Bool.and_eq_true, decide_eq_true_eq, Bool.false_eq_true, Bool.true_eq_false, beq_iff_eq]; first | omega | (simp; omega)), rfl⟩
theorem qPenalty (w : Int)  : GCall Tryd.prog E 18 [.v (.int .i64 w)] [] (fun d H => d = .v (.bool (penB w)) ∧ H = []) := by
  refine GCall.body (C := ⟨Tryd.prog, E, true⟩) Tryd.func18 rfl (fun _ => rfl) (by kernel_rfl) rfl ?_
  refine SCode.seqR ?_
  refine SOps.assign rfl ?_
  refine SOps.nil ?_
  refine SCode.seqR ?_
  refine SOps.move rfl ?_
  refine SOps.bin rfl rfl rfl ?_
  refine SOps.move rfl ?_
  refine SOps.caseB 5 rfl (fun hb1 => ?_) (fun hb1 => ?_)
  · try simp only [decide_eq_true_eq, decide_eq_false_iff_not, Bool.not_eq_true', Bool.not_eq_false', beq_iff_eq, bne_iff_ne, ne_eq, beq_eq_false_iff_ne, bne_eq_false_iff_eq, Int.not_lt, Int.not_le, Nat.not_lt, Nat.not_le, Int.ofNat_lt, Int.ofNat_le, Bool.not_eq_eq_eq_not, Bool.not_true, Bool.not_false] at hb1
    refine SOps.move rfl ?_
    refine SOps.bin rfl rfl rfl ?_
    refine SOps.pick rfl rfl ?_
    refine SOps.assign rfl ?_
    refine SOps.nil ?_
    refine SCode.ret ?_
    exact ⟨_, Res.one (.tmp rfl), congrArg (fun b => DV.v (.bool b)) (by rw [Bool.eq_iff_iff]; simp only [penB, Bool.and_eq_true, decide_eq_true_eq, Bool.false_eq_true, Bool.true_eq_false, beq_iff_eq]; first | omega | (simp; omega)), rfl⟩
  · try simp only [decide_eq_true_eq, decide_eq_false_iff_not, Bool.not_eq_true', Bool.not_eq_false', beq_iff_eq, bne_iff_ne, ne_eq, beq_eq_false_iff_ne, bne_eq_false_iff_eq, Int.not_lt, Int.not_le, Nat.not_lt, Nat.not_le, Int.ofNat_lt, Int.ofNat_le, Bool.not_eq_eq_eq_not, Bool.not_true, Bool.not_false] at hb1
    refine SOps.skip rfl ?_
    refine SOps.skip rfl ?_
    refine SOps.pick rfl rfl ?_
    refine SOps.assign rfl ?_
    refine SOps.nil ?_
    refine SCode.ret ?_
    exact ⟨_, Res.one (.tmp rfl), congrArg (fun b => DV.v (.bool b)) (by rw [Bool.eq_iff_iff]; simp only [penB, Bool.and_eq_true, decide_eq_true_eq, Bool.false_eq_true, Bool.true_eq_false, beq_iff_eq]; first | omega | (simp; omega)), rfl⟩
theorem uRuneCount (s : ByteArray)  : GCall Tryd.prog E 61 [.v (.string s)] [] (fun d H => d = .v (.int .i64 ((wlen s : Nat) : Int)) ∧ H = []) := by
  refine GCall.body (C := ⟨Tryd.prog, E, true⟩) Tryd.func61 rfl (fun _ => rfl) (by kernel_rfl) rfl ?_
  refine SCode.seqR ?_
  refine SOps.assign rfl ?_
  refine SOps.nil ?_
  refine SCode.seq ?_
  refine SCode.seqR ?_
  refine SOps.move rfl ?_
  refine SOps.rangeStr rfl strB_9 (fun b0 hb_0 => ?_)
  refine SOps.nil ?_
  refine SCode.block ?_
  refine SCode.fact (v_scal (t := 0) rfl) (fun hS => ?_)
  simp only [scal, lenB] at hS
  refine SCode.loop3 (fun (p : Nat) (n : Nat) (b : Nat) => (⟨10, [(2, .v (.int .i64 (n : Int))), (4, .it b)], [(b, .iter s p)]⟩ : St)) (fun (p : Nat) (n : Nat) (b : Nat) => n ≤ p ∧ n + (runesAt s p).length = (runes s).length) (fun (p : Nat) (n : Nat) (b : Nat) => s.size - p) (0) (0) (b0) (by exact ⟨Nat.le_refl _, by rw [Nat.zero_add]; rfl⟩) (St.Le.of ⟨(by first | rfl | (show some _ = some _; simp)), (by first | rfl | (show some _ = some _; simp)), trivial⟩ rfl (by first | rfl | (simp))) ?_
  rintro p n b ⟨hn, hl⟩
  refine SCode.seqR ?_
  refine SOps.next 0 rfl rfl (fun hn1 => ?_) (fun hn1 => ?_) (by first | omega | (simp only [lenB]; omega))
  · refine SOps.extract rfl rfl ?_
    refine SOps.nil ?_
    refine SCode.seq ?_
    refine SCode.cond rfl (fun _ => ?_) (fun h => by cases h)
    refine SCode.skip ?_
    show SCode _ _ _ _
    refine SCode.block ?_
    refine SCode.region ?_
    refine SOps.move rfl ?_
    refine SOps.addI rfl rfl (by first | omega | (simp only [lenB]; omega)) (by first | omega | (simp only [lenB]; omega)) ?_
    refine SOps.assign rfl ?_
    refine SOps.nil ?_
    exact ⟨p + (Utf8.decode s p).2, n + 1, b, by exact ⟨by have := decode_w s p; omega, by rw [← hl, runes_len_step hn1]; omega⟩, by have := decode_w s p; omega, (St.Le.of ⟨(by first | rfl | (show some _ = some _; simp)), (by first | rfl | (show some _ = some _; simp)), trivial⟩ rfl (by first | rfl | (simp)))⟩
  · refine SOps.extract rfl rfl ?_
    refine SOps.nil ?_
    refine SCode.seq ?_
    refine SCode.cond rfl (fun h => by cases h) (fun _ => ?_)
    refine SCode.exit ?_
    show SCode _ _ _ _
    refine SCode.seqR ?_
    refine SOps.move rfl ?_
    refine SOps.assign rfl ?_
    refine SOps.nil ?_
    refine SCode.drop ?_
    refine SCode.ret ?_
    exact ⟨_, Res.one (.tmp rfl), by rw [wlen, ← hl, runesAt_ge (by omega)]; rfl, rfl⟩
theorem lRunes (s : ByteArray)  : GCall Tryd.prog E 27 [.v (.string s)] [] (fun d H => d = .v (.int .i64 ((wlen s : Nat) : Int)) ∧ H = []) := by
  refine GCall.body (C := ⟨Tryd.prog, E, true⟩) Tryd.func27 rfl (fun _ => rfl) (by kernel_rfl) rfl ?_
  refine SCode.seqR ?_
  refine SOps.assign rfl ?_
  refine SOps.nil ?_
  refine SCode.seqR ?_
  refine SOps.assign rfl ?_
  refine SOps.nil ?_
  refine SCode.seq ?_
  refine SCode.seqR ?_
  refine SOps.move rfl ?_
  refine SOps.rangeStr rfl strB_9 (fun b0 hb_0 => ?_)
  refine SOps.nil ?_
  refine SCode.block ?_
  refine SCode.fact (v_scal (t := 0) rfl) (fun hS => ?_)
  simp only [scal, lenB] at hS
  refine SCode.loop3 (fun (p : Nat) (n : Nat) (b : Nat) => (⟨11, [(3, .v (.int .i64 (n : Int))), (5, .it b)], [(b, .iter s p)]⟩ : St)) (fun (p : Nat) (n : Nat) (b : Nat) => n ≤ p ∧ n + (runesAt s p).length = (runes s).length) (fun (p : Nat) (n : Nat) (b : Nat) => s.size - p) (0) (0) (b0) (by exact ⟨Nat.le_refl _, by rw [Nat.zero_add]; rfl⟩) (St.Le.of ⟨(by first | rfl | (show some _ = some _; simp)), (by first | rfl | (show some _ = some _; simp)), trivial⟩ rfl (by first | rfl | (simp))) ?_
  rintro p n b ⟨hn, hl⟩
  refine SCode.seqR ?_
  refine SOps.next 0 rfl rfl (fun hn1 => ?_) (fun hn1 => ?_) (by first | omega | (simp only [lenB]; omega))
  · refine SOps.extract rfl rfl ?_
    refine SOps.nil ?_
    refine SCode.seq ?_
    refine SCode.cond rfl (fun _ => ?_) (fun h => by cases h)
    refine SCode.skip ?_
    show SCode _ _ _ _
    refine SCode.block ?_
    refine SCode.region ?_
    refine SOps.move rfl ?_
    refine SOps.addI rfl rfl (by first | omega | (simp only [lenB]; omega)) (by first | omega | (simp only [lenB]; omega)) ?_
    refine SOps.assign rfl ?_
    refine SOps.nil ?_
    exact ⟨p + (Utf8.decode s p).2, n + 1, b, by exact ⟨by have := decode_w s p; omega, by rw [← hl, runes_len_step hn1]; omega⟩, by have := decode_w s p; omega, (St.Le.of ⟨(by first | rfl | (show some _ = some _; simp)), (by first | rfl | (show some _ = some _; simp)), trivial⟩ rfl (by first | rfl | (simp)))⟩
  · refine SOps.extract rfl rfl ?_
    refine SOps.nil ?_
    refine SCode.seq ?_
    refine SCode.cond rfl (fun h => by cases h) (fun _ => ?_)
    refine SCode.exit ?_
    show SCode _ _ _ _
    refine SCode.seqR ?_
    refine SOps.move rfl ?_
    refine SOps.assign rfl ?_
    refine SOps.nil ?_
    refine SCode.drop ?_
    refine SCode.ret ?_
    exact ⟨_, Res.one (.tmp rfl), by rw [wlen, ← hl, runesAt_ge (by omega)]; rfl, rfl⟩
theorem uValidRune (r : Int)  : GCall Tryd.prog E 77 [.v (.int .i32 r)] [] (fun d H => d = .v (.bool (runeOK r)) ∧ H = []) := by
  refine GCall.body (C := ⟨Tryd.prog, E, true⟩) Tryd.func77 rfl (fun _ => rfl) (by kernel_rfl) rfl ?_
  refine SCode.seqR ?_
  refine SOps.assign rfl ?_
  refine SOps.nil ?_
  refine SCode.seq ?_
  refine SCode.block ?_
  refine SCode.seqR ?_
  refine SOps.move rfl ?_
  refine SOps.bin rfl rfl rfl ?_
  refine SOps.move rfl ?_
  refine SOps.caseB 6 rfl (fun hb1 => ?_) (fun hb1 => ?_)
  · try simp only [decide_eq_true_eq, decide_eq_false_iff_not, Bool.not_eq_true', Bool.not_eq_false', beq_iff_eq, bne_iff_ne, ne_eq, beq_eq_false_iff_ne, bne_eq_false_iff_eq, Int.not_lt, Int.not_le, Nat.not_lt, Nat.not_le, Int.ofNat_lt, Int.ofNat_le, Bool.not_eq_eq_eq_not, Bool.not_true, Bool.not_false] at hb1
    refine SOps.move rfl ?_
    refine SOps.bin rfl rfl rfl ?_
    refine SOps.pick rfl rfl ?_
    refine SOps.assign rfl ?_
    refine SOps.nil ?_
    refine SCode.cond rfl (fun hc2 => ?_) (fun hc2 => ?_)
    · try simp only [decide_eq_true_eq, decide_eq_false_iff_not, Bool.not_eq_true', Bool.not_eq_false', beq_iff_eq, bne_iff_ne, ne_eq, beq_eq_false_iff_ne, bne_eq_false_iff_eq, Int.not_lt, Int.not_le, Nat.not_lt, Nat.not_le, Int.ofNat_lt, Int.ofNat_le, Bool.not_eq_eq_eq_not, Bool.not_true, Bool.not_false] at hc2
      refine SCode.seqR ?_
      refine SOps.assign rfl ?_
      refine SOps.nil ?_
      refine SCode.ret ?_
      exact ⟨_, Res.one (.tmp rfl), congrArg (fun b => DV.v (.bool b)) (by rw [Bool.eq_iff_iff]; simp only [runeOK, decide_eq_true_eq, Bool.false_eq_true, Bool.true_eq_false, beq_iff_eq]; first | omega | (simp; omega)), rfl⟩
    · try simp only [decide_eq_true_eq, decide_eq_false_iff_not, Bool.not_eq_true', Bool.not_eq_false', beq_iff_eq, bne_iff_ne, ne_eq, beq_eq_false_iff_ne, bne_eq_false_iff_eq, Int.not_lt, Int.not_le, Nat.not_lt, Nat.not_le, Int.ofNat_lt, Int.ofNat_le, Bool.not_eq_eq_eq_not, Bool.not_true, Bool.not_false] at hc2
      refine SCode.seqR ?_
      refine SOps.move rfl ?_
      refine SOps.bin rfl rfl rfl ?_
      refine SOps.move rfl ?_
      refine SOps.caseB 13 rfl (fun hb3 => ?_) (fun hb3 => ?_)
      · try simp only [decide_eq_true_eq, decide_eq_false_iff_not, Bool.not_eq_true', Bool.not_eq_false', beq_iff_eq, bne_iff_ne, ne_eq, beq_eq_false_iff_ne, bne_eq_false_iff_eq, Int.not_lt, Int.not_le, Nat.not_lt, Nat.not_le, Int.ofNat_lt, Int.ofNat_le, Bool.not_eq_eq_eq_not, Bool.not_true, Bool.not_false] at hb3
        refine SOps.move rfl ?_
        refine SOps.bin rfl rfl rfl ?_
        refine SOps.pick rfl rfl ?_
        refine SOps.assign rfl ?_
        refine SOps.nil ?_
        refine SCode.cond rfl (fun hc4 => ?_) (fun hc4 => ?_)
        · try simp only [decide_eq_true_eq, decide_eq_false_iff_not, Bool.not_eq_true', Bool.not_eq_false', beq_iff_eq, bne_iff_ne, ne_eq, beq_eq_false_iff_ne, bne_eq_false_iff_eq, Int.not_lt, Int.not_le, Nat.not_lt, Nat.not_le, Int.ofNat_lt, Int.ofNat_le, Bool.not_eq_eq_eq_not, Bool.not_true, Bool.not_false] at hc4
          refine SCode.seqR ?_
          refine SOps.assign rfl ?_
          refine SOps.nil ?_
          refine SCode.ret ?_
          exact ⟨_, Res.one (.tmp rfl), congrArg (fun b => DV.v (.bool b)) (by rw [Bool.eq_iff_iff]; simp only [runeOK, decide_eq_true_eq, Bool.false_eq_true, Bool.true_eq_false, beq_iff_eq]; first | omega | (simp; omega)), rfl⟩
        · try simp only [decide_eq_true_eq, decide_eq_false_iff_not, Bool.not_eq_true', Bool.not_eq_false', beq_iff_eq, bne_iff_ne, ne_eq, beq_eq_false_iff_ne, bne_eq_false_iff_eq, Int.not_lt, Int.not_le, Nat.not_lt, Nat.not_le, Int.ofNat_lt, Int.ofNat_le, Bool.not_eq_eq_eq_not, Bool.not_true, Bool.not_false] at hc4
          refine SCode.skip ?_
          show SCode _ _ _ _
          refine SCode.seqR ?_
          refine SOps.assign rfl ?_
          refine SOps.nil ?_
          refine SCode.ret ?_
          exact ⟨_, Res.one (.tmp rfl), congrArg (fun b => DV.v (.bool b)) (by rw [Bool.eq_iff_iff]; simp only [runeOK, decide_eq_true_eq, Bool.false_eq_true, Bool.true_eq_false, beq_iff_eq]; first | omega | (simp; omega)), rfl⟩
      · try simp only [decide_eq_true_eq, decide_eq_false_iff_not, Bool.not_eq_true', Bool.not_eq_false', beq_iff_eq, bne_iff_ne, ne_eq, beq_eq_false_iff_ne, bne_eq_false_iff_eq, Int.not_lt, Int.not_le, Nat.not_lt, Nat.not_le, Int.ofNat_lt, Int.ofNat_le, Bool.not_eq_eq_eq_not, Bool.not_true, Bool.not_false] at hb3
        refine SOps.skip rfl ?_
        refine SOps.skip rfl ?_
        refine SOps.pick rfl rfl ?_
        refine SOps.assign rfl ?_
        refine SOps.nil ?_
        refine SCode.cond rfl (fun h => by cases h) (fun _ => ?_)
        refine SCode.skip ?_
        show SCode _ _ _ _
        refine SCode.seqR ?_
        refine SOps.assign rfl ?_
        refine SOps.nil ?_
        refine SCode.ret ?_
        exact ⟨_, Res.one (.tmp rfl), congrArg (fun b => DV.v (.bool b)) (by rw [Bool.eq_iff_iff]; simp only [runeOK, decide_eq_true_eq, Bool.false_eq_true, Bool.true_eq_false, beq_iff_eq]; first | omega | (simp; omega)), rfl⟩
  · try simp only [decide_eq_true_eq, decide_eq_false_iff_not, Bool.not_eq_true', Bool.not_eq_false', beq_iff_eq, bne_iff_ne, ne_eq, beq_eq_false_iff_ne, bne_eq_false_iff_eq, Int.not_lt, Int.not_le, Nat.not_lt, Nat.not_le, Int.ofNat_lt, Int.ofNat_le, Bool.not_eq_eq_eq_not, Bool.not_true, Bool.not_false] at hb1
    refine SOps.skip rfl ?_
    refine SOps.skip rfl ?_
    refine SOps.pick rfl rfl ?_
    refine SOps.assign rfl ?_
    refine SOps.nil ?_
    refine SCode.cond rfl (fun h => by cases h) (fun _ => ?_)
    refine SCode.seqR ?_
    refine SOps.move rfl ?_
    refine SOps.bin rfl rfl rfl ?_
    refine SOps.move rfl ?_
    refine SOps.caseB 13 rfl (fun hb5 => ?_) (fun hb5 => ?_)
    · try simp only [decide_eq_true_eq, decide_eq_false_iff_not, Bool.not_eq_true', Bool.not_eq_false', beq_iff_eq, bne_iff_ne, ne_eq, beq_eq_false_iff_ne, bne_eq_false_iff_eq, Int.not_lt, Int.not_le, Nat.not_lt, Nat.not_le, Int.ofNat_lt, Int.ofNat_le, Bool.not_eq_eq_eq_not, Bool.not_true, Bool.not_false] at hb5
      refine SOps.move rfl ?_
      refine SOps.bin rfl rfl rfl ?_
      refine SOps.pick rfl rfl ?_
      refine SOps.assign rfl ?_
      refine SOps.nil ?_
      refine SCode.cond rfl (fun hc6 => ?_) (fun hc6 => ?_)
      · try simp only [decide_eq_true_eq, decide_eq_false_iff_not, Bool.not_eq_true', Bool.not_eq_false', beq_iff_eq, bne_iff_ne, ne_eq, beq_eq_false_iff_ne, bne_eq_false_iff_eq, Int.not_lt, Int.not_le, Nat.not_lt, Nat.not_le, Int.ofNat_lt, Int.ofNat_le, Bool.not_eq_eq_eq_not, Bool.not_true, Bool.not_false] at hc6
        refine SCode.seqR ?_
        refine SOps.assign rfl ?_
        refine SOps.nil ?_
        refine SCode.ret ?_
        exact ⟨_, Res.one (.tmp rfl), congrArg (fun b => DV.v (.bool b)) (by rw [Bool.eq_iff_iff]; simp only [runeOK, decide_eq_true_eq, Bool.false_eq_true, Bool.true_eq_false, beq_iff_eq]; first | omega | (simp; omega)), rfl⟩
      · try simp only [decide_eq_true_eq, decide_eq_false_iff_not, Bool.not_eq_true', Bool.not_eq_false', beq_iff_eq, bne_iff_ne, ne_eq, beq_eq_false_iff_ne, bne_eq_false_iff_eq, Int.not_lt, Int.not_le, Nat.not_lt, Nat.not_le, Int.ofNat_lt, Int.ofNat_le, Bool.not_eq_eq_eq_not, Bool.not_true, Bool.not_false] at hc6
        refine SCode.skip ?_
        show SCode _ _ _ _
        refine SCode.seqR ?_
        refine SOps.assign rfl ?_
        refine SOps.nil ?_
        refine SCode.ret ?_
        exact ⟨_, Res.one (.tmp rfl), congrArg (fun b => DV.v (.bool b)) (by rw [Bool.eq_iff_iff]; simp only [runeOK, decide_eq_true_eq, Bool.false_eq_true, Bool.true_eq_false, beq_iff_eq]; first | omega | (simp; omega)), rfl⟩
    · try simp only [decide_eq_true_eq, decide_eq_false_iff_not, Bool.not_eq_true', Bool.not_eq_false', beq_iff_eq, bne_iff_ne, ne_eq, beq_eq_false_iff_ne, bne_eq_false_iff_eq, Int.not_lt, Int.not_le, Nat.not_lt, Nat.not_le, Int.ofNat_lt, Int.ofNat_le, Bool.not_eq_eq_eq_not, Bool.not_true, Bool.not_false] at hb5
      refine SOps.skip rfl ?_
      refine SOps.skip rfl ?_
      refine SOps.pick rfl rfl ?_
      refine SOps.assign rfl ?_
      refine SOps.nil ?_
      refine SCode.cond rfl (fun h => by cases h) (fun _ => ?_)
      refine SCode.skip ?_
      show SCode _ _ _ _
      refine SCode.seqR ?_
      refine SOps.assign rfl ?_
      refine SOps.nil ?_
      refine SCode.ret ?_
      exact ⟨_, Res.one (.tmp rfl), congrArg (fun b => DV.v (.bool b)) (by rw [Bool.eq_iff_iff]; simp only [runeOK, decide_eq_true_eq, Bool.false_eq_true, Bool.true_eq_false, beq_iff_eq]; first | omega | (simp; omega)), rfl⟩
theorem isSp_wide {r : Int} (h : 128 ≤ r) : isSp r = false := by simp only [isSp, Bool.or_eq_false_iff, beq_eq_false_iff_ne]; omega
theorem enc_wide {r : Int} (hv : Utf8.valid r = true) (h : 128 ≤ r) : 2 ≤ (Utf8.encode r).size ∧ ∀ (i : Nat) (hi : i < (Utf8.encode r).size), 128 ≤ ((Utf8.encode r)[i]).toNat := by
  obtain ⟨c, rfl, hc⟩ := valid_cases hv
  have key : ∀ {b : ByteArray}, Utf8.encode (c : Int) = b → (2 ≤ b.size ∧ ∀ x ∈ b.data.toList, 128 ≤ x.toNat) → 2 ≤ (Utf8.encode (c : Int)).size ∧ ∀ (i : Nat) (hi : i < (Utf8.encode (c : Int)).size), 128 ≤ ((Utf8.encode (c : Int))[i]).toNat := by
    intro b e h
    rw [e]
    exact ⟨h.1, fun i hi => h.2 _ (by rw [Array.mem_toList_iff]; exact Array.getElem_mem hi)⟩
  have big : ∀ n : Nat, 128 ≤ n → n < 256 → 128 ≤ (UInt8.ofNat n).toNat := fun n h1 h2 => by rw [toNat_ofNat h2]; exact h1
  rcases Nat.lt_or_ge c 2048 with h2 | h2
  · exact key (enc_2 hv (by omega) h2) ⟨Nat.le_refl 2, fun x hx => by
      simp only [List.mem_cons, List.not_mem_nil, or_false] at hx
      rcases hx with rfl | rfl <;> exact big _ (by omega) (by omega)⟩
  · rcases Nat.lt_or_ge c 65536 with h3 | h3
    · exact key (enc_3 hv h2 h3) ⟨Nat.le_of_ble_eq_true rfl, fun x hx => by
        simp only [List.mem_cons, List.not_mem_nil, or_false] at hx
        rcases hx with rfl | rfl | rfl <;> exact big _ (by omega) (by omega)⟩
    · exact key (enc_4 hv h3) ⟨Nat.le_of_ble_eq_true rfl, fun x hx => by
        simp only [List.mem_cons, List.not_mem_nil, or_false] at hx
        rcases hx with rfl | rfl | rfl | rfl <;> exact big _ (by omega) (by omega)⟩
theorem spnl_dec {p : Nat} (h : p < spnl.size) : ((Utf8.decode spnl p).1 : Int) ≠ 65533 := by
  have h2 : p < 2 := h
  rcases (show p = 0 ∨ p = 1 by omega) with rfl | rfl <;> decide
theorem sIndexByteE (b : Int) (hb : IntKind.u8.has b) : GCall Tryd.prog E 76 [.v (.string ⟨#[]⟩), .v (.int .u8 b)] [] (fun d H => d = .v (.int .i64 (-1)) ∧ H = []) :=
  GCall.ofCalls (by kernel_rfl) (has_i64 (by decide) (by decide)) (fun w F vs hE hl hr => by
    obtain ⟨rfl, _, h2⟩ := arg2 hl hr
    have := Any.strings_IndexByte (P := Tryd.prog) (ρ := Tryd.laysAny_ren) { Tryd.laysAny with } ⟨#[]⟩ b w
    exact this.mono fun e w' ⟨h1, h2⟩ => ⟨h1, h2 ▸ RowKit.Below.refl _ _⟩)
theorem sIndexRuneW (r : Int) (hv : Utf8.valid r = true) (h1 : 128 ≤ r) : GCall Tryd.prog E 72 [.v (.string spnl), .v (.int .i32 r)] [] (fun d H => d = .v (.int .i64 (-1)) ∧ H = []) := by
  obtain ⟨he1, he2⟩ := enc_wide hv h1
  have he3 := encode_size r
  have hsz : spnl.size = 2 := rfl
  have hsp1 : ∀ (i : Nat) (hi : i < spnl.size), i = 1 → (spnl[i]).toNat = 10 := by intro i hi h; subst h; rfl
  have hv2 : runeOK r = true := by simp only [runeOK, Utf8.valid, Bool.or_eq_true, Bool.and_eq_true, decide_eq_true_eq] at hv ⊢; omega
  refine GCall.body (C := ⟨Tryd.prog, E, true⟩) Tryd.func72 rfl (fun _ => rfl) (by kernel_rfl) rfl ?_
  refine SCode.seqR ?_
  refine SOps.assign rfl ?_
  refine SOps.nil ?_
  refine SCode.block ?_
  refine SCode.seqR ?_
  refine SOps.move rfl ?_
  refine SOps.bin rfl rfl rfl ?_
  refine SOps.reSlot (t := 162) rfl (show _ = DV.v (.bool true) from congrArg (fun b => DV.v (.bool b)) (decide_eq_true (by omega))) ?_
  refine SOps.move rfl ?_
  refine SOps.move rfl ?_
  refine SOps.bin rfl rfl rfl ?_
  refine SOps.reSlot (t := 165) rfl (show _ = DV.v (.bool false) from congrArg (fun b => DV.v (.bool b)) (decide_eq_false (by omega))) ?_
  refine SOps.pick rfl rfl ?_
  refine SOps.assign rfl ?_
  refine SOps.nil ?_
  refine SCode.cond rfl (fun h => by cases h) (fun _ => ?_)
  refine SCode.seqR ?_
  refine SOps.move rfl ?_
  refine SOps.bin rfl rfl rfl ?_
  refine SOps.assign rfl ?_
  refine SOps.nil ?_
  refine SCode.cond rfl (fun hc1 => ?_) (fun hc1 => ?_)
  · try simp only [decide_eq_true_eq, decide_eq_false_iff_not, Bool.not_eq_true', Bool.not_eq_false', beq_iff_eq, bne_iff_ne, ne_eq, beq_eq_false_iff_ne, bne_eq_false_iff_eq, Int.not_lt, Int.not_le, Nat.not_lt, Nat.not_le, Int.ofNat_lt, Int.ofNat_le, Bool.not_eq_eq_eq_not, Bool.not_true, Bool.not_false] at hc1
    refine SCode.seq ?_
    refine SCode.seqR ?_
    refine SOps.move rfl ?_
    refine SOps.rangeStr rfl strB_9 (fun b0 hb_0 => ?_)
    refine SOps.nil ?_
    refine SCode.block ?_
    refine SCode.loop2 (fun (p : Nat) (b : Nat) => (⟨187, [(0, .v (.string spnl)), (1, .v (.int .i32 r)), (175, .it b)], [(b, .iter spnl p)]⟩ : St)) (fun (p : Nat) (b : Nat) => True) (fun (p : Nat) (b : Nat) => spnl.size - p) (0) (b0) (by trivial) (St.Le.of ⟨(by first | rfl | (show some _ = some _; simp)), (by first | rfl | (show some _ = some _; simp)), (by first | rfl | (show some _ = some _; simp)), trivial⟩ rfl (by first | rfl | (simp))) ?_
    rintro p b _
    refine SCode.seqR ?_
    refine SOps.next 0 rfl rfl (fun hn2 => ?_) (fun hn2 => ?_) (by first | omega | (simp only [lenB] <;> omega))
    · refine SOps.extract rfl rfl ?_
      refine SOps.nil ?_
      refine SCode.seq ?_
      refine SCode.cond rfl (fun _ => ?_) (fun h => by cases h)
      refine SCode.skip ?_
      show SCode _ _ _ _
      refine SCode.block ?_
      refine SCode.seqR ?_
      refine SOps.extract rfl rfl ?_
      refine SOps.extract rfl rfl ?_
      refine SOps.assign rfl ?_
      refine SOps.assign rfl ?_
      refine SOps.nil ?_
      refine SCode.seqR ?_
      refine SOps.move rfl ?_
      refine SOps.bin rfl rfl rfl ?_
      refine SOps.nil ?_
      refine SCode.cond rfl (fun hc3 => ?_) (fun hc3 => ?_)
      · try simp only [decide_eq_true_eq, decide_eq_false_iff_not, Bool.not_eq_true', Bool.not_eq_false', beq_iff_eq, bne_iff_ne, ne_eq, beq_eq_false_iff_ne, bne_eq_false_iff_eq, Int.not_lt, Int.not_le, Nat.not_lt, Nat.not_le, Int.ofNat_lt, Int.ofNat_le, Bool.not_eq_eq_eq_not, Bool.not_true, Bool.not_false] at hc3
        exact absurd hc3 (spnl_dec (by omega))
      · try simp only [decide_eq_true_eq, decide_eq_false_iff_not, Bool.not_eq_true', Bool.not_eq_false', beq_iff_eq, bne_iff_ne, ne_eq, beq_eq_false_iff_ne, bne_eq_false_iff_eq, Int.not_lt, Int.not_le, Nat.not_lt, Nat.not_le, Int.ofNat_lt, Int.ofNat_le, Bool.not_eq_eq_eq_not, Bool.not_true, Bool.not_false] at hc3
        refine SCode.skip ?_
        exact ⟨p + (Utf8.decode spnl p).2, b, by trivial, by have := decode_w spnl p; omega, (St.Le.of ⟨(by first | rfl | (show some _ = some _; simp)), (by first | rfl | (show some _ = some _; simp)), (by first | rfl | (show some _ = some _; simp)), trivial⟩ rfl (by first | rfl | (simp)))⟩
    · refine SOps.extract rfl rfl ?_
      refine SOps.nil ?_
      refine SCode.seq ?_
      refine SCode.cond rfl (fun h => by cases h) (fun _ => ?_)
      refine SCode.exit ?_
      show SCode _ _ _ _
      refine SCode.seqR ?_
      refine SOps.assign rfl ?_
      refine SOps.nil ?_
      refine SCode.drop ?_
      refine SCode.ret ?_
      exact ⟨_, Res.one (.tmp rfl), rfl, rfl⟩
  · try simp only [decide_eq_true_eq, decide_eq_false_iff_not, Bool.not_eq_true', Bool.not_eq_false', beq_iff_eq, bne_iff_ne, ne_eq, beq_eq_false_iff_ne, bne_eq_false_iff_eq, Int.not_lt, Int.not_le, Nat.not_lt, Nat.not_le, Int.ofNat_lt, Int.ofNat_le, Bool.not_eq_eq_eq_not, Bool.not_true, Bool.not_false] at hc1
    refine SCode.seqR ?_
    refine SOps.move rfl ?_
    refine SOps.callP (uValidRune _) rfl ?_
    rintro _ rfl
    refine SOps.reSlot (t := 185) rfl (show _ = DV.v (.bool true) from congrArg (fun b => DV.v (.bool b)) (hv2)) ?_
    refine SOps.un rfl rfl ?_
    refine SOps.assign rfl ?_
    refine SOps.nil ?_
    refine SCode.cond rfl (fun h => by cases h) (fun _ => ?_)
    refine SCode.scope ?_
    refine SCode.seqR ?_
    refine SOps.move rfl ?_
    refine SOps.convIntStr rfl someB_21 strB_9 ?_
    refine SOps.assign rfl ?_
    refine SOps.nil ?_
    refine SCode.seqR ?_
    refine SOps.move rfl ?_
    refine SOps.lenStr rfl strB_9 ?_
    refine SOps.subI rfl rfl (by first | omega | (simp only [lenB] <;> omega)) (by first | omega | (simp only [lenB] <;> omega)) ?_
    refine SOps.assign rfl ?_
    refine SOps.nil ?_
    refine SCode.seqR ?_
    refine SOps.move rfl ?_
    refine SOps.assign rfl ?_
    refine SOps.nil ?_
    refine SCode.seqR ?_
    refine SOps.assign rfl ?_
    refine SOps.nil ?_
    refine SCode.seq ?_
    refine SCode.block ?_
    refine SCode.loop1 (fun (u : Nat) => (⟨187, [(0, .v (.string spnl)), (1, .v (.int .i32 r)), (7, .v (.string (Utf8.encode r))), (8, .v (.int .i64 (((Utf8.encode r).size : Int) - 1))), (9, .v (.int .i64 (((Utf8.encode r).size : Int) - 1)))], []⟩ : St)) (fun (u : Nat) => True) (fun (u : Nat) => u) (0) (by trivial) (St.Le.of ⟨(by first | rfl | (show some _ = some _; simp)), (by first | rfl | (show some _ = some _; simp)), (by first | rfl | (show some _ = some _; simp)), (by first | rfl | (show some _ = some _; simp)), (by first | rfl | (show some _ = some _; simp)), trivial⟩ rfl (by first | rfl | (simp))) ?_
    rintro u _
    refine SCode.seq ?_
    refine SCode.seqR ?_
    refine SOps.move rfl ?_
    refine SOps.move rfl ?_
    refine SOps.lenStr rfl strB_9 ?_
    refine SOps.bin rfl rfl rfl ?_
    refine SOps.nil ?_
    refine SCode.cond rfl (fun hc4 => ?_) (fun hc4 => ?_)
    · try simp only [decide_eq_true_eq, decide_eq_false_iff_not, Bool.not_eq_true', Bool.not_eq_false', beq_iff_eq, bne_iff_ne, ne_eq, beq_eq_false_iff_ne, bne_eq_false_iff_eq, Int.not_lt, Int.not_le, Nat.not_lt, Nat.not_le, Int.ofNat_lt, Int.ofNat_le, Bool.not_eq_eq_eq_not, Bool.not_true, Bool.not_false] at hc4
      refine SCode.skip ?_
      show SCode _ _ _ _
      refine SCode.block ?_
      refine SCode.scope ?_
      refine SCode.seq ?_
      refine SCode.seq ?_
      have hs2 : (Utf8.encode r).size = 2 := by omega
      have hbyte : IntKind.u8.has ((((Utf8.encode r)[(Utf8.encode r).size - 1]).toNat : Nat) : Int) := by have := ((Utf8.encode r)[(Utf8.encode r).size - 1]).toNat_lt; simp only [IntKind.has, IntKind.min, IntKind.max, IntKind.signed, IntKind.bits]; simp; omega
      apply SCode.drawAuto mixed_ [27, 28, 29, 30, 31, 32, 33] [[.inr 0], [.inr 9], [.inl 0, .inl 1], [.inr 7], [.inr 8], [.inl 3, .inl 4], [.inl 2, .inl 5]]
      · kernel_rfl
      · kernel_rfl
      · apply DOk.cons 27 
        · rfl
        · exact (NeedIs.inr _ rfl NeedIs.nil)
        · intro rest
          refine SOps.move rfl ?_
          exact SOps.nil rfl
        apply DOk.cons 28 
        · rfl
        · exact (NeedIs.inr _ rfl NeedIs.nil)
        · intro rest
          refine SOps.move rfl ?_
          exact SOps.nil rfl
        apply DOk.cons 29 
        · rfl
        · exact (NeedIs.inl 1 _ _ rfl rfl (NeedIs.inl 0 _ _ rfl rfl NeedIs.nil))
        · intro rest
          refine SOps.strIndexM (((Utf8.encode r).size - 1)) rfl rfl strB_9 (by first | omega | (simp only [lenB] <;> omega)) (by first | omega | (simp only [lenB] <;> omega)) ?_
          exact SOps.nil rfl
        apply DOk.cons 30 
        · rfl
        · exact (NeedIs.inr _ rfl NeedIs.nil)
        · intro rest
          refine SOps.move rfl ?_
          exact SOps.nil rfl
        apply DOk.cons 31 
        · rfl
        · exact (NeedIs.inr _ rfl NeedIs.nil)
        · intro rest
          refine SOps.move rfl ?_
          exact SOps.nil rfl
        apply DOk.cons 32 
        · rfl
        · exact (NeedIs.inl 1 _ _ rfl rfl (NeedIs.inl 0 _ _ rfl rfl NeedIs.nil))
        · intro rest
          refine SOps.strIndexM (((Utf8.encode r).size - 1)) rfl rfl strB_9 (by first | omega | (simp only [lenB] <;> omega)) (by first | omega | (simp only [lenB] <;> omega)) ?_
          exact SOps.nil rfl
        apply DOk.cons 33 (.v (.bool true))
        · rfl
        · exact (NeedIs.inl 3 _ _ rfl rfl (NeedIs.inl 0 _ _ rfl rfl NeedIs.nil))
        · intro rest
          refine SOps.bin rfl rfl rfl ?_
          exact SOps.nil (congrArg (fun b => St.put _ 33 (.v (.bool b))) (bne_iff_ne.2 (by have h8 := he2 ((Utf8.encode r).size - 1) (by omega); have h9 := hsp1 ((Utf8.encode r).size - 1) (by omega) (by omega); omega)))
        exact DOk.nil
      · rfl
      · show SCode _ _ _ _
        refine SCode.cond rfl (fun _ => ?_) (fun h => by cases h)
        refine SCode.seq ?_
        apply SCode.drawAuto mixed_ [34, 35, 36, 37, 38, 39, 40, 41, 11] [[.inr 0], [.inr 9], [.inl 1], [.inl 0, .inl 2], [.inr 7], [.inr 8], [.inl 4, .inl 5], [.inl 3, .inl 6], [.inl 7]]
        · kernel_rfl
        · kernel_rfl
        · apply DOk.cons 34 
          · rfl
          · exact (NeedIs.inr _ rfl NeedIs.nil)
          · intro rest
            refine SOps.move rfl ?_
            exact SOps.nil rfl
          apply DOk.cons 35 
          · rfl
          · exact (NeedIs.inr _ rfl NeedIs.nil)
          · intro rest
            refine SOps.move rfl ?_
            exact SOps.nil rfl
          apply DOk.cons 36 
          · rfl
          · exact (NeedIs.inl 0 _ _ rfl rfl NeedIs.nil)
          · intro rest
            refine SOps.addI rfl rfl (by first | omega | (simp only [lenB] <;> omega)) (by first | omega | (simp only [lenB] <;> omega)) ?_
            exact SOps.nil rfl
          apply DOk.cons 37 
          · rfl
          · exact (NeedIs.inl 2 _ _ rfl rfl (NeedIs.inl 0 _ _ rfl rfl NeedIs.nil))
          · intro rest
            refine SOps.sliceStr (2) (_) strB_9 rfl (.at (2) rfl (by first | omega | (simp only [lenB] <;> omega))) .none (by first | omega | (simp only [lenB] <;> omega)) (by first | omega | (simp only [lenB] <;> omega)) ?_
            exact SOps.nil rfl
          apply DOk.cons 38 
          · rfl
          · exact (NeedIs.inr _ rfl NeedIs.nil)
          · intro rest
            refine SOps.move rfl ?_
            exact SOps.nil rfl
          apply DOk.cons 39 
          · rfl
          · exact (NeedIs.inr _ rfl NeedIs.nil)
          · intro rest
            refine SOps.move rfl ?_
            exact SOps.nil rfl
          apply DOk.cons 40 
          · rfl
          · exact (NeedIs.inl 1 _ _ rfl rfl (NeedIs.inl 0 _ _ rfl rfl NeedIs.nil))
          · intro rest
            refine SOps.strIndexM (((Utf8.encode r).size - 1)) rfl rfl strB_9 (by first | omega | (simp only [lenB] <;> omega)) (by first | omega | (simp only [lenB] <;> omega)) ?_
            exact SOps.nil rfl
          apply DOk.cons 41 
          · rfl
          · exact (NeedIs.inl 3 _ _ rfl rfl (NeedIs.inl 0 _ _ rfl rfl NeedIs.nil))
          · intro rest
            refine SOps.callP (sIndexByteE _ hbyte) rfl ?_
            rintro _ rfl
            exact SOps.nil rfl
          apply DOk.cons 11 
          · rfl
          · exact (NeedIs.inl 0 _ _ rfl rfl NeedIs.nil)
          · intro rest
            refine SOps.assign rfl ?_
            exact SOps.nil rfl
          exact DOk.nil
        · rfl
        · show SCode _ _ _ _
          refine SCode.seq ?_
          refine SCode.seqR ?_
          refine SOps.move rfl ?_
          refine SOps.bin rfl rfl rfl ?_
          refine SOps.reSlot (t := 43) rfl (show _ = DV.v (.bool true) from congrArg (fun b => DV.v (.bool b)) (decide_eq_true (by decide))) ?_
          refine SOps.nil ?_
          refine SCode.cond rfl (fun _ => ?_) (fun h => by cases h)
          refine SCode.seqR ?_
          refine SOps.assign rfl ?_
          refine SOps.nil ?_
          refine SCode.ret ?_
          exact ⟨_, Res.one (.tmp rfl), rfl, rfl⟩
    · try simp only [decide_eq_true_eq, decide_eq_false_iff_not, Bool.not_eq_true', Bool.not_eq_false', beq_iff_eq, bne_iff_ne, ne_eq, beq_eq_false_iff_ne, bne_eq_false_iff_eq, Int.not_lt, Int.not_le, Nat.not_lt, Nat.not_le, Int.ofNat_lt, Int.ofNat_le, Bool.not_eq_eq_eq_not, Bool.not_true, Bool.not_false] at hc4
      refine SCode.exit ?_
      show SCode _ _ _ _
      refine SCode.seq ?_
      refine SCode.seqR ?_
      refine SOps.assign rfl ?_
      refine SOps.nil ?_
      refine SCode.ret ?_
      exact ⟨_, Res.one (.tmp rfl), rfl, rfl⟩
theorem sIndexRune (r : Int) (hv : Utf8.valid r = true) : GCall Tryd.prog E 72 [.v (.string spnl), .v (.int .i32 r)] [] (fun d H => (∃ n : Int, d = .v (.int .i64 n) ∧ decide (0 ≤ n) = isSp r) ∧ H = []) := by
  obtain ⟨c, rfl, hc⟩ := valid_cases hv
  rcases (show (c : Int) < 128 ∨ 128 ≤ (c : Int) by omega) with h | h
  · exact (sIndexRuneAscii _ (by omega) h).mono (fun d H ⟨e, e2⟩ => ⟨⟨_, e, indexByte_sp (by omega) h⟩, e2⟩)
  · exact (sIndexRuneW _ hv h).mono (fun d H ⟨e, e2⟩ => ⟨⟨_, e, by rw [isSp_wide h]; rfl⟩, e2⟩)
theorem sUseSet (n : Int)  : GCall Tryd.prog E 73 [.v (.int .i64 n)] [] (fun d H => d = .v (.bool (decide (8 < n))) ∧ H = []) := by
  refine GCall.body (C := ⟨Tryd.prog, E, true⟩) Tryd.func73 rfl (fun _ => rfl) (by kernel_rfl) rfl ?_
  refine SCode.seqR ?_
  refine SOps.assign rfl ?_
  refine SOps.nil ?_
  refine SCode.seqR ?_
  refine SOps.move rfl ?_
  refine SOps.bin rfl rfl rfl ?_
  refine SOps.assign rfl ?_
  refine SOps.nil ?_
  refine SCode.ret ?_
  exact ⟨_, Res.one (.tmp rfl), rfl, rfl⟩
theorem sIndexAnyS (s : ByteArray) (h8 : s.size ≤ 8) : GCall Tryd.prog E 71 [.v (.string s), .v (.string spnl)] [] (fun d H => (∃ n : Int, d = .v (.int .i64 n) ∧ decide (0 ≤ n) = anySp s) ∧ H = []) := by
  refine GCall.body (C := ⟨Tryd.prog, E, true⟩) Tryd.func71 rfl (fun _ => rfl) (by kernel_rfl) rfl ?_
  refine SCode.seqR ?_
  refine SOps.assign rfl ?_
  refine SOps.nil ?_
  refine SCode.seq ?_
  refine SCode.seqR ?_
  refine SOps.move rfl ?_
  refine SOps.bin rfl rfl rfl ?_
  refine SOps.reSlot (t := 12) rfl (show _ = DV.v (.bool false) from congrArg (fun b => DV.v (.bool b)) (by rfl)) ?_
  refine SOps.nil ?_
  refine SCode.cond rfl (fun h => by cases h) (fun _ => ?_)
  refine SCode.skip ?_
  show SCode _ _ _ _
  refine SCode.seq ?_
  refine SCode.seqR ?_
  refine SOps.move rfl ?_
  refine SOps.lenStr rfl strB_9 ?_
  refine SOps.bin rfl rfl rfl ?_
  refine SOps.reSlot (t := 15) rfl (show _ = DV.v (.bool false) from congrArg (fun b => DV.v (.bool b)) (by rfl)) ?_
  refine SOps.nil ?_
  refine SCode.cond rfl (fun h => by cases h) (fun _ => ?_)
  refine SCode.skip ?_
  show SCode _ _ _ _
  refine SCode.seq ?_
  refine SCode.seqR ?_
  refine SOps.move rfl ?_
  refine SOps.lenStr rfl strB_9 ?_
  refine SOps.callP (sUseSet _) rfl ?_
  rintro _ rfl
  refine SOps.reSlot (t := 26) rfl (show _ = DV.v (.bool false) from congrArg (fun b => DV.v (.bool b)) (decide_eq_false (by omega))) ?_
  refine SOps.nil ?_
  refine SCode.cond rfl (fun h => by cases h) (fun _ => ?_)
  refine SCode.skip ?_
  show SCode _ _ _ _
  refine SCode.seq ?_
  refine SCode.seqR ?_
  refine SOps.move rfl ?_
  refine SOps.rangeStr rfl strB_9 (fun b0 hb_0 => ?_)
  refine SOps.nil ?_
  refine SCode.block ?_
  refine SCode.loop2 (fun (p : Nat) (b : Nat) => (⟨55, [(0, .v (.string s)), (1, .v (.string spnl)), (45, .it b)], [(b, .iter s p)]⟩ : St)) (fun (p : Nat) (b : Nat) => anySp s = (runesAt s p).any isSp) (fun (p : Nat) (b : Nat) => s.size - p) (0) (b0) (by rfl) (St.Le.of ⟨(by first | rfl | (show some _ = some _; simp)), (by first | rfl | (show some _ = some _; simp)), (by first | rfl | (show some _ = some _; simp)), trivial⟩ rfl (by first | rfl | (simp))) ?_
  rintro p b hf
  refine SCode.seqR ?_
  refine SOps.next 0 rfl rfl (fun hn1 => ?_) (fun hn1 => ?_) (by first | omega | (simp only [lenB] <;> omega))
  · refine SOps.extract rfl rfl ?_
    refine SOps.nil ?_
    refine SCode.seq ?_
    refine SCode.cond rfl (fun _ => ?_) (fun h => by cases h)
    refine SCode.skip ?_
    show SCode _ _ _ _
    refine SCode.block ?_
    refine SCode.seqR ?_
    refine SOps.extract rfl rfl ?_
    refine SOps.extract rfl rfl ?_
    refine SOps.assign rfl ?_
    refine SOps.assign rfl ?_
    refine SOps.nil ?_
    refine SCode.seqR ?_
    refine SOps.move rfl ?_
    refine SOps.move rfl ?_
    refine SOps.callP (sIndexRune ((Utf8.decode s p).1 : Int) (decode_valid s p)) rfl ?_
    rintro _ ⟨n9, rfl, hn9⟩
    refine SOps.bin rfl rfl rfl ?_
    refine SOps.nil ?_
    refine SCode.cond rfl (fun hc2 => ?_) (fun hc2 => ?_)
    · try simp only [decide_eq_true_eq, decide_eq_false_iff_not, Bool.not_eq_true', Bool.not_eq_false', beq_iff_eq, bne_iff_ne, ne_eq, beq_eq_false_iff_ne, bne_eq_false_iff_eq, Int.not_lt, Int.not_le, Nat.not_lt, Nat.not_le, Int.ofNat_lt, Int.ofNat_le, Bool.not_eq_eq_eq_not, Bool.not_true, Bool.not_false] at hc2
      refine SCode.seqR ?_
      refine SOps.move rfl ?_
      refine SOps.assign rfl ?_
      refine SOps.nil ?_
      refine SCode.drop ?_
      refine SCode.ret ?_
      exact ⟨_, Res.one (.tmp rfl), ⟨_, rfl, by rw [hf, runesAt_lt hn1, List.any_cons, show isSp ((Utf8.decode s p).1 : Int) = true from by rw [← hn9]; exact decide_eq_true (by omega)]; exact decide_eq_true (by omega)⟩, rfl⟩
    · try simp only [decide_eq_true_eq, decide_eq_false_iff_not, Bool.not_eq_true', Bool.not_eq_false', beq_iff_eq, bne_iff_ne, ne_eq, beq_eq_false_iff_ne, bne_eq_false_iff_eq, Int.not_lt, Int.not_le, Nat.not_lt, Nat.not_le, Int.ofNat_lt, Int.ofNat_le, Bool.not_eq_eq_eq_not, Bool.not_true, Bool.not_false] at hc2
      refine SCode.skip ?_
      exact ⟨p + (Utf8.decode s p).2, b, by rw [hf, runesAt_lt hn1, List.any_cons, show isSp ((Utf8.decode s p).1 : Int) = false from by rw [← hn9]; exact decide_eq_false (by omega)]; rfl, by have := decode_w s p; omega, (St.Le.of ⟨(by first | rfl | (show some _ = some _; simp)), (by first | rfl | (show some _ = some _; simp)), (by first | rfl | (show some _ = some _; simp)), trivial⟩ rfl (by first | rfl | (simp)))⟩
  · refine SOps.extract rfl rfl ?_
    refine SOps.nil ?_
    refine SCode.seq ?_
    refine SCode.cond rfl (fun h => by cases h) (fun _ => ?_)
    refine SCode.exit ?_
    show SCode _ _ _ _
    refine SCode.seqR ?_
    refine SOps.assign rfl ?_
    refine SOps.nil ?_
    refine SCode.drop ?_
    refine SCode.ret ?_
    exact ⟨_, Res.one (.tmp rfl), ⟨_, rfl, by rw [hf, runesAt_ge (by omega)]; rfl⟩, rfl⟩
theorem sIndexAny (s : ByteArray) (hv : utf8R s = true) (hs : s.size ≤ 1048576) : GCall Tryd.prog E 71 [.v (.string s), .v (.string spnl)] [] (fun d H => (∃ n : Int, d = .v (.int .i64 n) ∧ decide (0 ≤ n) = anySp s) ∧ H = []) := by
  rcases Nat.lt_or_ge 8 s.size with h | h
  · exact (sIndexAnyLong s h hs).mono (fun d H ⟨e, e2⟩ => ⟨⟨_, e, any_long hv⟩, e2⟩)
  · exact sIndexAnyS s h
theorem sContainsAny (s : ByteArray) (hv : utf8R s = true) (hs : s.size ≤ 1048576) : GCall Tryd.prog E 68 [.v (.string s), .v (.string spnl)] [] (fun d H => d = .v (.bool (anySp s)) ∧ H = []) := by
  refine GCall.body (C := ⟨Tryd.prog, E, true⟩) Tryd.func68 rfl (fun _ => rfl) (by kernel_rfl) rfl ?_
  refine SCode.seqR ?_
  refine SOps.assign rfl ?_
  refine SOps.nil ?_
  refine SCode.seqR ?_
  refine SOps.move rfl ?_
  refine SOps.move rfl ?_
  refine SOps.callP (sIndexAny s hv hs) rfl ?_
  rintro _ ⟨n9, rfl, hn9⟩
  refine SOps.bin rfl rfl rfl ?_
  refine SOps.assign rfl ?_
  refine SOps.nil ?_
  refine SCode.ret ?_
  exact ⟨_, Res.one (.tmp rfl), congrArg (fun b => DV.v (.bool b)) (hn9), rfl⟩
theorem sPrintable (hV : VS E) (s : ByteArray) (hs : s.size ≤ 1048576) : GCall Tryd.prog E 60 [.v (.string s)] [] (fun d H => d = .v (.bool (wordB s)) ∧ H = []) := by
  refine GCall.body (C := ⟨Tryd.prog, E, true⟩) Tryd.func60 rfl (fun _ => rfl) (by kernel_rfl) rfl ?_
  refine SCode.seqR ?_
  refine SOps.assign rfl ?_
  refine SOps.nil ?_
  refine SCode.seqR ?_
  refine SOps.move rfl ?_
  refine SOps.bin rfl rfl rfl ?_
  refine SOps.move rfl ?_
  refine SOps.caseB 5 rfl (fun hb1 => ?_) (fun hb1 => ?_)
  · try simp only [decide_eq_true_eq, decide_eq_false_iff_not, Bool.not_eq_true', Bool.not_eq_false', beq_iff_eq, bne_iff_ne, ne_eq, beq_eq_false_iff_ne, bne_eq_false_iff_eq, Int.not_lt, Int.not_le, Nat.not_lt, Nat.not_le, Int.ofNat_lt, Int.ofNat_le, Bool.not_eq_eq_eq_not, Bool.not_true, Bool.not_false] at hb1
    refine SOps.move rfl ?_
    refine SOps.callP (hV _) rfl ?_
    rintro _ rfl
    refine SOps.pick rfl rfl ?_
    refine SOps.move rfl ?_
    refine SOps.caseB 9 rfl (fun hb2 => ?_) (fun hb2 => ?_)
    · try simp only [decide_eq_true_eq, decide_eq_false_iff_not, Bool.not_eq_true', Bool.not_eq_false', beq_iff_eq, bne_iff_ne, ne_eq, beq_eq_false_iff_ne, bne_eq_false_iff_eq, Int.not_lt, Int.not_le, Nat.not_lt, Nat.not_le, Int.ofNat_lt, Int.ofNat_le, Bool.not_eq_eq_eq_not, Bool.not_true, Bool.not_false] at hb2
      refine SOps.move rfl ?_
      refine SOps.callP (sContainsAny s (by assumption) hs) rfl ?_
      rintro _ rfl
      refine SOps.un rfl rfl ?_
      refine SOps.pick rfl rfl ?_
      refine SOps.assign rfl ?_
      refine SOps.nil ?_
      refine SCode.ret ?_
      exact ⟨_, Res.one (.tmp rfl), congrArg (fun b => DV.v (.bool b)) (by simp only [wordB]; first | rfl | (simp_all; done)), rfl⟩
    · try simp only [decide_eq_true_eq, decide_eq_false_iff_not, Bool.not_eq_true', Bool.not_eq_false', beq_iff_eq, bne_iff_ne, ne_eq, beq_eq_false_iff_ne, bne_eq_false_iff_eq, Int.not_lt, Int.not_le, Nat.not_lt, Nat.not_le, Int.ofNat_lt, Int.ofNat_le, Bool.not_eq_eq_eq_not, Bool.not_true, Bool.not_false] at hb2
      refine SOps.skip rfl ?_
      refine SOps.skip rfl ?_
      refine SOps.skip rfl ?_
      refine SOps.pick rfl rfl ?_
      refine SOps.assign rfl ?_
      refine SOps.nil ?_
      refine SCode.ret ?_
      exact ⟨_, Res.one (.tmp rfl), congrArg (fun b => DV.v (.bool b)) (by simp only [wordB]; first | rfl | (simp_all; done)), rfl⟩
  · try simp only [decide_eq_true_eq, decide_eq_false_iff_not, Bool.not_eq_true', Bool.not_eq_false', beq_iff_eq, bne_iff_ne, ne_eq, beq_eq_false_iff_ne, bne_eq_false_iff_eq, Int.not_lt, Int.not_le, Nat.not_lt, Nat.not_le, Int.ofNat_lt, Int.ofNat_le, Bool.not_eq_eq_eq_not, Bool.not_true, Bool.not_false] at hb1
    refine SOps.skip rfl ?_
    refine SOps.skip rfl ?_
    refine SOps.pick rfl rfl ?_
    refine SOps.move rfl ?_
    refine SOps.skip rfl ?_
    refine SOps.skip rfl ?_
    refine SOps.skip rfl ?_
    refine SOps.pick rfl rfl ?_
    refine SOps.assign rfl ?_
    refine SOps.nil ?_
    refine SCode.ret ?_
    exact ⟨_, Res.one (.tmp rfl), congrArg (fun b => DV.v (.bool b)) (by simp only [wordB]; first | rfl | (simp_all; done)), rfl⟩
end Go.GH
namespace Go.GH
open Go Go.Lib Go.Proofs Go.Proofs.YtkhohgmmgipfbaaDoor
theorem u8Extra : U8Extra Tryd.prog Tryd.laysValid_ren :=
  ⟨by kernel_rfl, by kernel_rfl, by kernel_rfl, by kernel_rfl, by kernel_rfl, by kernel_rfl, by kernel_rfl⟩
theorem laid_E0 (W : World) (h : laidMetH Tryd.prog Rows.linebreakCostRow.laid W) : E0.holds W (AllF W) := by
  have h' : laidMet Tryd.prog [("unicode/utf8.acceptRanges", Rows.laid_unicode_utf8_acceptRanges), ("unicode/utf8.first", Rows.laid_unicode_utf8_first)] W := h
  have e1 : Rows.laid_unicode_utf8_first = firstData := by kernel_rfl
  have e2 : (Rows.laid_unicode_utf8_acceptRanges : DataW Unit) = acceptData := by kernel_rfl
  rw [e1, e2] at h'
  exact tabE_all (utf8Tabs_of_readsT (U8Types.of196 Tryd.laysValid) u8Extra (laidMet.reads h' (.tail _ (.head _))) (laidMet.reads h' (.head _)))
theorem vsE0 : VS E0 := vs_ok
end Go.GH
namespace Go.GH
open Go

theorem map_of {α β : Type} {f : α → β} : ∀ {es : List β}, (∀ e ∈ es, ∃ x, e = f x) → ∃ xs : List α, es = xs.map f
  | [], _ => ⟨[], rfl⟩
  | e :: es, h => by
    obtain ⟨x, rfl⟩ := h e (List.mem_cons_self ..)
    obtain ⟨xs, rfl⟩ := map_of (fun e he => h e (List.mem_cons_of_mem _ he))
    exact ⟨x :: xs, rfl⟩
def ElemIs (L : List DTy) (e : List DV) : Prop := e.length = L.length ∧ ∀ (j : Nat) d ty, e[j]? = some d → L[j]? = some ty → HasD ty d
theorem HasD.slice {α : Type} {L : List DTy} {f : α → List DV} {d : DV} (h : HasD (.sl L) d) (hf : ∀ e, ElemIs L e → ∃ x, e = f x) : ∃ xs : List α, d = .isl false L.length (xs.map f) := by
  cases h with
  | @sl L es hl hd =>
    obtain ⟨xs, rfl⟩ := map_of (f := f) (es := es) (fun e he => by
      obtain ⟨i, hi⟩ := List.mem_iff_getElem?.1 he
      exact hf e ⟨hl i e hi, fun j d ty hj ht => hd i e j d ty hi hj ht⟩)
    exact ⟨xs, rfl⟩
theorem ElemIs.one {ty : DTy} {e : List DV} (h : ElemIs [ty] e) : ∃ d, e = [d] ∧ HasD ty d := by
  obtain ⟨h1, h2⟩ := h
  match e, h1 with
  | [d], _ => exact ⟨d, rfl, h2 0 d ty rfl rfl⟩
theorem ElemIs.two {t1 t2 : DTy} {e : List DV} (h : ElemIs [t1, t2] e) : ∃ d1 d2, e = [d1, d2] ∧ HasD t1 d1 ∧ HasD t2 d2 := by
  obtain ⟨h1, h2⟩ := h
  match e, h1 with
  | [d1, d2], _ => exact ⟨d1, d2, rfl, h2 0 d1 t1 rfl rfl, h2 1 d2 t2 rfl rfl⟩
theorem ElemIs.three {t1 t2 t3 : DTy} {e : List DV} (h : ElemIs [t1, t2, t3] e) : ∃ d1 d2 d3, e = [d1, d2, d3] ∧ HasD t1 d1 ∧ HasD t2 d2 ∧ HasD t3 d3 := by
  obtain ⟨h1, h2⟩ := h
  match e, h1 with
  | [d1, d2, d3], _ => exact ⟨d1, d2, d3, rfl, h2 0 d1 t1 rfl rfl, h2 1 d2 t2 rfl rfl, h2 2 d3 t3 rfl rfl⟩
theorem HasD.int_inv {k : IntKind} {d : DV} (h : HasD (.int k) d) : ∃ n, d = .v (.int k n) ∧ k.has n := by cases h with | int h => exact ⟨_, rfl, h⟩
theorem HasD.str_inv {d : DV} (h : HasD .str d) : ∃ s, d = .v (.string s) := by cases h; exact ⟨_, rfl⟩
theorem HasD.bool_inv {d : DV} (h : HasD .bool d) : ∃ b, d = .v (.bool b) := by cases h; exact ⟨_, rfl⟩
theorem HasD.letters {d : DV} (h : HasD (.sl [.int .i32, .int .u32]) d) : ∃ a, d = DLs a :=
  h.slice (f := encL) (fun e he => by
    obtain ⟨d1, d2, rfl, h1, h2⟩ := he.two
    obtain ⟨r, rfl, _⟩ := h1.int_inv
    obtain ⟨c, rfl, _⟩ := h2.int_inv
    exact ⟨⟨r, c⟩, rfl⟩)
theorem HasD.ints {d : DV} (h : HasD (.sl [.int .i64]) d) : ∃ l, d = DInts l :=
  h.slice (f := encI) (fun e he => by
    obtain ⟨d1, rfl, h1⟩ := he.one
    obtain ⟨r, rfl, _⟩ := h1.int_inv
    exact ⟨r, rfl⟩)
theorem HasD.masks {d : DV} (h : HasD (.sl [.int .u32]) d) : ∃ l, d = DMasks l :=
  h.slice (f := encU) (fun e he => by
    obtain ⟨d1, rfl, h1⟩ := he.one
    obtain ⟨r, rfl, _⟩ := h1.int_inv
    exact ⟨r, rfl⟩)
theorem HasD.strs {d : DV} (h : HasD (.sl [.str]) d) : ∃ l, d = DStrs l :=
  h.slice (f := encS) (fun e he => by
    obtain ⟨d1, rfl, h1⟩ := he.one
    obtain ⟨r, rfl⟩ := h1.str_inv
    exact ⟨r, rfl⟩)

theorem cells_of_flat {P : Program} {w : World} {r : Reach} {base : Nat} {t : TypeId} {v : Value} (hf : flatB P t = true) (h : Value.okWide P w r base t v) (hne : ∀ k e, P.underlying t ≠ some (.map k e)) : v.cells = #[v] ∨ ∃ cs, v = .agg cs := by
  cases v <;> first | exact .inl rfl | exact .inr ⟨_, rfl⟩
/-- An argument of one cell. -/
theorem arg_rep {H : Type} {enc : TypeId × Value → H} {P : Program} {w : World} {sp : Nat → Bool} {held : Bool} {t : TypeId} {ty : DTy} {v : Value} {d : DataW H} {p : List MemPlace} (hT : TyIs P t [ty]) (h : DataW.Trod enc P w 0 sp held t v d p) (hv : v.cells = #[v]) : ∃ dv, Rep w (AllF w) v dv ∧ HasD ty dv := by
  obtain ⟨fuel, h⟩ := h
  rw [hv] at h
  obtain ⟨ds, h1, h2, h3⟩ := (pw_trod hT fuel _ _ h).cells
  match ds, h2 with
  | [dv], _ => exact ⟨dv, (h3 0 v dv ty rfl rfl rfl).1, (h3 0 v dv ty rfl rfl rfl).2.1⟩
/-- An argument of several cells. -/
theorem arg_repA {H : Type} {enc : TypeId × Value → H} {P : Program} {w : World} {sp : Nat → Bool} {held : Bool} {t : TypeId} {L : List DTy} {us : Array Value} {d : DataW H} {p : List MemPlace} (hT : TyIs P t L) (h : DataW.Trod enc P w 0 sp held t (.agg us) d p) : ∃ ds, Rep w (AllF w) (.agg us) (.agg ds) ∧ ElemIs L ds := by
  obtain ⟨fuel, h⟩ := h
  obtain ⟨ds, h1, h2, h3⟩ := (pw_trod hT fuel _ _ h).cells
  have hus : us.size = ds.length := by rw [h2, ← h1]; rfl
  refine ⟨ds, .agg hus (fun j x dd hx hd => ?_), h2, fun j dd ty hd ht => ?_⟩
  · have hlt : j < L.length := by rw [← h2]; exact (List.getElem?_eq_some_iff.1 hd).1
    exact (h3 j x dd _ (by show us.toList[j]? = some x; simpa using hx) hd (List.getElem?_eq_getElem hlt)).1
  · have hlt : j < us.size := by rw [hus]; exact (List.getElem?_eq_some_iff.1 hd).1
    exact (h3 j us[j] dd ty (by show us.toList[j]? = some us[j]; simp [hlt]) hd ht).2.1
end Go.GH
namespace Go.GH
open Go
theorem HasD.boxes {d : DV} (h : HasD (.sl [.str, .sl [.int .i64]]) d) : ∃ l, d = DBxs l :=
  h.slice (f := encBx) (fun e he => by
    obtain ⟨d1, d2, rfl, h1, h2⟩ := he.two
    obtain ⟨s, rfl⟩ := h1.str_inv
    obtain ⟨p, rfl⟩ := h2.ints
    exact ⟨⟨s, p⟩, rfl⟩)
theorem HasD.lines {d : DV} (h : HasD (.sl [.sl [.str], .bool]) d) : ∃ l, d = DLns l :=
  h.slice (f := encLn) (fun e he => by
    obtain ⟨d1, d2, rfl, h1, h2⟩ := he.two
    obtain ⟨p, rfl⟩ := h1.strs
    obtain ⟨b, rfl⟩ := h2.bool_inv
    exact ⟨⟨p, b⟩, rfl⟩)
end Go.GH
