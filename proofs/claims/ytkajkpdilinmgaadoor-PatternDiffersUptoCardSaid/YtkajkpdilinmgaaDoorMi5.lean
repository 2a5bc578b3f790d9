/-
  Part 5 of the texts behind the walks of this claim: an own layer over the kit's wp, plain laws, and walks. No conditions.
-/
import Derived.Test.YtkajkpdilinmgaaDoorMi4
import Derived.Lib.SpaceUEq
set_option linter.unusedVariables false
set_option linter.unusedSimpArgs false
set_option linter.deprecated false
namespace Go.GH
open Go
abbrev TIt : List DTy := [.int .u32, .str, .bool, .bool]
abbrev TAc : List DTy := [.int .i64, .sl [.bool], .sl [.sl [.int .i64]]]
theorem ElemIs.item {e : List DV} (h : ElemIs TIt e) : ∃ x : Item, e = encIt x := by
  obtain ⟨h1, h2⟩ := h
  match e, h1 with
  | [d0, d1, d2, d3], _ =>
    obtain ⟨n, rfl, _⟩ := (h2 0 d0 _ rfl rfl).int_inv
    obtain ⟨s, rfl⟩ := (h2 1 d1 _ rfl rfl).str_inv
    obtain ⟨b, rfl⟩ := (h2 2 d2 _ rfl rfl).bool_inv
    obtain ⟨c, rfl⟩ := (h2 3 d3 _ rfl rfl).bool_inv
    exact ⟨⟨n, s, b, c⟩, rfl⟩
theorem HasD.items {d : DV} (h : HasD (.sl TIt) d) : ∃ p, d = DIts p := h.slice (f := encIt) (fun e he => he.item)
theorem HasD.bools {d : DV} (h : HasD (.sl [.bool]) d) : ∃ l, d = DBools l :=
  h.slice (f := encB) (fun e he => by
    obtain ⟨d1, rfl, h1⟩ := he.one
    obtain ⟨r, rfl⟩ := h1.bool_inv
    exact ⟨r, rfl⟩)
theorem ElemIs.acc {e : List DV} (h : ElemIs TAc e) : ∃ x : Acc, e = encAcc x := by
  obtain ⟨d0, d1, d2, rfl, h0, h1, h2⟩ := h.three
  obtain ⟨n, rfl, _⟩ := h0.int_inv
  obtain ⟨f, rfl⟩ := h1.bools
  obtain ⟨t, rfl⟩ := h2.slice (f := encRI) (fun e he => by
    obtain ⟨d1, rfl, h1⟩ := he.one
    obtain ⟨l, rfl⟩ := h1.ints
    exact ⟨l, rfl⟩)
  exact ⟨⟨n, f, t⟩, rfl⟩
theorem SmallD.str {N : Nat} {s : ByteArray} (h : SmallD N (.v (.string s))) : s.size ≤ N := by cases h with | v h => exact h s rfl
theorem SmallD.items {N : Nat} {p : List Item} (h : SmallD N (DIts p)) : ∀ x ∈ p, x.lets.size ≤ N := fun x hx => by
  obtain ⟨i, hi⟩ := List.mem_iff_getElem?.1 hx
  cases h with
  | isl hl h => exact (h i (encIt x) 1 (.v (.string x.lets)) (by rw [List.getElem?_map, hi]; rfl) rfl).str
end Go.GH
namespace Go.GH
open Go

def encBy (r : Int) : List UInt8 := (Utf8.encode r).data.toList
def cY (n : Nat) : List DV := [.v (.int .u8 (n : Int))]
theorem encY_ofNat {n : Nat} (h : n < 256) : encY (UInt8.ofNat n) = cY n := by
  simp [encY, cY]; omega
theorem u8wrap {n : Int} (h : 0 ≤ n) : IntKind.u8.wrap n = n % 256 := by
  simp [IntKind.wrap, IntKind.signed, IntKind.bits]
  
theorem u32wrap {n : Int} (h : 0 ≤ n) (h2 : n ≤ 4294967295) : IntKind.u32.wrap n = n := wrap_id (by
  simp [IntKind.has, IntKind.min, IntKind.max, IntKind.signed, IntKind.bits]; omega)
def orB (a x : Int) : Int := IntKind.u8.wrap (BitVec.ofInt 8 a ||| BitVec.ofInt 8 x).toNat
def andB (a x : Int) : Int := IntKind.u8.wrap (BitVec.ofInt 8 a &&& BitVec.ofInt 8 x).toNat
theorem or192 : ∀ q : Fin 32, orB 192 ((q.val : Nat) : Int) = 192 + q.val := by decide +kernel
theorem or224 : ∀ q : Fin 16, orB 224 ((q.val : Nat) : Int) = 224 + q.val := by decide +kernel
theorem or240 : ∀ q : Fin 8, orB 240 ((q.val : Nat) : Int) = 240 + q.val := by decide +kernel
theorem or128 : ∀ q : Fin 64, orB 128 ((q.val : Nat) : Int) = 128 + q.val := by decide +kernel
theorem and63 : ∀ q : Fin 256, andB ((q.val : Nat) : Int) 63 = ((q.val % 64 : Nat) : Int) := by decide +kernel
theorem or192' {q : Nat} (h : q < 32) : orB 192 (q : Int) = ((192 + q : Nat) : Int) := by have := or192 ⟨q, h⟩; simpa using this
theorem or224' {q : Nat} (h : q < 16) : orB 224 (q : Int) = ((224 + q : Nat) : Int) := by have := or224 ⟨q, h⟩; simpa using this
theorem or240' {q : Nat} (h : q < 8) : orB 240 (q : Int) = ((240 + q : Nat) : Int) := by have := or240 ⟨q, h⟩; simpa using this
theorem or128' {q : Nat} (h : q < 64) : orB 128 (q : Int) = ((128 + q : Nat) : Int) := by have := or128 ⟨q, h⟩; simpa using this
theorem and63' {q : Nat} (h : q < 256) : andB (q : Int) 63 = ((q % 64 : Nat) : Int) := by have := and63 ⟨q, h⟩; simpa using this
theorem u8nat (n : Nat) : IntKind.u8.wrap (n : Int) = ((n % 256 : Nat) : Int) := by
  rw [u8wrap (by omega)]; omega
/-- the low six bits of place k -/
theorem low6 (c d : Nat) (hd : d ≠ 0) : orB 128 (andB (IntKind.u8.wrap ((c / d : Nat) : Int)) 63) = ((128 + c / d % 64 : Nat) : Int) := by
  rw [u8nat, and63' (by omega), or128' (by omega)]
  congr 2
  omega
theorem low60 (c : Nat) : orB 128 (andB (IntKind.u8.wrap ((c : Nat) : Int)) 63) = ((128 + c % 64 : Nat) : Int) := by
  have := low6 c 1 (by decide)
  simpa using this
theorem fdiv_nat (c d : Nat) : Int.fdiv (c : Int) (d : Int) = ((c / d : Nat) : Int) := by
  rw [Int.fdiv_eq_ediv_of_nonneg _ (by omega)]; rfl
theorem valid_cases {r : Int} (h : Utf8.valid r = true) : ∃ c : Nat, r = (c : Int) ∧ (c < 55296 ∨ (57344 ≤ c ∧ c ≤ 1114111)) := by
  simp only [Utf8.valid, Bool.or_eq_true, Bool.and_eq_true, decide_eq_true_eq] at h
  exact ⟨r.toNat, by omega, by omega⟩
theorem enc_1 {c : Nat} (hv : Utf8.valid (c : Int) = true) (h : c < 128) : Utf8.encode (c : Int) = ⟨#[UInt8.ofNat c]⟩ := by
  unfold Utf8.encode
  rw [if_pos hv]
  exact if_pos h
theorem enc_2 {c : Nat} (hv : Utf8.valid (c : Int) = true) (h0 : 128 ≤ c) (h : c < 2048) : Utf8.encode (c : Int) = ⟨#[UInt8.ofNat (192 + c / 64), UInt8.ofNat (128 + c % 64)]⟩ := by
  unfold Utf8.encode
  rw [if_pos hv]
  exact (if_neg (show ¬ c < 128 by omega)).trans (if_pos h)
theorem enc_3 {c : Nat} (hv : Utf8.valid (c : Int) = true) (h0 : 2048 ≤ c) (h : c < 65536) : Utf8.encode (c : Int) = ⟨#[UInt8.ofNat (224 + c / 4096), UInt8.ofNat (128 + c / 64 % 64), UInt8.ofNat (128 + c % 64)]⟩ := by
  unfold Utf8.encode
  rw [if_pos hv]
  exact (if_neg (show ¬ c < 128 by omega)).trans ((if_neg (show ¬ c < 2048 by omega)).trans (if_pos h))
theorem enc_4 {c : Nat} (hv : Utf8.valid (c : Int) = true) (h0 : 65536 ≤ c) : Utf8.encode (c : Int) = ⟨#[UInt8.ofNat (240 + c / 262144), UInt8.ofNat (128 + c / 4096 % 64), UInt8.ofNat (128 + c / 64 % 64), UInt8.ofNat (128 + c % 64)]⟩ := by
  unfold Utf8.encode
  rw [if_pos hv]
  exact (if_neg (show ¬ c < 128 by omega)).trans ((if_neg (show ¬ c < 2048 by omega)).trans (if_neg (show ¬ c < 65536 by omega)))
theorem encBy_1 {c : Nat} (hv : Utf8.valid (c : Int) = true) (h : c < 128) : (encBy (c : Int)).map encY = [cY c] := by
  rw [encBy, enc_1 hv h]
  show [encY (UInt8.ofNat c)] = _
  rw [encY_ofNat (show c < 256 by omega)]
theorem encBy_2 {c : Nat} (hv : Utf8.valid (c : Int) = true) (h0 : 128 ≤ c) (h : c < 2048) : (encBy (c : Int)).map encY = [cY (192 + c / 64), cY (128 + c % 64)] := by
  rw [encBy, enc_2 hv h0 h]
  show [encY (UInt8.ofNat (192 + c / 64)), encY (UInt8.ofNat (128 + c % 64))] = _
  rw [encY_ofNat (show 192 + c / 64 < 256 by omega), encY_ofNat (show 128 + c % 64 < 256 by omega)]
theorem encBy_3 {c : Nat} (hv : Utf8.valid (c : Int) = true) (h0 : 2048 ≤ c) (h : c < 65536) : (encBy (c : Int)).map encY = [cY (224 + c / 4096), cY (128 + c / 64 % 64), cY (128 + c % 64)] := by
  rw [encBy, enc_3 hv h0 h]
  show [encY (UInt8.ofNat (224 + c / 4096)), encY (UInt8.ofNat (128 + c / 64 % 64)), encY (UInt8.ofNat (128 + c % 64))] = _
  rw [encY_ofNat (show 224 + c / 4096 < 256 by omega), encY_ofNat (show 128 + c / 64 % 64 < 256 by omega), encY_ofNat (show 128 + c % 64 < 256 by omega)]
theorem encBy_4 {c : Nat} (hv : Utf8.valid (c : Int) = true) (h0 : 65536 ≤ c) (h : c ≤ 1114111) : (encBy (c : Int)).map encY = [cY (240 + c / 262144), cY (128 + c / 4096 % 64), cY (128 + c / 64 % 64), cY (128 + c % 64)] := by
  rw [encBy, enc_4 hv h0]
  show [encY (UInt8.ofNat (240 + c / 262144)), encY (UInt8.ofNat (128 + c / 4096 % 64)), encY (UInt8.ofNat (128 + c / 64 % 64)), encY (UInt8.ofNat (128 + c % 64))] = _
  rw [encY_ofNat (show 240 + c / 262144 < 256 by omega), encY_ofNat (show 128 + c / 4096 % 64 < 256 by omega), encY_ofNat (show 128 + c / 64 % 64 < 256 by omega), encY_ofNat (show 128 + c % 64 < 256 by omega)]
theorem encBy_len (r : Int) : (encBy r).length ≤ 4 := encode_size r
theorem encBy_pos (r : Int) : 1 ≤ (encBy r).length := encode_pos r
theorem encs_data : ∀ rs : List Int, (encs rs).data.toList = (rs.map encBy).flatten
  | [] => rfl
  | r :: rs => by
    rw [encs, List.map_cons, List.flatten_cons, ← encs_data rs]
    simp [encBy]
end Go.GH
namespace Go.GH
open Go Go.Lib

/-! #### a word is the bytes of its runes -/
theorem encBy_lib (c : Nat) (hv : Utf8.valid (c : Int) = true) : encBy (c : Int) = encodeRune (c : Int) := by
  obtain ⟨c', h1, hc⟩ := valid_cases hv
  have hcc : c' = c := by omega
  subst hcc
  have u : ∀ n : Nat, n < 256 → UInt8.ofNat n = (n : Int).toNat.toUInt8 := fun n _ => rfl
  unfold encodeRune
  by_cases h1 : c' < 128
  · rw [encBy, enc_1 hv h1, encodeRuneZ_one (by omega) (by omega)]; rfl
  · by_cases h2 : c' < 2048
    · rw [encBy, enc_2 hv (by omega) h2, encodeRuneZ_two (by omega) (by omega)]
      show [UInt8.ofNat (192 + c' / 64), UInt8.ofNat (128 + c' % 64)] = [(192 + (c' : Int) / 64).toNat.toUInt8, (128 + (c' : Int) % 64).toNat.toUInt8]
      rw [show (192 + (c' : Int) / 64).toNat = 192 + c' / 64 from by omega, show (128 + (c' : Int) % 64).toNat = 128 + c' % 64 from by omega]
    · by_cases h3 : c' < 65536
      · rw [encBy, enc_3 hv (by omega) h3, encodeRuneZ_three (by omega)]
        show [UInt8.ofNat (224 + c' / 4096), UInt8.ofNat (128 + c' / 64 % 64), UInt8.ofNat (128 + c' % 64)] = [(224 + (c' : Int) / 4096).toNat.toUInt8, (128 + (c' : Int) / 64 % 64).toNat.toUInt8, (128 + (c' : Int) % 64).toNat.toUInt8]
        rw [show (224 + (c' : Int) / 4096).toNat = 224 + c' / 4096 from by omega, show (128 + (c' : Int) / 64 % 64).toNat = 128 + c' / 64 % 64 from by omega, show (128 + (c' : Int) % 64).toNat = 128 + c' % 64 from by omega]
      · rw [encBy, enc_4 hv (by omega), encodeRuneZ_four (by omega) (by omega)]
        show [UInt8.ofNat (240 + c' / 262144), UInt8.ofNat (128 + c' / 4096 % 64), UInt8.ofNat (128 + c' / 64 % 64), UInt8.ofNat (128 + c' % 64)] = [(240 + (c' : Int) / 262144).toNat.toUInt8, (128 + (c' : Int) / 4096 % 64).toNat.toUInt8, (128 + (c' : Int) / 64 % 64).toNat.toUInt8, (128 + (c' : Int) % 64).toNat.toUInt8]
        rw [show (240 + (c' : Int) / 262144).toNat = 240 + c' / 262144 from by omega, show (128 + (c' : Int) / 4096 % 64).toNat = 128 + c' / 4096 % 64 from by omega, show (128 + (c' : Int) / 64 % 64).toNat = 128 + c' / 64 % 64 from by omega, show (128 + (c' : Int) % 64).toNat = 128 + c' % 64 from by omega]
theorem data_app2 (x y : ByteArray) : (x ++ y).data.toList = x.data.toList ++ y.data.toList := by simp
theorem encs_cons_data (r : Int) (rs : List Int) : (encs (r :: rs)).data.toList = encBy r ++ (encs rs).data.toList := by
  rw [encs, data_app2, encBy]
theorem step_bytes (s : ByteArray) (p : Nat) (hp : p < s.size) (h : stepOK s (p, ((Utf8.decode s p).1 : Int)) = true) : encBy ((Utf8.decode s p).1 : Int) = (s.data.toList.drop p).take (Utf8.decode s p).2 := by
  have hd := decodeL_drop s p
  have hlen : (s.data.toList.drop p).length = s.size - p := by simp
  have hne : s.data.toList.drop p ≠ [] := by
    intro h; rw [h] at hlen; simp at hlen; omega
  rw [step_valid s p hp] at h
  have h' : ¬ ((Utf8.decode s p).1 = 65533 ∧ (Utf8.decode s p).2 = 1) := fun hb => by rw [decide_eq_true hb] at h; cases h
  have := encode_decode _ hne (by rw [hd]; exact h')
  rw [hd] at this
  rw [← this, encBy_lib _ (decode_valid s p)]
theorem encs_at (s : ByteArray) : ∀ (f p : Nat), s.size - p ≤ f → (steps s p).all (stepOK s) = true → (encs (runesAt s p)).data.toList = s.data.toList.drop p
  | 0, p, h, _ => by rw [runesAt_ge (by omega), List.drop_eq_nil_of_le (by simp; omega)]; rfl
  | f + 1, p, h, hv => by
    by_cases hp : p < s.size
    · have hw := decode_w s p
      rw [steps_lt hp, List.all_cons, Bool.and_eq_true] at hv
      have ih := encs_at s f (p + (Utf8.decode s p).2) (by omega) hv.2
      rw [runesAt_lt hp, encs_cons_data, ih, step_bytes s p hp hv.1, ← List.drop_drop, List.take_append_drop]
    · rw [runesAt_ge (by omega), List.drop_eq_nil_of_le (by simp; omega)]; rfl
theorem encs_runes {s : ByteArray} (h : utf8R s = true) : encs (runes s) = s := by
  have := encs_at s _ 0 (Nat.le_refl _) h
  rw [runesAt_zero, List.drop_zero] at this
  apply ByteArray.ext
  exact Array.toList_inj.1 this
theorem encs_append : ∀ x y : List Int, encs (x ++ y) = encs x ++ encs y
  | [], y => by
    apply ByteArray.ext
    simp [encs]
  | r :: x, y => by rw [List.cons_append, encs, encs, encs_append x y, ByteArray.append_assoc]
end Go.GH
namespace Go.GH
open Go Go.Lib

theorem encBy_fffd : encBy 65533 = [239, 191, 189] := by decide +kernel
theorem encs_only (s : ByteArray) : ∀ (f p : Nat), s.size - p ≤ f → (encs (runesAt s p)).data.toList = s.data.toList.drop p → (steps s p).all (stepOK s) = true
  | 0, p, h, _ => by rw [steps_ge (by omega)]; rfl
  | f + 1, p, h, hv => by
    by_cases hp : p < s.size
    · have hw := decode_w s p
      rw [runesAt_lt hp, encs_cons_data] at hv
      have hok : stepOK s (p, ((Utf8.decode s p).1 : Int)) = true := by
        by_cases hr : ((Utf8.decode s p).1 : Int) = 65533
        · rw [hr] at hv ⊢
          rw [encBy_fffd] at hv
          have hl := congrArg List.length hv
          simp only [List.length_append, List.length_cons, List.length_nil, List.length_drop, Array.length_toList, ByteArray.size_data] at hl
          refine stepOK_yes (by omega) ?_
          apply ByteArray.ext
          apply Array.toList_inj.1
          have := congrArg (fun l => l.take 3) hv
          rw [extract_eq, ← this]
          rfl
        · exact stepOK_no hr
      rw [steps_lt hp, List.all_cons, hok, Bool.true_and]
      refine encs_only s f _ (by omega) ?_
      have hb := step_bytes s p hp hok
      rw [hb] at hv
      have h2 : (s.data.toList.drop p).take (Utf8.decode s p).2 ++ (s.data.toList.drop p).drop (Utf8.decode s p).2 = s.data.toList.drop p := List.take_append_drop ..
      rw [← h2] at hv
      rw [← List.drop_drop]
      have := List.append_cancel_left (hv.trans (by rw [h2]; exact h2.symm))
      exact this
    · rw [steps_ge (by omega)]; rfl
theorem encs_iff (s : ByteArray) : decide (encs (runes s) = s) = utf8R s := by
  rw [Bool.eq_iff_iff, decide_eq_true_eq]
  constructor
  · intro h
    exact encs_only s _ 0 (Nat.le_refl _) (by rw [runesAt_zero, h, List.drop_zero])
  · exact encs_runes
theorem encs_snoc (l : List Int) (r : Int) : encs (l ++ [r]) = encs l ++ Utf8.encode r := by
  rw [encs_append, encs, encs]
  apply ByteArray.ext
  simp
end Go.GH
namespace Go.GH
open Go
theorem overA_eq6 (a : List Letter) (s : ByteArray) : overA a s = (utf8R s && (runes s).all (fun r => (idx a r).isSome)) := rfl
def pieceB (f : Item → Nat → Bool) (x : Item) (q : List Item) (w : List Nat) (n : Nat) : Bool := ((x.rep || decide (n = 1)) && (w.take n).all (f x)) && M f q (w.drop n)
theorem M_piece {f : Item → Nat → Bool} {x : Item} {q : List Item} {w : List Nat} : M f (x :: q) w = true ↔ ∃ n, n ≤ w.length ∧ pieceB f x q w n = true := by
  rw [show x :: q = [x] ++ q from rfl, M_append]
  constructor
  · rintro ⟨n, hn, h1, h2⟩
    refine ⟨n, hn, ?_⟩
    rw [M_one] at h1
    simp only [pieceB, Bool.and_eq_true, Bool.or_eq_true, decide_eq_true_eq]
    refine ⟨?_, h2⟩
    rcases h1 with ⟨h3, h4⟩ | ⟨h3, c, h4, h5⟩
    · exact ⟨.inl h3, h4⟩
    · have hl := congrArg List.length h4
      simp only [List.length_take, List.length_cons, List.length_nil] at hl
      exact ⟨.inr (by omega), by rw [h4]; simp [h5]⟩
  · rintro ⟨n, hn, h⟩
    simp only [pieceB, Bool.and_eq_true, Bool.or_eq_true, decide_eq_true_eq] at h
    refine ⟨n, hn, ?_, h.2⟩
    rw [M_one]
    cases hr : x.rep with
    | true => exact .inl ⟨rfl, h.1.2⟩
    | false =>
      have h1 : n = 1 := by rcases h.1.1 with h1 | h1; rw [hr] at h1; cases h1; exact h1
      subst h1
      cases w with
      | nil => simp at hn
      | cons c w => exact .inr ⟨rfl, c, by simp, by have := h.1.2; simpa using this⟩
theorem piece_no {f : Item → Nat → Bool} {x : Item} {q : List Item} {w : List Nat} {n : Nat} (hr : x.rep = false) (h1 : ¬ n = 1) : pieceB f x q w n = false := by
  rw [pieceB, hr, decide_eq_false h1]; rfl
theorem piece_all {f : Item → Nat → Bool} {x : Item} {q : List Item} {w : List Nat} {n : Nat} (ha : (w.take n).all (f x) = false) : pieceB f x q w n = false := by
  rw [pieceB, ha, Bool.and_false, Bool.false_and]
theorem piece_M {f : Item → Nat → Bool} {x : Item} {q : List Item} {w : List Nat} {n : Nat} (h : x.rep = true ∨ n = 1) (ha : (w.take n).all (f x) = true) : pieceB f x q w n = M f q (w.drop n) := by
  have : (x.rep || decide (n = 1)) = true := by rcases h with h | h <;> simp [h]
  rw [pieceB, ha, this]; rfl
end Go.GH
namespace Go.GH
open Go Go.Proofs
variable {E : Env}
theorem someB_21 : (Tryd.prog.underlying 21).isSome = true := by kernel_rfl
theorem qIndex (a : List Letter) (r : Int)  : GCall Tryd.prog E 46 [DLs a, .v (.int .i32 r)] [] (fun d H => d = .v (.int .i64 (idxI a r)) ∧ H = []) := by
  refine GCall.body (C := ⟨Tryd.prog, E, true⟩) Tryd.func46 rfl (fun _ => rfl) (by kernel_rfl) rfl ?_
  refine SCode.seqR ?_
  refine SOps.assign rfl ?_
  refine SOps.nil ?_
  refine SCode.seq ?_
  refine SCode.seqR ?_
  refine SOps.assign rfl ?_
  refine SOps.nil ?_
  refine SCode.block ?_
  refine SCode.loop1 (fun (i : Nat) => (⟨20, [(0, DLs a), (1, .v (.int .i32 r)), (5, .v (.int .i64 (i : Int)))], []⟩ : St)) (fun (i : Nat) => i ≤ a.length ∧ ∀ l ∈ a.take i, l.rune ≠ r) (fun (i : Nat) => a.length - i) (0) (by simp) (St.Le.of ⟨(by first | rfl | (show some _ = some _; simp)), (by first | rfl | (show some _ = some _; simp)), (by first | rfl | (show some _ = some _; simp)), trivial⟩ rfl (by first | rfl | (simp))) ?_
  rintro i ⟨hi, hf⟩
  refine SCode.fact (isl_len (t := 0) rfl) (fun hB => ?_)
  simp only [List.length_map, lenB] at hB
  refine SCode.seq ?_
  refine SCode.seqR ?_
  refine SOps.move rfl ?_
  refine SOps.move rfl ?_
  refine SOps.lenM rfl sliceB_22_69_2 ?_
  refine SOps.bin rfl rfl rfl ?_
  refine SOps.nil ?_
  refine SCode.cond rfl (fun hc1 => ?_) (fun hc1 => ?_)
  · try simp only [decide_eq_true_eq, decide_eq_false_iff_not, Bool.not_eq_true', Bool.not_eq_false', beq_iff_eq, bne_iff_ne, ne_eq, beq_eq_false_iff_ne, bne_eq_false_iff_eq, Int.not_lt, Int.not_le, Nat.not_lt, Nat.not_le, Int.ofNat_lt, Int.ofNat_le, Bool.not_eq_eq_eq_not, Bool.not_true, Bool.not_false] at hc1
    refine SCode.skip ?_
    show SCode _ _ _ _
    refine SCode.seq ?_
    refine SCode.block ?_
    refine SCode.seqR ?_
    refine SOps.move rfl ?_
    refine SOps.move rfl ?_
    refine SOps.indexM (i) rfl rfl sliceB_22_69_2 (by omega) (by omega) ?_
    refine SOps.fieldPin rfl fieldB_69_0_0 ?_
    refine SOps.loadPin rfl flatB_21 ?_
    refine SOps.move rfl ?_
    refine SOps.bin rfl rfl rfl ?_
    refine SOps.nil ?_
    refine SCode.cond rfl (fun hc2 => ?_) (fun hc2 => ?_)
    · try simp only [decide_eq_true_eq, decide_eq_false_iff_not, Bool.not_eq_true', Bool.not_eq_false', beq_iff_eq, bne_iff_ne, ne_eq, beq_eq_false_iff_ne, bne_eq_false_iff_eq, Int.not_lt, Int.not_le, Nat.not_lt, Nat.not_le, Int.ofNat_lt, Int.ofNat_le, Bool.not_eq_eq_eq_not, Bool.not_true, Bool.not_false] at hc2
      refine SCode.seqR ?_
      refine SOps.move rfl ?_
      refine SOps.assign rfl ?_
      refine SOps.nil ?_
      refine SCode.ret ?_
      have hx : idx a r = some i := idx_drop hf (by omega) hc2
      exact ⟨_, Res.one (.tmp rfl), by rw [idxI_some hx], rfl⟩
    · try simp only [decide_eq_true_eq, decide_eq_false_iff_not, Bool.not_eq_true', Bool.not_eq_false', beq_iff_eq, bne_iff_ne, ne_eq, beq_eq_false_iff_ne, bne_eq_false_iff_eq, Int.not_lt, Int.not_le, Nat.not_lt, Nat.not_le, Int.ofNat_lt, Int.ofNat_le, Bool.not_eq_eq_eq_not, Bool.not_true, Bool.not_false] at hc2
      refine SCode.skip ?_
      show SCode _ _ _ _
      refine SCode.region ?_
      refine SOps.move rfl ?_
      refine SOps.addI rfl rfl (by omega) (by omega) ?_
      refine SOps.assign rfl ?_
      refine SOps.nil ?_
      exact ⟨i + 1, by exact ⟨by omega, take_more hf (by omega) hc2⟩, by omega, (St.Le.of ⟨(by first | rfl | (show some _ = some _; simp)), (by first | rfl | (show some _ = some _; simp)), (by first | rfl | (show some _ = some _; simp)), trivial⟩ rfl (by first | rfl | (simp)))⟩
  · try simp only [decide_eq_true_eq, decide_eq_false_iff_not, Bool.not_eq_true', Bool.not_eq_false', beq_iff_eq, bne_iff_ne, ne_eq, beq_eq_false_iff_ne, bne_eq_false_iff_eq, Int.not_lt, Int.not_le, Nat.not_lt, Nat.not_le, Int.ofNat_lt, Int.ofNat_le, Bool.not_eq_eq_eq_not, Bool.not_true, Bool.not_false] at hc1
    refine SCode.exit ?_
    show SCode _ _ _ _
    refine SCode.seqR ?_
    refine SOps.assign rfl ?_
    refine SOps.nil ?_
    refine SCode.ret ?_
    have hx : idx a r = none := idx_none.2 (by rw [List.take_of_length_le (by omega)] at hf; exact hf)
    exact ⟨_, Res.one (.tmp rfl), by rw [idxI_none hx], rfl⟩
theorem qOver0 (a : List Letter) (s : ByteArray) (hs : s.size ≤ 1048576) : GCall Tryd.prog E 22 [DLs a, .v (.string s)] [] (fun d H => d = (if (runes s).all (fun r => (idx a r).isSome) then .tup [DNats (idxs a s), .v (.bool (utf8R s))] else .tup [.v (.slice none 0 0), .v (.bool false)]) ∧ H = []) := by
  refine GCall.body (C := ⟨Tryd.prog, E, true⟩) Tryd.func22 rfl (fun _ => rfl) (by kernel_rfl) rfl ?_
  refine SCode.seqR ?_
  refine SOps.assign rfl ?_
  refine SOps.assign rfl ?_
  refine SOps.nil ?_
  refine SCode.seqR ?_
  refine SOps.litO sliceB_39_3_1 zeroIs_3 rfl (fun b0 hb_0 => ?_)
  refine SOps.assign rfl ?_
  refine SOps.nil ?_
  refine SCode.seqR ?_
  refine SOps.assign rfl ?_
  refine SOps.nil ?_
  refine SCode.seq ?_
  refine SCode.seqR ?_
  refine SOps.move rfl ?_
  refine SOps.rangeStr rfl strB_9 (fun b1 hb_1 => ?_)
  refine SOps.nil ?_
  refine SCode.block ?_
  refine SCode.loop5 (fun (p : Nat) (b : Nat) (l : List Nat) (kb : Nat) (back : List Int) => (⟨34, [(0, DLs a), (1, .v (.string s)), (6, .sl kb 1 0 l.length), (7, .v (.string (encs back))), (13, .it b)], [(b, .iter s p), (kb, .row 3 1 (l.map encN))]⟩ : St)) (fun (p : Nat) (b : Nat) (l : List Nat) (kb : Nat) (back : List Int) => l.length ≤ p ∧ (encs back).size ≤ 4 * p ∧ (runesAt s p).all (fun r => (idx a r).isSome) = (runes s).all (fun r => (idx a r).isSome) ∧ l ++ (runesAt s p).map (fun r => (idx a r).getD 0) = idxs a s ∧ back ++ runesAt s p = runes s) (fun (p : Nat) (b : Nat) (l : List Nat) (kb : Nat) (back : List Int) => s.size - p) (0) (b1) ([]) (b0) ([]) (by exact ⟨Nat.le_refl _, Nat.le_refl _, rfl, rfl, rfl⟩) (St.Le.of ⟨(by first | rfl | (show some _ = some _; simp)), (by first | rfl | (show some _ = some _; simp)), (by first | rfl | (show some _ = some _; simp)), (by first | rfl | (show some _ = some _; simp)), (by first | rfl | (show some _ = some _; simp)), trivial⟩ rfl (by first | rfl | (simp))) ?_
  rintro p b l kb back ⟨hln, hbk, ho, hl, hbr⟩
  refine SCode.seqR ?_
  refine SOps.next 0 rfl rfl (fun hn1 => ?_) (fun hn1 => ?_) (by first | omega | (simp only [lenB]; omega))
  · refine SOps.extract rfl rfl ?_
    refine SOps.nil ?_
    refine SCode.seq ?_
    refine SCode.cond rfl (fun _ => ?_) (fun h => by cases h)
    refine SCode.skip ?_
    show SCode _ _ _ _
    refine SCode.block ?_
    refine SCode.seqR ?_
    refine SOps.extract rfl rfl ?_
    refine SOps.assign rfl ?_
    refine SOps.nil ?_
    refine SCode.seqR ?_
    refine SOps.move rfl ?_
    refine SOps.move rfl ?_
    refine SOps.callP (qIndex _ _) rfl ?_
    rintro _ rfl
    refine SOps.assign rfl ?_
    refine SOps.nil ?_
    refine SCode.seq ?_
    refine SCode.seqR ?_
    refine SOps.move rfl ?_
    refine SOps.bin rfl rfl rfl ?_
    refine SOps.nil ?_
    refine SCode.cond rfl (fun hc2 => ?_) (fun hc2 => ?_)
    · try simp only [decide_eq_true_eq, decide_eq_false_iff_not, Bool.not_eq_true', Bool.not_eq_false', beq_iff_eq, bne_iff_ne, ne_eq, beq_eq_false_iff_ne, bne_eq_false_iff_eq, Int.not_lt, Int.not_le, Nat.not_lt, Nat.not_le, Int.ofNat_lt, Int.ofNat_le, Bool.not_eq_eq_eq_not, Bool.not_true, Bool.not_false] at hc2
      refine SCode.seqR ?_
      refine SOps.assign rfl ?_
      refine SOps.assign rfl ?_
      refine SOps.nil ?_
      refine SCode.drop ?_
      refine SCode.ret ?_
      exact ⟨_, Res.two (.tmp rfl) (.tmp rfl), by rw [if_neg (fun h => by rw [← ho, runes_step hn1] at h; cases hx : idx a ((Utf8.decode s p).1 : Int) with | none => rw [hx] at h; simp at h | some k => rw [idxI_some hx] at hc2; omega)], rfl⟩
    · try simp only [decide_eq_true_eq, decide_eq_false_iff_not, Bool.not_eq_true', Bool.not_eq_false', beq_iff_eq, bne_iff_ne, ne_eq, beq_eq_false_iff_ne, bne_eq_false_iff_eq, Int.not_lt, Int.not_le, Nat.not_lt, Nat.not_le, Int.ofNat_lt, Int.ofNat_le, Bool.not_eq_eq_eq_not, Bool.not_true, Bool.not_false] at hc2
      obtain ⟨k, hk⟩ := idxI_nonneg.1 hc2
      have hki := idxI_some hk
      refine SCode.skip ?_
      show SCode _ _ _ _
      refine SCode.seqR ?_
      refine SOps.move rfl ?_
      refine SOps.move rfl ?_
      refine SOps.reSlot (t := 23) rfl (show _ = DV.v (.int .i64 ((k : Nat) : Int)) by rw [hki]) ?_
      refine SOps.litF rfl sliceB_39_3_1 zeroIs_3 rfl ?_
      refine SOps.appendOwn 1 sliceB_39_3_1 elemB_3_1_8 rfl rfl rfl (by simp) SrcD.isl (by simp) (by first | (simp [lenB] <;> (first | omega | (simp only [lenB]; omega))) | (simp only [lenB]; (first | omega | (simp only [lenB]; omega)))) (by first | (simp <;> (first | omega | (simp only [lenB]; omega))) | (first | omega | (simp only [lenB]; omega))) (fun b2 hb_2 => ?_)
      refine SOps.assign rfl ?_
      refine SOps.nil ?_
      refine SCode.region ?_
      refine SOps.move rfl ?_
      refine SOps.move rfl ?_
      refine SOps.convIntStr rfl someB_21 strB_9 ?_
      refine SOps.concat rfl rfl (by simp only [lenB]; have := encode_size ((Utf8.decode s p).1 : Int); omega) ?_
      refine SOps.assign rfl ?_
      refine SOps.nil ?_
      have hes := encode_size ((Utf8.decode s p).1 : Int)
      exact ⟨p + (Utf8.decode s p).2, b, l ++ [k], b2, back ++ [((Utf8.decode s p).1 : Int)], ⟨by have := decode_w s p; simp; omega, by rw [encs_snoc, ByteArray.size_append]; have := decode_w s p; omega, by rw [← ho, runes_step hn1, hk]; rfl, by rw [← hl, runesAt_lt hn1]; simp [hk], by rw [← hbr, runesAt_lt hn1]; simp⟩, by have := decode_w s p; omega, St.Le.of ⟨rfl, rfl, (by show some _ = some _; simp), (by show some _ = some _; rw [encs_snoc]), rfl, trivial⟩ rfl (by rw [List.map_append]; rfl)⟩
  · refine SOps.extract rfl rfl ?_
    refine SOps.nil ?_
    refine SCode.seq ?_
    refine SCode.cond rfl (fun h => by cases h) (fun _ => ?_)
    refine SCode.exit ?_
    show SCode _ _ _ _
    refine SCode.seqR ?_
    refine SOps.freezeS (t := 6) 1 rfl rfl rfl (by simp) ?_
    refine SOps.move rfl ?_
    refine SOps.move rfl ?_
    refine SOps.move rfl ?_
    refine SOps.bin rfl rfl rfl ?_
    refine SOps.assign rfl ?_
    refine SOps.assign rfl ?_
    refine SOps.nil ?_
    refine SCode.drop ?_
    refine SCode.ret ?_
    have hb2 : back = runes s := by rw [← hbr, runesAt_ge hn1, List.append_nil]
    have hl2 : l = idxs a s := by rw [← hl, runesAt_ge hn1]; simp
    exact ⟨_, Res.two (.tmp rfl) (.tmp rfl), by rw [if_pos (by rw [← ho, runesAt_ge hn1]; rfl), hb2, hl2, encs_iff], rfl⟩
theorem qCode (r : Int)  : GCall Tryd.prog E 47 [.v (.int .i32 r)] [] (fun d H => d = .v (.bool (goodR r)) ∧ H = []) := by
  refine GCall.body (C := ⟨Tryd.prog, E, true⟩) Tryd.func47 rfl (fun _ => rfl) (by kernel_rfl) rfl ?_
  refine SCode.seqR ?_
  refine SOps.assign rfl ?_
  refine SOps.nil ?_
  refine SCode.seqR ?_
  refine SOps.move rfl ?_
  refine SOps.bin rfl rfl rfl ?_
  refine SOps.move rfl ?_
  refine SOps.caseB 5 rfl (fun hb1 => ?_) (fun hb1 => ?_)
  · try simp only [decide_eq_true_eq, decide_eq_false_iff_not, Bool.not_eq_true', Bool.not_eq_false', beq_iff_eq, bne_iff_ne, ne_eq, beq_eq_false_iff_ne, bne_eq_false_iff_eq, Int.not_lt, Int.not_le, Nat.not_lt, Nat.not_le, Int.ofNat_lt, Int.ofNat_le, Bool.not_eq_eq_eq_not, Bool.not_true, Bool.not_false] at hb1
    refine SOps.move rfl ?_
    refine SOps.bin rfl rfl rfl ?_
    refine SOps.move rfl ?_
    refine SOps.caseB 8 rfl (fun hb2 => ?_) (fun hb2 => ?_)
    · try simp only [decide_eq_true_eq, decide_eq_false_iff_not, Bool.not_eq_true', Bool.not_eq_false', beq_iff_eq, bne_iff_ne, ne_eq, beq_eq_false_iff_ne, bne_eq_false_iff_eq, Int.not_lt, Int.not_le, Nat.not_lt, Nat.not_le, Int.ofNat_lt, Int.ofNat_le, Bool.not_eq_eq_eq_not, Bool.not_true, Bool.not_false] at hb2
      refine SOps.skip rfl ?_
      refine SOps.skip rfl ?_
      refine SOps.pick rfl rfl ?_
      refine SOps.pick rfl rfl ?_
      refine SOps.move rfl ?_
      refine SOps.move rfl ?_
      refine SOps.bin rfl rfl rfl ?_
      refine SOps.pick rfl rfl ?_
      refine SOps.assign rfl ?_
      refine SOps.nil ?_
      refine SCode.ret ?_
      exact ⟨_, Res.one (.tmp rfl), congrArg (fun b => DV.v (.bool b)) (by rw [Bool.eq_iff_iff]; simp only [goodR, runeOK, decide_eq_true_eq, Bool.false_eq_true, Bool.true_eq_false, beq_iff_eq]; first | omega | (simp; omega)), rfl⟩
    · try simp only [decide_eq_true_eq, decide_eq_false_iff_not, Bool.not_eq_true', Bool.not_eq_false', beq_iff_eq, bne_iff_ne, ne_eq, beq_eq_false_iff_ne, bne_eq_false_iff_eq, Int.not_lt, Int.not_le, Nat.not_lt, Nat.not_le, Int.ofNat_lt, Int.ofNat_le, Bool.not_eq_eq_eq_not, Bool.not_true, Bool.not_false] at hb2
      refine SOps.move rfl ?_
      refine SOps.bin rfl rfl rfl ?_
      refine SOps.pick rfl rfl ?_
      refine SOps.pick rfl rfl ?_
      refine SOps.move rfl ?_
      refine SOps.caseB 13 rfl (fun hb3 => ?_) (fun hb3 => ?_)
      · try simp only [decide_eq_true_eq, decide_eq_false_iff_not, Bool.not_eq_true', Bool.not_eq_false', beq_iff_eq, bne_iff_ne, ne_eq, beq_eq_false_iff_ne, bne_eq_false_iff_eq, Int.not_lt, Int.not_le, Nat.not_lt, Nat.not_le, Int.ofNat_lt, Int.ofNat_le, Bool.not_eq_eq_eq_not, Bool.not_true, Bool.not_false] at hb3
        refine SOps.move rfl ?_
        refine SOps.bin rfl rfl rfl ?_
        refine SOps.pick rfl rfl ?_
        refine SOps.assign rfl ?_
        refine SOps.nil ?_
        refine SCode.ret ?_
        exact ⟨_, Res.one (.tmp rfl), congrArg (fun b => DV.v (.bool b)) (by rw [Bool.eq_iff_iff]; simp only [goodR, runeOK, decide_eq_true_eq, Bool.false_eq_true, Bool.true_eq_false, beq_iff_eq]; first | omega | (simp; omega)), rfl⟩
      · try simp only [decide_eq_true_eq, decide_eq_false_iff_not, Bool.not_eq_true', Bool.not_eq_false', beq_iff_eq, bne_iff_ne, ne_eq, beq_eq_false_iff_ne, bne_eq_false_iff_eq, Int.not_lt, Int.not_le, Nat.not_lt, Nat.not_le, Int.ofNat_lt, Int.ofNat_le, Bool.not_eq_eq_eq_not, Bool.not_true, Bool.not_false] at hb3
        refine SOps.skip rfl ?_
        refine SOps.skip rfl ?_
        refine SOps.pick rfl rfl ?_
        refine SOps.assign rfl ?_
        refine SOps.nil ?_
        refine SCode.ret ?_
        exact ⟨_, Res.one (.tmp rfl), congrArg (fun b => DV.v (.bool b)) (by rw [Bool.eq_iff_iff]; simp only [goodR, runeOK, decide_eq_true_eq, Bool.false_eq_true, Bool.true_eq_false, beq_iff_eq]; first | omega | (simp; omega)), rfl⟩
  · try simp only [decide_eq_true_eq, decide_eq_false_iff_not, Bool.not_eq_true', Bool.not_eq_false', beq_iff_eq, bne_iff_ne, ne_eq, beq_eq_false_iff_ne, bne_eq_false_iff_eq, Int.not_lt, Int.not_le, Nat.not_lt, Nat.not_le, Int.ofNat_lt, Int.ofNat_le, Bool.not_eq_eq_eq_not, Bool.not_true, Bool.not_false] at hb1
    refine SOps.skip rfl ?_
    refine SOps.skip rfl ?_
    refine SOps.skip rfl ?_
    refine SOps.skip rfl ?_
    refine SOps.skip rfl ?_
    refine SOps.skip rfl ?_
    refine SOps.pick rfl rfl ?_
    refine SOps.move rfl ?_
    refine SOps.skip rfl ?_
    refine SOps.skip rfl ?_
    refine SOps.pick rfl rfl ?_
    refine SOps.assign rfl ?_
    refine SOps.nil ?_
    refine SCode.ret ?_
    exact ⟨_, Res.one (.tmp rfl), congrArg (fun b => DV.v (.bool b)) (by rw [Bool.eq_iff_iff]; simp only [goodR, runeOK, decide_eq_true_eq, Bool.false_eq_true, Bool.true_eq_false, beq_iff_eq]; first | omega | (simp; omega)), rfl⟩
theorem qProper (a : List Letter)  : GCall Tryd.prog E 23 [DLs a] [] (fun d H => d = .v (.bool (properB a && decide (a.length ≤ 65))) ∧ H = []) := by
  refine GCall.body (C := ⟨Tryd.prog, E, true⟩) Tryd.func23 rfl (fun _ => rfl) (by kernel_rfl) rfl ?_
  refine SCode.seqR ?_
  refine SOps.assign rfl ?_
  refine SOps.nil ?_
  refine SCode.seq ?_
  refine SCode.seqR ?_
  refine SOps.fact (isl_len (t := 0) rfl) (fun hB => ?_)
  simp only [List.length_map, lenB] at hB
  refine SOps.move rfl ?_
  refine SOps.lenM rfl sliceB_22_69_2 ?_
  refine SOps.bin rfl rfl rfl ?_
  refine SOps.nil ?_
  refine SCode.cond rfl (fun hc1 => ?_) (fun hc1 => ?_)
  · try simp only [decide_eq_true_eq, decide_eq_false_iff_not, Bool.not_eq_true', Bool.not_eq_false', beq_iff_eq, bne_iff_ne, ne_eq, beq_eq_false_iff_ne, bne_eq_false_iff_eq, Int.not_lt, Int.not_le, Nat.not_lt, Nat.not_le, Int.ofNat_lt, Int.ofNat_le, Bool.not_eq_eq_eq_not, Bool.not_true, Bool.not_false] at hc1
    refine SCode.seqR ?_
    refine SOps.assign rfl ?_
    refine SOps.nil ?_
    refine SCode.ret ?_
    exact ⟨_, Res.one (.tmp rfl), congrArg (fun b => DV.v (.bool b)) (Eq.symm (Bool.eq_false_iff.2 (fun h => by simp only [Bool.and_eq_true, decide_eq_true_eq] at h; omega))), rfl⟩
  · try simp only [decide_eq_true_eq, decide_eq_false_iff_not, Bool.not_eq_true', Bool.not_eq_false', beq_iff_eq, bne_iff_ne, ne_eq, beq_eq_false_iff_ne, bne_eq_false_iff_eq, Int.not_lt, Int.not_le, Nat.not_lt, Nat.not_le, Int.ofNat_lt, Int.ofNat_le, Bool.not_eq_eq_eq_not, Bool.not_true, Bool.not_false] at hc1
    refine SCode.skip ?_
    show SCode _ _ _ _
    refine SCode.seq ?_
    refine SCode.seqR ?_
    refine SOps.assign rfl ?_
    refine SOps.nil ?_
    refine SCode.block ?_
    refine SCode.loop1 (fun (i : Nat) => (⟨32, [(0, DLs a), (3, .v (.int .i64 (i : Int)))], []⟩ : St)) (fun (i : Nat) => i ≤ a.length ∧ (∀ l ∈ a.take i, goodR l.rune = true) ∧ ((a.take i).map (·.rune)).Nodup) (fun (i : Nat) => a.length - i) (0) (by simp) (St.Le.of ⟨(by first | rfl | (show some _ = some _; simp)), (by first | rfl | (show some _ = some _; simp)), trivial⟩ rfl (by first | rfl | (simp))) ?_
    rintro i ⟨hi, hf⟩
    refine SCode.seq ?_
    refine SCode.seqR ?_
    refine SOps.move rfl ?_
    refine SOps.move rfl ?_
    refine SOps.lenM rfl sliceB_22_69_2 ?_
    refine SOps.bin rfl rfl rfl ?_
    refine SOps.nil ?_
    refine SCode.cond rfl (fun hc2 => ?_) (fun hc2 => ?_)
    · try simp only [decide_eq_true_eq, decide_eq_false_iff_not, Bool.not_eq_true', Bool.not_eq_false', beq_iff_eq, bne_iff_ne, ne_eq, beq_eq_false_iff_ne, bne_eq_false_iff_eq, Int.not_lt, Int.not_le, Nat.not_lt, Nat.not_le, Int.ofNat_lt, Int.ofNat_le, Bool.not_eq_eq_eq_not, Bool.not_true, Bool.not_false] at hc2
      refine SCode.skip ?_
      show SCode _ _ _ _
      refine SCode.seq ?_
      refine SCode.block ?_
      refine SCode.seq ?_
      have hi6 : i < a.length := by omega
      rcases hg : goodR (a[i]).rune with _ | _
      · apply SCode.drawAuto mixed_ [13, 14, 15, 16, 17, 18, 19, 20, 21, 22, 23, 24, 25, 26, 27, 28, 29, 30, 31] [[.inr 0], [.inr 3], [.inl 0, .inl 1], [.inl 2], [.inl 3], [.inl 4], [.inl 5], [.inl 6], [.inl 7], [.inl 7], [.inl 7], [.inl 7], [.inl 7], [.inl 7], [.inl 7], [.inl 7], [.inl 7], [.inl 7], [.inl 7, .inl 17]]
        · kernel_rfl
        · kernel_rfl
        · apply DOk.cons 13 
          · rfl
          · exact (NeedIs.inr _ rfl NeedIs.nil)
          · intro rest
            refine SOps.move rfl ?_
            exact SOps.nil rfl
          apply DOk.cons 14 
          · rfl
          · exact (NeedIs.inr _ rfl NeedIs.nil)
          · intro rest
            refine SOps.move rfl ?_
            exact SOps.nil rfl
          apply DOk.cons 15 
          · rfl
          · exact (NeedIs.inl 1 _ _ rfl rfl (NeedIs.inl 0 _ _ rfl rfl NeedIs.nil))
          · intro rest
            refine SOps.indexM (i) rfl rfl sliceB_22_69_2 (by first | omega | (simp only [lenB]; omega)) (by first | omega | (simp only [lenB]; omega)) ?_
            exact SOps.nil rfl
          apply DOk.cons 16 
          · rfl
          · exact (NeedIs.inl 0 _ _ rfl rfl NeedIs.nil)
          · intro rest
            refine SOps.fieldPin rfl fieldB_69_0_0 ?_
            exact SOps.nil rfl
          apply DOk.cons 17 
          · rfl
          · exact (NeedIs.inl 0 _ _ rfl rfl NeedIs.nil)
          · intro rest
            refine SOps.loadPin rfl flatB_21 ?_
            exact SOps.nil rfl
          apply DOk.cons 18 
          · rfl
          · exact (NeedIs.inl 0 _ _ rfl rfl NeedIs.nil)
          · intro rest
            refine SOps.callP (qCode _) rfl ?_
            rintro _ rfl
            exact SOps.nil rfl
          apply DOk.cons 19 (.v (.bool true))
          · rfl
          · exact (NeedIs.inl 0 _ _ rfl rfl NeedIs.nil)
          · intro rest
            refine SOps.un rfl rfl ?_
            exact SOps.nil (congrArg (fun b => St.put _ 19 (.v (.bool b))) (by rw [hg]; rfl))
          apply DOk.cons 20 (.v (.bool true))
          · rfl
          · exact (NeedIs.inl 0 _ _ rfl rfl NeedIs.nil)
          · intro rest
            refine SOps.move rfl ?_
            exact SOps.nil (congrArg (fun b => St.put _ 20 (.v (.bool b))) (rfl))
          apply DOk.cons 21 
          · rfl
          · exact (NeedIs.inl 0 _ _ rfl rfl NeedIs.nil)
          · intro rest
            refine SOps.skip rfl ?_
            exact SOps.nil rfl
          apply DOk.cons 22 
          · rfl
          · exact (NeedIs.inl 1 _ _ rfl rfl NeedIs.nil)
          · intro rest
            refine SOps.skip rfl ?_
            exact SOps.nil rfl
          apply DOk.cons 23 
          · rfl
          · exact (NeedIs.inl 2 _ _ rfl rfl NeedIs.nil)
          · intro rest
            refine SOps.skip rfl ?_
            exact SOps.nil rfl
          apply DOk.cons 24 
          · rfl
          · exact (NeedIs.inl 3 _ _ rfl rfl NeedIs.nil)
          · intro rest
            refine SOps.skip rfl ?_
            exact SOps.nil rfl
          apply DOk.cons 25 
          · rfl
          · exact (NeedIs.inl 4 _ _ rfl rfl NeedIs.nil)
          · intro rest
            refine SOps.skip rfl ?_
            exact SOps.nil rfl
          apply DOk.cons 26 
          · rfl
          · exact (NeedIs.inl 5 _ _ rfl rfl NeedIs.nil)
          · intro rest
            refine SOps.skip rfl ?_
            exact SOps.nil rfl
          apply DOk.cons 27 
          · rfl
          · exact (NeedIs.inl 6 _ _ rfl rfl NeedIs.nil)
          · intro rest
            refine SOps.skip rfl ?_
            exact SOps.nil rfl
          apply DOk.cons 28 
          · rfl
          · exact (NeedIs.inl 7 _ _ rfl rfl NeedIs.nil)
          · intro rest
            refine SOps.skip rfl ?_
            exact SOps.nil rfl
          apply DOk.cons 29 
          · rfl
          · exact (NeedIs.inl 8 _ _ rfl rfl NeedIs.nil)
          · intro rest
            refine SOps.skip rfl ?_
            exact SOps.nil rfl
          apply DOk.cons 30 
          · rfl
          · exact (NeedIs.inl 9 _ _ rfl rfl NeedIs.nil)
          · intro rest
            refine SOps.skip rfl ?_
            exact SOps.nil rfl
          apply DOk.cons 31 (.v (.bool true))
          · rfl
          · exact (NeedIs.inl 10 _ _ rfl rfl (NeedIs.inl 0 _ _ rfl rfl NeedIs.nil))
          · intro rest
            refine SOps.pick rfl rfl ?_
            exact SOps.nil (congrArg (fun b => St.put _ 31 (.v (.bool b))) (rfl))
          exact DOk.nil
        · rfl
        · show SCode _ _ _ _
          refine SCode.cond rfl (fun _ => ?_) (fun h => by cases h)
          refine SCode.seqR ?_
          refine SOps.assign rfl ?_
          refine SOps.nil ?_
          refine SCode.ret ?_
          exact ⟨_, Res.one (.tmp rfl), congrArg (fun b => DV.v (.bool b)) (Eq.symm (Bool.eq_false_iff.2 (fun h => by have := (properB_iff.1 (show properB a = true by simp only [Bool.and_eq_true] at h; exact h.1)).1 _ (List.getElem_mem (show i < a.length by omega)); rw [this] at hg; cases hg))), rfl⟩
      · apply SCode.drawAuto mixed_ [13, 14, 15, 16, 17, 18, 19, 20, 21, 22, 23, 24, 25, 26, 27, 28, 29, 30, 31] [[.inr 0], [.inr 3], [.inl 0, .inl 1], [.inl 2], [.inl 3], [.inl 4], [.inl 5], [.inl 6], [.inl 7, .inr 0], [.inl 7, .inr 3], [.inl 7, .inl 8, .inl 9], [.inl 7, .inr 0], [.inl 7, .inr 3], [.inl 7, .inl 11, .inl 12], [.inl 7, .inl 13], [.inl 7, .inl 14], [.inl 7, .inl 10, .inl 15], [.inl 7, .inl 16], [.inl 7, .inl 17]]
        · kernel_rfl
        · kernel_rfl
        · apply DOk.cons 13 
          · rfl
          · exact (NeedIs.inr _ rfl NeedIs.nil)
          · intro rest
            refine SOps.move rfl ?_
            exact SOps.nil rfl
          apply DOk.cons 14 
          · rfl
          · exact (NeedIs.inr _ rfl NeedIs.nil)
          · intro rest
            refine SOps.move rfl ?_
            exact SOps.nil rfl
          apply DOk.cons 15 
          · rfl
          · exact (NeedIs.inl 1 _ _ rfl rfl (NeedIs.inl 0 _ _ rfl rfl NeedIs.nil))
          · intro rest
            refine SOps.indexM (i) rfl rfl sliceB_22_69_2 (by first | omega | (simp only [lenB]; omega)) (by first | omega | (simp only [lenB]; omega)) ?_
            exact SOps.nil rfl
          apply DOk.cons 16 
          · rfl
          · exact (NeedIs.inl 0 _ _ rfl rfl NeedIs.nil)
          · intro rest
            refine SOps.fieldPin rfl fieldB_69_0_0 ?_
            exact SOps.nil rfl
          apply DOk.cons 17 
          · rfl
          · exact (NeedIs.inl 0 _ _ rfl rfl NeedIs.nil)
          · intro rest
            refine SOps.loadPin rfl flatB_21 ?_
            exact SOps.nil rfl
          apply DOk.cons 18 
          · rfl
          · exact (NeedIs.inl 0 _ _ rfl rfl NeedIs.nil)
          · intro rest
            refine SOps.callP (qCode _) rfl ?_
            rintro _ rfl
            exact SOps.nil rfl
          apply DOk.cons 19 (.v (.bool false))
          · rfl
          · exact (NeedIs.inl 0 _ _ rfl rfl NeedIs.nil)
          · intro rest
            refine SOps.un rfl rfl ?_
            exact SOps.nil (congrArg (fun b => St.put _ 19 (.v (.bool b))) (by rw [hg]; rfl))
          apply DOk.cons 20 (.v (.bool false))
          · rfl
          · exact (NeedIs.inl 0 _ _ rfl rfl NeedIs.nil)
          · intro rest
            refine SOps.move rfl ?_
            exact SOps.nil (congrArg (fun b => St.put _ 20 (.v (.bool b))) (rfl))
          apply DOk.cons 21 
          · rfl
          · exact (NeedIs.inl 0 _ _ rfl rfl (NeedIs.inr _ rfl NeedIs.nil))
          · intro rest
            refine SOps.move rfl ?_
            exact SOps.nil rfl
          apply DOk.cons 22 
          · rfl
          · exact (NeedIs.inl 1 _ _ rfl rfl (NeedIs.inr _ rfl NeedIs.nil))
          · intro rest
            refine SOps.move rfl ?_
            exact SOps.nil rfl
          apply DOk.cons 23 
          · rfl
          · exact (NeedIs.inl 2 _ _ rfl rfl (NeedIs.inl 1 _ _ rfl rfl (NeedIs.inl 0 _ _ rfl rfl NeedIs.nil)))
          · intro rest
            refine SOps.sliceT (n1 := 0) (i) sliceB_22_69_2 rfl rfl (by first | omega | (simp only [lenB]; omega)) (by first | omega | (simp only [lenB]; omega)) ?_
            exact SOps.nil rfl
          apply DOk.cons 24 
          · rfl
          · exact (NeedIs.inl 3 _ _ rfl rfl (NeedIs.inr _ rfl NeedIs.nil))
          · intro rest
            refine SOps.move rfl ?_
            exact SOps.nil rfl
          apply DOk.cons 25 
          · rfl
          · exact (NeedIs.inl 4 _ _ rfl rfl (NeedIs.inr _ rfl NeedIs.nil))
          · intro rest
            refine SOps.move rfl ?_
            exact SOps.nil rfl
          apply DOk.cons 26 
          · rfl
          · exact (NeedIs.inl 5 _ _ rfl rfl (NeedIs.inl 1 _ _ rfl rfl (NeedIs.inl 0 _ _ rfl rfl NeedIs.nil)))
          · intro rest
            refine SOps.indexM (i) rfl rfl sliceB_22_69_2 (by first | omega | (simp only [lenB]; omega)) (by first | omega | (simp only [lenB]; omega)) ?_
            exact SOps.nil rfl
          apply DOk.cons 27 
          · rfl
          · exact (NeedIs.inl 6 _ _ rfl rfl (NeedIs.inl 0 _ _ rfl rfl NeedIs.nil))
          · intro rest
            refine SOps.fieldPin rfl fieldB_69_0_0 ?_
            exact SOps.nil rfl
          apply DOk.cons 28 
          · rfl
          · exact (NeedIs.inl 7 _ _ rfl rfl (NeedIs.inl 0 _ _ rfl rfl NeedIs.nil))
          · intro rest
            refine SOps.loadPin rfl flatB_21 ?_
            exact SOps.nil rfl
          apply DOk.cons 29 
          · rfl
          · exact (NeedIs.inl 8 _ _ rfl rfl (NeedIs.inl 5 _ _ rfl rfl (NeedIs.inl 0 _ _ rfl rfl NeedIs.nil)))
          · intro rest
            refine SOps.callP (qIndex _ _) rfl ?_
            rintro _ rfl
            exact SOps.nil rfl
          apply DOk.cons 30 
          · rfl
          · exact (NeedIs.inl 9 _ _ rfl rfl (NeedIs.inl 0 _ _ rfl rfl NeedIs.nil))
          · intro rest
            refine SOps.bin rfl rfl rfl ?_
            exact SOps.nil rfl
          apply DOk.cons 31 
          · rfl
          · exact (NeedIs.inl 10 _ _ rfl rfl (NeedIs.inl 0 _ _ rfl rfl NeedIs.nil))
          · intro rest
            refine SOps.pick rfl rfl ?_
            exact SOps.nil rfl
          exact DOk.nil
        · rfl
        · show SCode _ _ _ _
          refine SCode.cond rfl (fun hc3 => ?_) (fun hc3 => ?_)
          · try simp only [decide_eq_true_eq, decide_eq_false_iff_not, Bool.not_eq_true', Bool.not_eq_false', beq_iff_eq, bne_iff_ne, ne_eq, beq_eq_false_iff_ne, bne_eq_false_iff_eq, Int.not_lt, Int.not_le, Nat.not_lt, Nat.not_le, Int.ofNat_lt, Int.ofNat_le, Bool.not_eq_eq_eq_not, Bool.not_true, Bool.not_false] at hc3
            refine SCode.seqR ?_
            refine SOps.assign rfl ?_
            refine SOps.nil ?_
            refine SCode.ret ?_
            exact ⟨_, Res.one (.tmp rfl), congrArg (fun b => DV.v (.bool b)) (Eq.symm (Bool.eq_false_iff.2 (fun h => by have := ((nodup_snoc (show i < a.length by omega)).1 (properB_take (by simp only [Bool.and_eq_true] at h; exact h.1) (i + 1)).2).2; rw [idxI_none this] at hc3; omega))), rfl⟩
          · try simp only [decide_eq_true_eq, decide_eq_false_iff_not, Bool.not_eq_true', Bool.not_eq_false', beq_iff_eq, bne_iff_ne, ne_eq, beq_eq_false_iff_ne, bne_eq_false_iff_eq, Int.not_lt, Int.not_le, Nat.not_lt, Nat.not_le, Int.ofNat_lt, Int.ofNat_le, Bool.not_eq_eq_eq_not, Bool.not_true, Bool.not_false] at hc3
            refine SCode.skip ?_
            show SCode _ _ _ _
            refine SCode.region ?_
            refine SOps.move rfl ?_
            refine SOps.addI rfl rfl (by first | omega | (simp only [lenB]; omega)) (by first | omega | (simp only [lenB]; omega)) ?_
            refine SOps.assign rfl ?_
            refine SOps.nil ?_
            exact ⟨i + 1, by exact ⟨by omega, take_more hf.1 (by omega) hg, (nodup_snoc (by omega)).2 ⟨hf.2, by cases h : idx (a.take i) (a[i]).rune with | none => rfl | some k => rw [idxI_some h] at hc3; omega⟩⟩, by omega, (St.Le.of ⟨(by first | rfl | (show some _ = some _; simp)), (by first | rfl | (show some _ = some _; simp)), trivial⟩ rfl (by first | rfl | (simp)))⟩
    · try simp only [decide_eq_true_eq, decide_eq_false_iff_not, Bool.not_eq_true', Bool.not_eq_false', beq_iff_eq, bne_iff_ne, ne_eq, beq_eq_false_iff_ne, bne_eq_false_iff_eq, Int.not_lt, Int.not_le, Nat.not_lt, Nat.not_le, Int.ofNat_lt, Int.ofNat_le, Bool.not_eq_eq_eq_not, Bool.not_true, Bool.not_false] at hc2
      refine SCode.exit ?_
      show SCode _ _ _ _
      refine SCode.seqR ?_
      refine SOps.assign rfl ?_
      refine SOps.nil ?_
      refine SCode.ret ?_
      exact ⟨_, Res.one (.tmp rfl), congrArg (fun b => DV.v (.bool b)) (Eq.symm (by rw [List.take_of_length_le (by omega)] at hf; rw [properB_iff.2 hf, decide_eq_true (by omega)]; rfl)), rfl⟩
theorem qValid (a : List Letter) (p : List Item) (hp : ∀ x ∈ p, x.lets.size ≤ 1048576) : GCall Tryd.prog E 14 [DLs a, DIts p] [] (fun d H => d = .v (.bool (validPat a p)) ∧ H = []) := by
  refine GCall.body (C := ⟨Tryd.prog, E, true⟩) Tryd.func14 rfl (fun _ => rfl) (by kernel_rfl) rfl ?_
  refine SCode.seqR ?_
  refine SOps.assign rfl ?_
  refine SOps.nil ?_
  refine SCode.seq ?_
  refine SCode.seqR ?_
  refine SOps.move rfl ?_
  refine SOps.callP (qProper _) rfl ?_
  rintro _ rfl
  refine SOps.un rfl rfl ?_
  refine SOps.move rfl ?_
  refine SOps.caseB 11 rfl (fun hb1 => ?_) (fun hb1 => ?_)
  · try simp only [decide_eq_true_eq, decide_eq_false_iff_not, Bool.not_eq_true', Bool.not_eq_false', beq_iff_eq, bne_iff_ne, ne_eq, beq_eq_false_iff_ne, bne_eq_false_iff_eq, Int.not_lt, Int.not_le, Nat.not_lt, Nat.not_le, Int.ofNat_lt, Int.ofNat_le, Bool.not_eq_eq_eq_not, Bool.not_true, Bool.not_false] at hb1
    refine SOps.skip rfl ?_
    refine SOps.skip rfl ?_
    refine SOps.skip rfl ?_
    refine SOps.pick rfl rfl ?_
    refine SOps.nil ?_
    refine SCode.cond rfl (fun _ => ?_) (fun h => by cases h)
    refine SCode.seqR ?_
    refine SOps.assign rfl ?_
    refine SOps.nil ?_
    refine SCode.ret ?_
    exact ⟨_, Res.one (.tmp rfl), congrArg (fun b => DV.v (.bool b)) (Eq.symm (Bool.eq_false_iff.2 (fun h => by simp only [validPat, Bool.and_eq_true, decide_eq_true_eq] at h; revert hb1; rw [h.1.1.1, decide_eq_true h.1.1.2]; simp))), rfl⟩
  · try simp only [decide_eq_true_eq, decide_eq_false_iff_not, Bool.not_eq_true', Bool.not_eq_false', beq_iff_eq, bne_iff_ne, ne_eq, beq_eq_false_iff_ne, bne_eq_false_iff_eq, Int.not_lt, Int.not_le, Nat.not_lt, Nat.not_le, Int.ofNat_lt, Int.ofNat_le, Bool.not_eq_eq_eq_not, Bool.not_true, Bool.not_false] at hb1
    refine SOps.move rfl ?_
    refine SOps.lenM rfl sliceB_23_56_4 ?_
    refine SOps.bin rfl rfl rfl ?_
    refine SOps.pick rfl rfl ?_
    refine SOps.nil ?_
    refine SCode.cond rfl (fun hc2 => ?_) (fun hc2 => ?_)
    · try simp only [decide_eq_true_eq, decide_eq_false_iff_not, Bool.not_eq_true', Bool.not_eq_false', beq_iff_eq, bne_iff_ne, ne_eq, beq_eq_false_iff_ne, bne_eq_false_iff_eq, Int.not_lt, Int.not_le, Nat.not_lt, Nat.not_le, Int.ofNat_lt, Int.ofNat_le, Bool.not_eq_eq_eq_not, Bool.not_true, Bool.not_false] at hc2
      refine SCode.seqR ?_
      refine SOps.assign rfl ?_
      refine SOps.nil ?_
      refine SCode.ret ?_
      exact ⟨_, Res.one (.tmp rfl), congrArg (fun b => DV.v (.bool b)) (Eq.symm (Bool.eq_false_iff.2 (fun h => by simp only [validPat, Bool.and_eq_true, decide_eq_true_eq] at h; omega))), rfl⟩
    · try simp only [decide_eq_true_eq, decide_eq_false_iff_not, Bool.not_eq_true', Bool.not_eq_false', beq_iff_eq, bne_iff_ne, ne_eq, beq_eq_false_iff_ne, bne_eq_false_iff_eq, Int.not_lt, Int.not_le, Nat.not_lt, Nat.not_le, Int.ofNat_lt, Int.ofNat_le, Bool.not_eq_eq_eq_not, Bool.not_true, Bool.not_false] at hc2
      refine SCode.skip ?_
      show SCode _ _ _ _
      refine SCode.seq ?_
      refine SCode.seqR ?_
      refine SOps.assign rfl ?_
      refine SOps.nil ?_
      refine SCode.block ?_
      refine SCode.loop1 (fun (i : Nat) => (⟨34, [(0, DLs a), (1, DIts p), (5, .v (.int .i64 (i : Int)))], []⟩ : St)) (fun (i : Nat) => i ≤ p.length ∧ ∀ x ∈ p.take i, overA a x.lets = true) (fun (i : Nat) => p.length - i) (0) (by simp) (St.Le.of ⟨(by first | rfl | (show some _ = some _; simp)), (by first | rfl | (show some _ = some _; simp)), (by first | rfl | (show some _ = some _; simp)), trivial⟩ rfl (by first | rfl | (simp))) ?_
      rintro i ⟨hi, hf⟩
      refine SCode.fact (isl_len (t := 1) rfl) (fun hB => ?_)
      simp only [List.length_map, lenB] at hB
      refine SCode.seq ?_
      refine SCode.seqR ?_
      refine SOps.move rfl ?_
      refine SOps.move rfl ?_
      refine SOps.lenM rfl sliceB_23_56_4 ?_
      refine SOps.bin rfl rfl rfl ?_
      refine SOps.nil ?_
      refine SCode.cond rfl (fun hc3 => ?_) (fun hc3 => ?_)
      · try simp only [decide_eq_true_eq, decide_eq_false_iff_not, Bool.not_eq_true', Bool.not_eq_false', beq_iff_eq, bne_iff_ne, ne_eq, beq_eq_false_iff_ne, bne_eq_false_iff_eq, Int.not_lt, Int.not_le, Nat.not_lt, Nat.not_le, Int.ofNat_lt, Int.ofNat_le, Bool.not_eq_eq_eq_not, Bool.not_true, Bool.not_false] at hc3
        refine SCode.skip ?_
        show SCode _ _ _ _
        refine SCode.seq ?_
        refine SCode.block ?_
        refine SCode.seqR ?_
        refine SOps.move rfl ?_
        refine SOps.move rfl ?_
        refine SOps.move rfl ?_
        refine SOps.indexM (i) rfl rfl sliceB_23_56_4 (by first | omega | (simp only [lenB]; omega)) (by first | omega | (simp only [lenB]; omega)) ?_
        refine SOps.fieldPin rfl fieldB_56_1_1 ?_
        refine SOps.loadPin rfl flatB_9 ?_
        have hi6 : i < p.length := by omega
        have hz := hp _ (List.getElem_mem hi6)
        rcases hal : (runes (p[i]).lets).all (fun r => (idx a r).isSome) with _ | _
        · refine SOps.callP (qOver0 a (p[i]).lets hz) rfl ?_
          rintro _ rfl
          rw [if_neg (by rw [hal]; simp)]
          refine SOps.move rfl ?_
          refine SOps.extract rfl rfl ?_
          refine SOps.extract rfl rfl ?_
          refine SOps.assign rfl ?_
          refine SOps.assign rfl ?_
          refine SOps.nil ?_
          refine SCode.seqR ?_
          refine SOps.move rfl ?_
          refine SOps.un rfl rfl ?_
          refine SOps.nil ?_
          refine SCode.cond rfl (fun _ => ?_) (fun h => by cases h)
          refine SCode.seqR ?_
          refine SOps.assign rfl ?_
          refine SOps.nil ?_
          refine SCode.ret ?_
          exact ⟨_, Res.one (.tmp rfl), congrArg (fun b => DV.v (.bool b)) (Eq.symm (Bool.eq_false_iff.2 (fun h => by simp only [validPat, Bool.and_eq_true, List.all_eq_true] at h; have := h.2 _ (List.getElem_mem (show i < p.length by omega)); rw [overA_eq6, hal] at this; simp at this))), rfl⟩
        · refine SOps.callP (qOver0 a (p[i]).lets hz) rfl ?_
          rintro _ rfl
          rw [if_pos hal]
          refine SOps.move rfl ?_
          refine SOps.extract rfl rfl ?_
          refine SOps.extract rfl rfl ?_
          refine SOps.assign rfl ?_
          refine SOps.assign rfl ?_
          refine SOps.nil ?_
          refine SCode.seqR ?_
          refine SOps.move rfl ?_
          refine SOps.un rfl rfl ?_
          refine SOps.nil ?_
          refine SCode.cond rfl (fun hc4 => ?_) (fun hc4 => ?_)
          · try simp only [decide_eq_true_eq, decide_eq_false_iff_not, Bool.not_eq_true', Bool.not_eq_false', beq_iff_eq, bne_iff_ne, ne_eq, beq_eq_false_iff_ne, bne_eq_false_iff_eq, Int.not_lt, Int.not_le, Nat.not_lt, Nat.not_le, Int.ofNat_lt, Int.ofNat_le, Bool.not_eq_eq_eq_not, Bool.not_true, Bool.not_false] at hc4
            refine SCode.seqR ?_
            refine SOps.assign rfl ?_
            refine SOps.nil ?_
            refine SCode.ret ?_
            exact ⟨_, Res.one (.tmp rfl), congrArg (fun b => DV.v (.bool b)) (Eq.symm (Bool.eq_false_iff.2 (fun h => by simp only [validPat, Bool.and_eq_true, List.all_eq_true] at h; have := h.2 _ (List.getElem_mem (show i < p.length by omega)); rw [overA_eq6, hc4] at this; simp at this))), rfl⟩
          · try simp only [decide_eq_true_eq, decide_eq_false_iff_not, Bool.not_eq_true', Bool.not_eq_false', beq_iff_eq, bne_iff_ne, ne_eq, beq_eq_false_iff_ne, bne_eq_false_iff_eq, Int.not_lt, Int.not_le, Nat.not_lt, Nat.not_le, Int.ofNat_lt, Int.ofNat_le, Bool.not_eq_eq_eq_not, Bool.not_true, Bool.not_false] at hc4
            refine SCode.skip ?_
            show SCode _ _ _ _
            refine SCode.region ?_
            refine SOps.move rfl ?_
            refine SOps.addI rfl rfl (by first | omega | (simp only [lenB]; omega)) (by first | omega | (simp only [lenB]; omega)) ?_
            refine SOps.assign rfl ?_
            refine SOps.nil ?_
            exact ⟨i + 1, by exact ⟨by omega, take_more hf (by omega) (by rw [overA_eq6, hal, hc4]; rfl)⟩, by omega, (St.Le.of ⟨(by first | rfl | (show some _ = some _; simp)), (by first | rfl | (show some _ = some _; simp)), (by first | rfl | (show some _ = some _; simp)), trivial⟩ rfl (by first | rfl | (simp)))⟩
      · try simp only [decide_eq_true_eq, decide_eq_false_iff_not, Bool.not_eq_true', Bool.not_eq_false', beq_iff_eq, bne_iff_ne, ne_eq, beq_eq_false_iff_ne, bne_eq_false_iff_eq, Int.not_lt, Int.not_le, Nat.not_lt, Nat.not_le, Int.ofNat_lt, Int.ofNat_le, Bool.not_eq_eq_eq_not, Bool.not_true, Bool.not_false] at hc3
        refine SCode.exit ?_
        show SCode _ _ _ _
        refine SCode.seqR ?_
        refine SOps.assign rfl ?_
        refine SOps.nil ?_
        refine SCode.ret ?_
        exact ⟨_, Res.one (.tmp rfl), congrArg (fun b => DV.v (.bool b)) (Eq.symm (by simp_all [validPat]; exact ⟨by omega, all_of (by omega) hf⟩)), rfl⟩
theorem qListed (s : ByteArray) (r : Int)  : GCall Tryd.prog E 62 [.v (.string s), .v (.int .i32 r)] [] (fun d H => d = .v (.bool (listed s r)) ∧ H = []) := by
  refine GCall.body (C := ⟨Tryd.prog, E, true⟩) Tryd.func62 rfl (fun _ => rfl) (by kernel_rfl) rfl ?_
  refine SCode.seqR ?_
  refine SOps.assign rfl ?_
  refine SOps.nil ?_
  refine SCode.seq ?_
  refine SCode.seqR ?_
  refine SOps.move rfl ?_
  refine SOps.rangeStr rfl strB_9 (fun b0 hb_0 => ?_)
  refine SOps.nil ?_
  refine SCode.block ?_
  refine SCode.fact (v_scal (t := 0) rfl) (fun hS => ?_)
  simp only [scal, lenB] at hS
  refine SCode.loop2 (fun (p : Nat) (b : Nat) => (⟨15, [(1, .v (.int .i32 r)), (8, .it b)], [(b, .iter s p)]⟩ : St)) (fun (p : Nat) (b : Nat) => (runesAt s p).any (fun c => c == r) = listed s r) (fun (p : Nat) (b : Nat) => s.size - p) (0) (b0) (by rfl) (St.Le.of ⟨(by first | rfl | (show some _ = some _; simp)), (by first | rfl | (show some _ = some _; simp)), trivial⟩ rfl (by first | rfl | (simp))) ?_
  rintro p b hf
  refine SCode.seqR ?_
  refine SOps.next 0 rfl rfl (fun hn1 => ?_) (fun hn1 => ?_) (by first | omega | (simp only [lenB]; omega))
  · refine SOps.extract rfl rfl ?_
    refine SOps.nil ?_
    refine SCode.seq ?_
    refine SCode.cond rfl (fun _ => ?_) (fun h => by cases h)
    refine SCode.skip ?_
    show SCode _ _ _ _
    refine SCode.block ?_
    refine SCode.seqR ?_
    refine SOps.extract rfl rfl ?_
    refine SOps.assign rfl ?_
    refine SOps.nil ?_
    refine SCode.seqR ?_
    refine SOps.move rfl ?_
    refine SOps.move rfl ?_
    refine SOps.bin rfl rfl rfl ?_
    refine SOps.nil ?_
    refine SCode.cond rfl (fun hc2 => ?_) (fun hc2 => ?_)
    · try simp only [decide_eq_true_eq, decide_eq_false_iff_not, Bool.not_eq_true', Bool.not_eq_false', beq_iff_eq, bne_iff_ne, ne_eq, beq_eq_false_iff_ne, bne_eq_false_iff_eq, Int.not_lt, Int.not_le, Nat.not_lt, Nat.not_le, Int.ofNat_lt, Int.ofNat_le, Bool.not_eq_eq_eq_not, Bool.not_true, Bool.not_false] at hc2
      refine SCode.seqR ?_
      refine SOps.assign rfl ?_
      refine SOps.nil ?_
      refine SCode.drop ?_
      refine SCode.ret ?_
      exact ⟨_, Res.one (.tmp rfl), congrArg (fun b => DV.v (.bool b)) (Eq.symm (by rw [← hf, runesAt_lt hn1, List.any_cons, beq_iff_eq.2 hc2, Bool.true_or])), rfl⟩
    · try simp only [decide_eq_true_eq, decide_eq_false_iff_not, Bool.not_eq_true', Bool.not_eq_false', beq_iff_eq, bne_iff_ne, ne_eq, beq_eq_false_iff_ne, bne_eq_false_iff_eq, Int.not_lt, Int.not_le, Nat.not_lt, Nat.not_le, Int.ofNat_lt, Int.ofNat_le, Bool.not_eq_eq_eq_not, Bool.not_true, Bool.not_false] at hc2
      refine SCode.skip ?_
      exact ⟨p + (Utf8.decode s p).2, b, by rw [← hf, runesAt_lt hn1, List.any_cons, beq_eq_false_iff_ne.2 hc2, Bool.false_or], by have := decode_w s p; omega, (St.Le.of ⟨(by first | rfl | (show some _ = some _; simp)), (by first | rfl | (show some _ = some _; simp)), trivial⟩ rfl (by first | rfl | (simp)))⟩
  · refine SOps.extract rfl rfl ?_
    refine SOps.nil ?_
    refine SCode.seq ?_
    refine SCode.cond rfl (fun h => by cases h) (fun _ => ?_)
    refine SCode.exit ?_
    show SCode _ _ _ _
    refine SCode.seqR ?_
    refine SOps.assign rfl ?_
    refine SOps.nil ?_
    refine SCode.drop ?_
    refine SCode.ret ?_
    exact ⟨_, Res.one (.tmp rfl), congrArg (fun b => DV.v (.bool b)) (Eq.symm (by rw [← hf, runesAt_ge hn1]; rfl)), rfl⟩
theorem qAdmits (x : Item) (l : Letter)  : GCall Tryd.prog E 58 [.agg (encIt x), .agg (encL l)] [] (fun d H => d = .v (.bool (admB x l)) ∧ H = []) := by
  refine GCall.body (C := ⟨Tryd.prog, E, true⟩) Tryd.func58 rfl (fun _ => rfl) (by kernel_rfl) rfl ?_
  refine SCode.seqR ?_
  refine SOps.boxAM rfl rfl ?_
  refine SOps.boxAM rfl rfl ?_
  refine SOps.assign rfl ?_
  refine SOps.nil ?_
  refine SCode.seqR ?_
  refine SOps.fieldPin rfl fieldB_69_1_1 ?_
  refine SOps.loadPin rfl flatB_54 ?_
  refine SOps.fieldPin rfl fieldB_56_0_0 ?_
  refine SOps.loadPin rfl flatB_54 ?_
  refine SOps.bits rfl rfl rfl ?_
  refine SOps.fieldPin rfl fieldB_56_0_0 ?_
  refine SOps.loadPin rfl flatB_54 ?_
  refine SOps.bin rfl rfl rfl ?_
  refine SOps.move rfl ?_
  refine SOps.caseB 14 rfl (fun hb1 => ?_) (fun hb1 => ?_)
  · try simp only [decide_eq_true_eq, decide_eq_false_iff_not, Bool.not_eq_true', Bool.not_eq_false', beq_iff_eq, bne_iff_ne, ne_eq, beq_eq_false_iff_ne, bne_eq_false_iff_eq, Int.not_lt, Int.not_le, Nat.not_lt, Nat.not_le, Int.ofNat_lt, Int.ofNat_le, Bool.not_eq_eq_eq_not, Bool.not_true, Bool.not_false] at hb1
    refine SOps.fieldPin rfl fieldB_56_1_1 ?_
    refine SOps.loadPin rfl flatB_9 ?_
    refine SOps.bin rfl rfl rfl ?_
    refine SOps.move rfl ?_
    refine SOps.caseB 18 rfl (fun hb2 => ?_) (fun hb2 => ?_)
    · try simp only [decide_eq_true_eq, decide_eq_false_iff_not, Bool.not_eq_true', Bool.not_eq_false', beq_iff_eq, bne_iff_ne, ne_eq, beq_eq_false_iff_ne, bne_eq_false_iff_eq, Int.not_lt, Int.not_le, Nat.not_lt, Nat.not_le, Int.ofNat_lt, Int.ofNat_le, Bool.not_eq_eq_eq_not, Bool.not_true, Bool.not_false] at hb2
      refine SOps.skip rfl ?_
      refine SOps.skip rfl ?_
      refine SOps.skip rfl ?_
      refine SOps.skip rfl ?_
      refine SOps.skip rfl ?_
      refine SOps.pick rfl rfl ?_
      refine SOps.pick rfl rfl ?_
      refine SOps.assign rfl ?_
      refine SOps.nil ?_
      refine SCode.seqR ?_
      refine SOps.move rfl ?_
      refine SOps.fieldPin rfl fieldB_56_2_2 ?_
      refine SOps.loadPin rfl flatB_4 ?_
      refine SOps.boolNe rfl rfl boolTy_4 ?_
      refine SOps.assign rfl ?_
      refine SOps.nil ?_
      refine SCode.ret ?_
      exact ⟨_, Res.one (.tmp rfl), congrArg (fun b => DV.v (.bool b)) (by rw [admB, show hasC l.cls x.mask = true from beq_iff_eq.2 hb1, decide_eq_true hb2]; rfl), rfl⟩
    · try simp only [decide_eq_true_eq, decide_eq_false_iff_not, Bool.not_eq_true', Bool.not_eq_false', beq_iff_eq, bne_iff_ne, ne_eq, beq_eq_false_iff_ne, bne_eq_false_iff_eq, Int.not_lt, Int.not_le, Nat.not_lt, Nat.not_le, Int.ofNat_lt, Int.ofNat_le, Bool.not_eq_eq_eq_not, Bool.not_true, Bool.not_false] at hb2
      refine SOps.fieldPin rfl fieldB_56_1_1 ?_
      refine SOps.loadPin rfl flatB_9 ?_
      refine SOps.fieldPin rfl fieldB_69_0_0 ?_
      refine SOps.loadPin rfl flatB_21 ?_
      refine SOps.callP (qListed _ _) rfl ?_
      rintro _ rfl
      refine SOps.pick rfl rfl ?_
      refine SOps.pick rfl rfl ?_
      refine SOps.assign rfl ?_
      refine SOps.nil ?_
      refine SCode.seqR ?_
      refine SOps.move rfl ?_
      refine SOps.fieldPin rfl fieldB_56_2_2 ?_
      refine SOps.loadPin rfl flatB_4 ?_
      refine SOps.boolNe rfl rfl boolTy_4 ?_
      refine SOps.assign rfl ?_
      refine SOps.nil ?_
      refine SCode.ret ?_
      exact ⟨_, Res.one (.tmp rfl), congrArg (fun b => DV.v (.bool b)) (by rw [admB, show hasC l.cls x.mask = true from beq_iff_eq.2 hb1, decide_eq_false hb2]; rfl), rfl⟩
  · try simp only [decide_eq_true_eq, decide_eq_false_iff_not, Bool.not_eq_true', Bool.not_eq_false', beq_iff_eq, bne_iff_ne, ne_eq, beq_eq_false_iff_ne, bne_eq_false_iff_eq, Int.not_lt, Int.not_le, Nat.not_lt, Nat.not_le, Int.ofNat_lt, Int.ofNat_le, Bool.not_eq_eq_eq_not, Bool.not_true, Bool.not_false] at hb1
    refine SOps.skip rfl ?_
    refine SOps.skip rfl ?_
    refine SOps.skip rfl ?_
    refine SOps.skip rfl ?_
    refine SOps.skip rfl ?_
    refine SOps.skip rfl ?_
    refine SOps.skip rfl ?_
    refine SOps.skip rfl ?_
    refine SOps.skip rfl ?_
    refine SOps.skip rfl ?_
    refine SOps.pick rfl rfl ?_
    refine SOps.assign rfl ?_
    refine SOps.nil ?_
    refine SCode.seqR ?_
    refine SOps.move rfl ?_
    refine SOps.fieldPin rfl fieldB_56_2_2 ?_
    refine SOps.loadPin rfl flatB_4 ?_
    refine SOps.boolNe rfl rfl boolTy_4 ?_
    refine SOps.assign rfl ?_
    refine SOps.nil ?_
    refine SCode.ret ?_
    exact ⟨_, Res.one (.tmp rfl), congrArg (fun b => DV.v (.bool b)) (by rw [admB, show hasC l.cls x.mask = false from beq_eq_false_iff_ne.2 hb1]; rfl), rfl⟩
theorem qAll (a : List Letter) (x : Item) (w : List Nat) (hw : ∀ c ∈ w, c < a.length) : GCall Tryd.prog E 55 [DLs a, .agg (encIt x), DNats w] [] (fun d H => d = .v (.bool (w.all (fun c => admF a x c))) ∧ H = []) := by
  refine GCall.body (C := ⟨Tryd.prog, E, true⟩) Tryd.func55 rfl (fun _ => rfl) (by kernel_rfl) rfl ?_
  refine SCode.seqR ?_
  refine SOps.boxAM rfl rfl ?_
  refine SOps.assign rfl ?_
  refine SOps.nil ?_
  refine SCode.seq ?_
  refine SCode.seqR ?_
  refine SOps.assign rfl ?_
  refine SOps.nil ?_
  refine SCode.block ?_
  refine SCode.loop1 (fun (i : Nat) => (⟨24, [(0, DLs a), (2, DNats w), (4, .ipin (encIt x)), (7, .v (.int .i64 (i : Int)))], []⟩ : St)) (fun (i : Nat) => i ≤ w.length ∧ ∀ c ∈ w.take i, admF a x c = true) (fun (i : Nat) => w.length - i) (0) (by simp) (St.Le.of ⟨(by first | rfl | (show some _ = some _; simp)), (by first | rfl | (show some _ = some _; simp)), (by first | rfl | (show some _ = some _; simp)), (by first | rfl | (show some _ = some _; simp)), trivial⟩ rfl (by first | rfl | (simp))) ?_
  rintro i ⟨hi, hf⟩
  refine SCode.fact (isl_len (t := 2) rfl) (fun hB => ?_)
  simp only [List.length_map, lenB] at hB
  refine SCode.seq ?_
  refine SCode.seqR ?_
  refine SOps.move rfl ?_
  refine SOps.move rfl ?_
  refine SOps.lenM rfl sliceB_39_3_1 ?_
  refine SOps.bin rfl rfl rfl ?_
  refine SOps.nil ?_
  refine SCode.cond rfl (fun hc1 => ?_) (fun hc1 => ?_)
  · try simp only [decide_eq_true_eq, decide_eq_false_iff_not, Bool.not_eq_true', Bool.not_eq_false', beq_iff_eq, bne_iff_ne, ne_eq, beq_eq_false_iff_ne, bne_eq_false_iff_eq, Int.not_lt, Int.not_le, Nat.not_lt, Nat.not_le, Int.ofNat_lt, Int.ofNat_le, Bool.not_eq_eq_eq_not, Bool.not_true, Bool.not_false] at hc1
    refine SCode.skip ?_
    show SCode _ _ _ _
    refine SCode.seq ?_
    refine SCode.block ?_
    refine SCode.seq ?_
    have hi4 : i < w.length := by omega
    have hci := hw _ (List.getElem_mem hi4)
    apply SCode.drawAuto mixed_ [14, 15, 16, 17, 18, 19, 20, 21, 22, 23] [[.inr 4], [.inr 0], [.inr 2], [.inr 7], [.inl 2, .inl 3], [.inl 4], [.inl 1, .inl 5], [.inl 6], [.inl 0, .inl 7], [.inl 8]]
    · kernel_rfl
    · kernel_rfl
    · apply DOk.cons 14 
      · rfl
      · exact (NeedIs.inr _ rfl NeedIs.nil)
      · intro rest
        refine SOps.loadPinA rfl aggB_56_4 (Nat.le_of_ble_eq_true rfl) ?_
        exact SOps.nil rfl
      apply DOk.cons 15 
      · rfl
      · exact (NeedIs.inr _ rfl NeedIs.nil)
      · intro rest
        refine SOps.move rfl ?_
        exact SOps.nil rfl
      apply DOk.cons 16 
      · rfl
      · exact (NeedIs.inr _ rfl NeedIs.nil)
      · intro rest
        refine SOps.move rfl ?_
        exact SOps.nil rfl
      apply DOk.cons 17 
      · rfl
      · exact (NeedIs.inr _ rfl NeedIs.nil)
      · intro rest
        refine SOps.move rfl ?_
        exact SOps.nil rfl
      apply DOk.cons 18 
      · rfl
      · exact (NeedIs.inl 1 _ _ rfl rfl (NeedIs.inl 0 _ _ rfl rfl NeedIs.nil))
      · intro rest
        refine SOps.indexM (i) rfl rfl sliceB_39_3_1 (by first | omega | (simp only [lenB]; omega)) (by first | omega | (simp only [lenB]; omega)) ?_
        exact SOps.nil rfl
      apply DOk.cons 19 
      · rfl
      · exact (NeedIs.inl 0 _ _ rfl rfl NeedIs.nil)
      · intro rest
        refine SOps.loadPin rfl flatB_3 ?_
        exact SOps.nil rfl
      apply DOk.cons 20 
      · rfl
      · exact (NeedIs.inl 4 _ _ rfl rfl (NeedIs.inl 0 _ _ rfl rfl NeedIs.nil))
      · intro rest
        refine SOps.indexM (w[i]) rfl rfl sliceB_22_69_2 (by first | omega | (simp only [lenB]; omega)) (by first | omega | (simp only [lenB]; omega)) ?_
        exact SOps.nil rfl
      apply DOk.cons 21 
      · rfl
      · exact (NeedIs.inl 0 _ _ rfl rfl NeedIs.nil)
      · intro rest
        refine SOps.loadPinA rfl aggB_69_2 (Nat.le_of_ble_eq_true rfl) ?_
        exact SOps.nil rfl
      apply DOk.cons 22 
      · rfl
      · exact (NeedIs.inl 7 _ _ rfl rfl (NeedIs.inl 0 _ _ rfl rfl NeedIs.nil))
      · intro rest
        refine SOps.callP (qAdmits _ _) rfl ?_
        rintro _ rfl
        exact SOps.nil rfl
      apply DOk.cons 23 
      · rfl
      · exact (NeedIs.inl 0 _ _ rfl rfl NeedIs.nil)
      · intro rest
        refine SOps.un rfl rfl ?_
        exact SOps.nil rfl
      exact DOk.nil
    · rfl
    · show SCode _ _ _ _
      refine SCode.cond rfl (fun hc2 => ?_) (fun hc2 => ?_)
      · try simp only [decide_eq_true_eq, decide_eq_false_iff_not, Bool.not_eq_true', Bool.not_eq_false', beq_iff_eq, bne_iff_ne, ne_eq, beq_eq_false_iff_ne, bne_eq_false_iff_eq, Int.not_lt, Int.not_le, Nat.not_lt, Nat.not_le, Int.ofNat_lt, Int.ofNat_le, Bool.not_eq_eq_eq_not, Bool.not_true, Bool.not_false] at hc2
        refine SCode.seqR ?_
        refine SOps.assign rfl ?_
        refine SOps.nil ?_
        refine SCode.ret ?_
        exact ⟨_, Res.one (.tmp rfl), congrArg (fun b => DV.v (.bool b)) (Eq.symm (Bool.eq_false_iff.2 (fun h => by have := List.all_eq_true.1 h _ (List.getElem_mem hi4); rw [admF, atL_lt hci, hc2] at this; cases this))), rfl⟩
      · try simp only [decide_eq_true_eq, decide_eq_false_iff_not, Bool.not_eq_true', Bool.not_eq_false', beq_iff_eq, bne_iff_ne, ne_eq, beq_eq_false_iff_ne, bne_eq_false_iff_eq, Int.not_lt, Int.not_le, Nat.not_lt, Nat.not_le, Int.ofNat_lt, Int.ofNat_le, Bool.not_eq_eq_eq_not, Bool.not_true, Bool.not_false] at hc2
        refine SCode.skip ?_
        show SCode _ _ _ _
        refine SCode.region ?_
        refine SOps.move rfl ?_
        refine SOps.addI rfl rfl (by first | omega | (simp only [lenB]; omega)) (by first | omega | (simp only [lenB]; omega)) ?_
        refine SOps.assign rfl ?_
        refine SOps.nil ?_
        exact ⟨i + 1, by exact ⟨by omega, take_more hf hi4 (by rw [admF, atL_lt hci]; exact hc2)⟩, by omega, (St.Le.of ⟨(by first | rfl | (show some _ = some _; simp)), (by first | rfl | (show some _ = some _; simp)), (by first | rfl | (show some _ = some _; simp)), (by first | rfl | (show some _ = some _; simp)), trivial⟩ rfl (by first | rfl | (simp)))⟩
  · try simp only [decide_eq_true_eq, decide_eq_false_iff_not, Bool.not_eq_true', Bool.not_eq_false', beq_iff_eq, bne_iff_ne, ne_eq, beq_eq_false_iff_ne, bne_eq_false_iff_eq, Int.not_lt, Int.not_le, Nat.not_lt, Nat.not_le, Int.ofNat_lt, Int.ofNat_le, Bool.not_eq_eq_eq_not, Bool.not_true, Bool.not_false] at hc1
    refine SCode.exit ?_
    show SCode _ _ _ _
    refine SCode.seqR ?_
    refine SOps.assign rfl ?_
    refine SOps.nil ?_
    refine SCode.ret ?_
    exact ⟨_, Res.one (.tmp rfl), congrArg (fun b => DV.v (.bool b)) (Eq.symm (List.all_eq_true.2 (all_of (by omega) hf))), rfl⟩
theorem qMatches0 (a : List Letter) (w : List Nat)  : GCall Tryd.prog E 32 [DLs a, DIts [], DNats w] [] (fun d H => d = .v (.bool (M (admF a) [] w)) ∧ H = []) := by
  refine GCall.body (C := ⟨Tryd.prog, E, true⟩) Tryd.func32 rfl (fun _ => rfl) (by kernel_rfl) rfl ?_
  refine SCode.seqR ?_
  refine SOps.assign rfl ?_
  refine SOps.nil ?_
  refine SCode.seq ?_
  refine SCode.seqR ?_
  refine SOps.move rfl ?_
  refine SOps.lenM rfl sliceB_23_56_4 ?_
  refine SOps.bin rfl rfl rfl ?_
  refine SOps.nil ?_
  refine SCode.cond rfl (fun hc1 => ?_) (fun hc1 => ?_)
  · try simp only [decide_eq_true_eq, decide_eq_false_iff_not, Bool.not_eq_true', Bool.not_eq_false', beq_iff_eq, bne_iff_ne, ne_eq, beq_eq_false_iff_ne, bne_eq_false_iff_eq, Int.not_lt, Int.not_le, Nat.not_lt, Nat.not_le, Int.ofNat_lt, Int.ofNat_le, Bool.not_eq_eq_eq_not, Bool.not_true, Bool.not_false] at hc1
    refine SCode.seqR ?_
    refine SOps.move rfl ?_
    refine SOps.lenM rfl sliceB_39_3_1 ?_
    refine SOps.bin rfl rfl rfl ?_
    refine SOps.assign rfl ?_
    refine SOps.nil ?_
    refine SCode.ret ?_
    exact ⟨_, Res.one (.tmp rfl), congrArg (fun b => DV.v (.bool b)) (by cases w with | nil => rfl | cons c w0 => exact beq_eq_false_iff_ne.2 (by simp only [List.length_cons]; omega)), rfl⟩
  · try simp only [decide_eq_true_eq, decide_eq_false_iff_not, Bool.not_eq_true', Bool.not_eq_false', beq_iff_eq, bne_iff_ne, ne_eq, beq_eq_false_iff_ne, bne_eq_false_iff_eq, Int.not_lt, Int.not_le, Nat.not_lt, Nat.not_le, Int.ofNat_lt, Int.ofNat_le, Bool.not_eq_eq_eq_not, Bool.not_true, Bool.not_false] at hc1
    exact absurd rfl hc1
theorem qMatches1 (a : List Letter) (x : Item) (q : List Item) (w : List Nat) (hw : ∀ c ∈ w, c < a.length) (hwl : w.length ≤ 1048576) (ih : ∀ (w1 : List Nat), (∀ c ∈ w1, c < a.length) → w1.length ≤ 1048576 → GCall Tryd.prog E 32 [DLs a, DIts q, DNats w1] [] (fun d H => d = .v (.bool (M (admF a) q w1)) ∧ H = [])) : GCall Tryd.prog E 32 [DLs a, DIts (x :: q), DNats w] [] (fun d H => d = .v (.bool (M (admF a) (x :: q) w)) ∧ H = []) := by
  refine GCall.body (C := ⟨Tryd.prog, E, true⟩) Tryd.func32 rfl (fun _ => rfl) (by kernel_rfl) rfl ?_
  refine SCode.seqR ?_
  refine SOps.assign rfl ?_
  refine SOps.nil ?_
  refine SCode.seq ?_
  refine SCode.seqR ?_
  refine SOps.move rfl ?_
  refine SOps.lenM rfl sliceB_23_56_4 ?_
  refine SOps.bin rfl rfl rfl ?_
  refine SOps.nil ?_
  refine SCode.cond rfl (fun hc1 => ?_) (fun hc1 => ?_)
  · try simp only [decide_eq_true_eq, decide_eq_false_iff_not, Bool.not_eq_true', Bool.not_eq_false', beq_iff_eq, bne_iff_ne, ne_eq, beq_eq_false_iff_ne, bne_eq_false_iff_eq, Int.not_lt, Int.not_le, Nat.not_lt, Nat.not_le, Int.ofNat_lt, Int.ofNat_le, Bool.not_eq_eq_eq_not, Bool.not_true, Bool.not_false] at hc1
    exact absurd hc1 (by simp only [List.length_cons]; omega)
  · try simp only [decide_eq_true_eq, decide_eq_false_iff_not, Bool.not_eq_true', Bool.not_eq_false', beq_iff_eq, bne_iff_ne, ne_eq, beq_eq_false_iff_ne, bne_eq_false_iff_eq, Int.not_lt, Int.not_le, Nat.not_lt, Nat.not_le, Int.ofNat_lt, Int.ofNat_le, Bool.not_eq_eq_eq_not, Bool.not_true, Bool.not_false] at hc1
    refine SCode.skip ?_
    show SCode _ _ _ _
    refine SCode.seq ?_
    refine SCode.seqR ?_
    refine SOps.assign rfl ?_
    refine SOps.nil ?_
    refine SCode.block ?_
    refine SCode.loop1 (fun (i : Nat) => (⟨47, [(0, DLs a), (1, DIts (x :: q)), (2, DNats w), (7, .v (.int .i64 (i : Int)))], []⟩ : St)) (fun (i : Nat) => i ≤ w.length + 1 ∧ ∀ n, n < i → pieceB (admF a) x q w n = false) (fun (i : Nat) => w.length + 1 - i) (0) (by exact ⟨Nat.zero_le _, fun n h => absurd h (Nat.not_lt_zero _)⟩) (St.Le.of ⟨(by first | rfl | (show some _ = some _; simp)), (by first | rfl | (show some _ = some _; simp)), (by first | rfl | (show some _ = some _; simp)), (by first | rfl | (show some _ = some _; simp)), trivial⟩ rfl (by first | rfl | (simp))) ?_
    rintro i ⟨hi, hf⟩
    refine SCode.fact (isl_len (t := 2) rfl) (fun hB => ?_)
    simp only [List.length_map, lenB] at hB
    refine SCode.seq ?_
    refine SCode.seqR ?_
    refine SOps.move rfl ?_
    refine SOps.move rfl ?_
    refine SOps.lenM rfl sliceB_39_3_1 ?_
    refine SOps.bin rfl rfl rfl ?_
    refine SOps.nil ?_
    refine SCode.cond rfl (fun hc2 => ?_) (fun hc2 => ?_)
    · try simp only [decide_eq_true_eq, decide_eq_false_iff_not, Bool.not_eq_true', Bool.not_eq_false', beq_iff_eq, bne_iff_ne, ne_eq, beq_eq_false_iff_ne, bne_eq_false_iff_eq, Int.not_lt, Int.not_le, Nat.not_lt, Nat.not_le, Int.ofNat_lt, Int.ofNat_le, Bool.not_eq_eq_eq_not, Bool.not_true, Bool.not_false] at hc2
      refine SCode.skip ?_
      show SCode _ _ _ _
      refine SCode.seq ?_
      refine SCode.block ?_
      refine SCode.seq ?_
      have hi6 : i ≤ w.length := by omega
      rcases (show (x.rep = false ∧ ¬ i = 1) ∨ (x.rep = false ∧ i = 1 ∧ (w.take i).all (fun c => admF a x c) = false) ∨ (x.rep = false ∧ i = 1 ∧ (w.take i).all (fun c => admF a x c) = true) ∨ (x.rep = true ∧ (w.take i).all (fun c => admF a x c) = false) ∨ (x.rep = true ∧ (w.take i).all (fun c => admF a x c) = true) from by cases x.rep <;> cases (w.take i).all (fun c => admF a x c) <;> simp <;> omega) with ⟨hr, h1⟩ | ⟨hr, h1, ha⟩ | ⟨hr, h1, ha⟩ | ⟨hr, ha⟩ | ⟨hr, ha⟩
      · apply SCode.drawAuto mixed_ [20, 21, 22, 23, 24, 25, 26, 27, 28, 29, 30, 31, 32, 33, 34, 35, 36, 37, 38, 39, 40, 41, 42, 43, 44, 45, 46] [[.inr 1], [.inl 0], [.inl 1], [.inl 2], [.inl 3], [.inl 4, .inr 7], [.inl 4, .inl 5], [.inl 4, .inl 6], [.inl 7], [.inl 8], [.inl 8], [.inl 8], [.inl 8], [.inl 8], [.inl 8], [.inl 8], [.inl 8], [.inl 8, .inl 16], [.inl 17], [.inl 18], [.inl 18], [.inl 18], [.inl 18], [.inl 18], [.inl 18], [.inl 18], [.inl 18, .inl 25]]
        · kernel_rfl
        · kernel_rfl
        · apply DOk.cons 20 
          · rfl
          · exact (NeedIs.inr _ rfl NeedIs.nil)
          · intro rest
            refine SOps.move rfl ?_
            exact SOps.nil rfl
          apply DOk.cons 21 
          · rfl
          · exact (NeedIs.inl 0 _ _ rfl rfl NeedIs.nil)
          · intro rest
            refine SOps.indexM (0) rfl rfl sliceB_23_56_4 (by first | omega | (simp; done) | (simp only [List.length_cons]; omega)) (by first | omega | (simp; done) | (simp only [List.length_cons]; omega)) ?_
            exact SOps.nil rfl
          apply DOk.cons 22 
          · rfl
          · exact (NeedIs.inl 0 _ _ rfl rfl NeedIs.nil)
          · intro rest
            refine SOps.fieldPin rfl fieldB_56_3_3 ?_
            exact SOps.nil rfl
          apply DOk.cons 23 (.v (.bool false))
          · rfl
          · exact (NeedIs.inl 0 _ _ rfl rfl NeedIs.nil)
          · intro rest
            refine SOps.loadPin rfl flatB_4 ?_
            exact SOps.nil (congrArg (fun b => St.put _ 23 (.v (.bool b))) (hr))
          apply DOk.cons 24 
          · rfl
          · exact (NeedIs.inl 0 _ _ rfl rfl NeedIs.nil)
          · intro rest
            refine SOps.move rfl ?_
            exact SOps.nil rfl
          apply DOk.cons 25 
          · rfl
          · exact (NeedIs.inl 0 _ _ rfl rfl (NeedIs.inr _ rfl NeedIs.nil))
          · intro rest
            refine SOps.move rfl ?_
            exact SOps.nil rfl
          apply DOk.cons 26 (.v (.bool false))
          · rfl
          · exact (NeedIs.inl 1 _ _ rfl rfl (NeedIs.inl 0 _ _ rfl rfl NeedIs.nil))
          · intro rest
            refine SOps.bin rfl rfl rfl ?_
            exact SOps.nil (congrArg (fun b => St.put _ 26 (.v (.bool b))) (beq_eq_false_iff_ne.2 (by omega)))
          apply DOk.cons 27 
          · rfl
          · exact (NeedIs.inl 2 _ _ rfl rfl (NeedIs.inl 0 _ _ rfl rfl NeedIs.nil))
          · intro rest
            refine SOps.pick rfl rfl ?_
            exact SOps.nil rfl
          apply DOk.cons 28 
          · rfl
          · exact (NeedIs.inl 0 _ _ rfl rfl NeedIs.nil)
          · intro rest
            refine SOps.move rfl ?_
            exact SOps.nil rfl
          apply DOk.cons 29 
          · rfl
          · exact (NeedIs.inl 0 _ _ rfl rfl NeedIs.nil)
          · intro rest
            refine SOps.skip rfl ?_
            exact SOps.nil rfl
          apply DOk.cons 30 
          · rfl
          · exact (NeedIs.inl 1 _ _ rfl rfl NeedIs.nil)
          · intro rest
            refine SOps.skip rfl ?_
            exact SOps.nil rfl
          apply DOk.cons 31 
          · rfl
          · exact (NeedIs.inl 2 _ _ rfl rfl NeedIs.nil)
          · intro rest
            refine SOps.skip rfl ?_
            exact SOps.nil rfl
          apply DOk.cons 32 
          · rfl
          · exact (NeedIs.inl 3 _ _ rfl rfl NeedIs.nil)
          · intro rest
            refine SOps.skip rfl ?_
            exact SOps.nil rfl
          apply DOk.cons 33 
          · rfl
          · exact (NeedIs.inl 4 _ _ rfl rfl NeedIs.nil)
          · intro rest
            refine SOps.skip rfl ?_
            exact SOps.nil rfl
          apply DOk.cons 34 
          · rfl
          · exact (NeedIs.inl 5 _ _ rfl rfl NeedIs.nil)
          · intro rest
            refine SOps.skip rfl ?_
            exact SOps.nil rfl
          apply DOk.cons 35 
          · rfl
          · exact (NeedIs.inl 6 _ _ rfl rfl NeedIs.nil)
          · intro rest
            refine SOps.skip rfl ?_
            exact SOps.nil rfl
          apply DOk.cons 36 
          · rfl
          · exact (NeedIs.inl 7 _ _ rfl rfl NeedIs.nil)
          · intro rest
            refine SOps.skip rfl ?_
            exact SOps.nil rfl
          apply DOk.cons 37 
          · rfl
          · exact (NeedIs.inl 8 _ _ rfl rfl (NeedIs.inl 0 _ _ rfl rfl NeedIs.nil))
          · intro rest
            refine SOps.pick rfl rfl ?_
            exact SOps.nil rfl
          apply DOk.cons 38 
          · rfl
          · exact (NeedIs.inl 0 _ _ rfl rfl NeedIs.nil)
          · intro rest
            refine SOps.move rfl ?_
            exact SOps.nil rfl
          apply DOk.cons 39 
          · rfl
          · exact (NeedIs.inl 0 _ _ rfl rfl NeedIs.nil)
          · intro rest
            refine SOps.skip rfl ?_
            exact SOps.nil rfl
          apply DOk.cons 40 
          · rfl
          · exact (NeedIs.inl 1 _ _ rfl rfl NeedIs.nil)
          · intro rest
            refine SOps.skip rfl ?_
            exact SOps.nil rfl
          apply DOk.cons 41 
          · rfl
          · exact (NeedIs.inl 2 _ _ rfl rfl NeedIs.nil)
          · intro rest
            refine SOps.skip rfl ?_
            exact SOps.nil rfl
          apply DOk.cons 42 
          · rfl
          · exact (NeedIs.inl 3 _ _ rfl rfl NeedIs.nil)
          · intro rest
            refine SOps.skip rfl ?_
            exact SOps.nil rfl
          apply DOk.cons 43 
          · rfl
          · exact (NeedIs.inl 4 _ _ rfl rfl NeedIs.nil)
          · intro rest
            refine SOps.skip rfl ?_
            exact SOps.nil rfl
          apply DOk.cons 44 
          · rfl
          · exact (NeedIs.inl 5 _ _ rfl rfl NeedIs.nil)
          · intro rest
            refine SOps.skip rfl ?_
            exact SOps.nil rfl
          apply DOk.cons 45 
          · rfl
          · exact (NeedIs.inl 6 _ _ rfl rfl NeedIs.nil)
          · intro rest
            refine SOps.skip rfl ?_
            exact SOps.nil rfl
          apply DOk.cons 46 
          · rfl
          · exact (NeedIs.inl 7 _ _ rfl rfl (NeedIs.inl 0 _ _ rfl rfl NeedIs.nil))
          · intro rest
            refine SOps.pick rfl rfl ?_
            exact SOps.nil rfl
          exact DOk.nil
        · rfl
        · show SCode _ _ _ _
          refine SCode.cond rfl (fun h => by cases h) (fun _ => ?_)
          refine SCode.skip ?_
          show SCode _ _ _ _
          refine SCode.region ?_
          refine SOps.move rfl ?_
          refine SOps.addI rfl rfl (by first | omega | (simp; done) | (simp only [List.length_cons]; omega)) (by first | omega | (simp; done) | (simp only [List.length_cons]; omega)) ?_
          refine SOps.assign rfl ?_
          refine SOps.nil ?_
          exact ⟨i + 1, by exact ⟨by omega, fun n hn => by rcases Nat.lt_or_ge n i with h | h; exact hf n h; obtain rfl : n = i := (by omega); first | exact piece_no hr h1 | exact piece_all ha | exact (piece_M (.inl hr) ha).trans (by assumption) | exact (piece_M (.inr h1) ha).trans (by assumption)⟩, by omega, (St.Le.of ⟨(by first | rfl | (show some _ = some _; simp)), (by first | rfl | (show some _ = some _; simp)), (by first | rfl | (show some _ = some _; simp)), (by first | rfl | (show some _ = some _; simp)), trivial⟩ rfl (by first | rfl | (simp)))⟩
      · apply SCode.drawAuto mixed_ [20, 21, 22, 23, 24, 25, 26, 27, 28, 29, 30, 31, 32, 33, 34, 35, 36, 37, 38, 39, 40, 41, 42, 43, 44, 45, 46] [[.inr 1], [.inl 0], [.inl 1], [.inl 2], [.inl 3], [.inl 4, .inr 7], [.inl 4, .inl 5], [.inl 4, .inl 6], [.inl 7], [.inl 8, .inr 0], [.inl 8, .inr 1], [.inl 8, .inl 10], [.inl 8, .inl 11], [.inl 8, .inr 2], [.inl 8, .inr 7], [.inl 8, .inl 13, .inl 14], [.inl 8, .inl 9, .inl 12, .inl 15], [.inl 8, .inl 16], [.inl 17], [.inl 18], [.inl 18], [.inl 18], [.inl 18], [.inl 18], [.inl 18], [.inl 18], [.inl 18, .inl 25]]
        · kernel_rfl
        · kernel_rfl
        · apply DOk.cons 20 
          · rfl
          · exact (NeedIs.inr _ rfl NeedIs.nil)
          · intro rest
            refine SOps.move rfl ?_
            exact SOps.nil rfl
          apply DOk.cons 21 
          · rfl
          · exact (NeedIs.inl 0 _ _ rfl rfl NeedIs.nil)
          · intro rest
            refine SOps.indexM (0) rfl rfl sliceB_23_56_4 (by first | omega | (simp; done) | (simp only [List.length_cons]; omega)) (by first | omega | (simp; done) | (simp only [List.length_cons]; omega)) ?_
            exact SOps.nil rfl
          apply DOk.cons 22 
          · rfl
          · exact (NeedIs.inl 0 _ _ rfl rfl NeedIs.nil)
          · intro rest
            refine SOps.fieldPin rfl fieldB_56_3_3 ?_
            exact SOps.nil rfl
          apply DOk.cons 23 (.v (.bool false))
          · rfl
          · exact (NeedIs.inl 0 _ _ rfl rfl NeedIs.nil)
          · intro rest
            refine SOps.loadPin rfl flatB_4 ?_
            exact SOps.nil (congrArg (fun b => St.put _ 23 (.v (.bool b))) (hr))
          apply DOk.cons 24 
          · rfl
          · exact (NeedIs.inl 0 _ _ rfl rfl NeedIs.nil)
          · intro rest
            refine SOps.move rfl ?_
            exact SOps.nil rfl
          apply DOk.cons 25 
          · rfl
          · exact (NeedIs.inl 0 _ _ rfl rfl (NeedIs.inr _ rfl NeedIs.nil))
          · intro rest
            refine SOps.move rfl ?_
            exact SOps.nil rfl
          apply DOk.cons 26 (.v (.bool true))
          · rfl
          · exact (NeedIs.inl 1 _ _ rfl rfl (NeedIs.inl 0 _ _ rfl rfl NeedIs.nil))
          · intro rest
            refine SOps.bin rfl rfl rfl ?_
            exact SOps.nil (congrArg (fun b => St.put _ 26 (.v (.bool b))) (beq_iff_eq.2 (by omega)))
          apply DOk.cons 27 
          · rfl
          · exact (NeedIs.inl 2 _ _ rfl rfl (NeedIs.inl 0 _ _ rfl rfl NeedIs.nil))
          · intro rest
            refine SOps.pick rfl rfl ?_
            exact SOps.nil rfl
          apply DOk.cons 28 
          · rfl
          · exact (NeedIs.inl 0 _ _ rfl rfl NeedIs.nil)
          · intro rest
            refine SOps.move rfl ?_
            exact SOps.nil rfl
          apply DOk.cons 29 
          · rfl
          · exact (NeedIs.inl 0 _ _ rfl rfl (NeedIs.inr _ rfl NeedIs.nil))
          · intro rest
            refine SOps.move rfl ?_
            exact SOps.nil rfl
          apply DOk.cons 30 
          · rfl
          · exact (NeedIs.inl 1 _ _ rfl rfl (NeedIs.inr _ rfl NeedIs.nil))
          · intro rest
            refine SOps.move rfl ?_
            exact SOps.nil rfl
          apply DOk.cons 31 
          · rfl
          · exact (NeedIs.inl 2 _ _ rfl rfl (NeedIs.inl 0 _ _ rfl rfl NeedIs.nil))
          · intro rest
            refine SOps.indexM (0) rfl rfl sliceB_23_56_4 (by first | omega | (simp; done) | (simp only [List.length_cons]; omega)) (by first | omega | (simp; done) | (simp only [List.length_cons]; omega)) ?_
            exact SOps.nil rfl
          apply DOk.cons 32 
          · rfl
          · exact (NeedIs.inl 3 _ _ rfl rfl (NeedIs.inl 0 _ _ rfl rfl NeedIs.nil))
          · intro rest
            refine SOps.loadPinA rfl aggB_56_4 (Nat.le_of_ble_eq_true rfl) ?_
            exact SOps.nil rfl
          apply DOk.cons 33 
          · rfl
          · exact (NeedIs.inl 4 _ _ rfl rfl (NeedIs.inr _ rfl NeedIs.nil))
          · intro rest
            refine SOps.move rfl ?_
            exact SOps.nil rfl
          apply DOk.cons 34 
          · rfl
          · exact (NeedIs.inl 5 _ _ rfl rfl (NeedIs.inr _ rfl NeedIs.nil))
          · intro rest
            refine SOps.move rfl ?_
            exact SOps.nil rfl
          apply DOk.cons 35 
          · rfl
          · exact (NeedIs.inl 6 _ _ rfl rfl (NeedIs.inl 1 _ _ rfl rfl (NeedIs.inl 0 _ _ rfl rfl NeedIs.nil)))
          · intro rest
            refine SOps.sliceT (n1 := 0) (i) sliceB_39_3_1 rfl rfl (by first | omega | (simp; done) | (simp only [List.length_cons]; omega)) (by first | omega | (simp; done) | (simp only [List.length_cons]; omega)) ?_
            exact SOps.nil rfl
          apply DOk.cons 36 (.v (.bool false))
          · rfl
          · exact (NeedIs.inl 7 _ _ rfl rfl (NeedIs.inl 6 _ _ rfl rfl (NeedIs.inl 3 _ _ rfl rfl (NeedIs.inl 0 _ _ rfl rfl NeedIs.nil))))
          · intro rest
            refine SOps.callP (qAll a x (w.take i) (fun c hc => hw c (List.mem_of_mem_take hc))) rfl ?_
            rintro _ rfl
            exact SOps.nil (congrArg (fun b => St.put _ 36 (.v (.bool b))) (ha))
          apply DOk.cons 37 
          · rfl
          · exact (NeedIs.inl 8 _ _ rfl rfl (NeedIs.inl 0 _ _ rfl rfl NeedIs.nil))
          · intro rest
            refine SOps.pick rfl rfl ?_
            exact SOps.nil rfl
          apply DOk.cons 38 
          · rfl
          · exact (NeedIs.inl 0 _ _ rfl rfl NeedIs.nil)
          · intro rest
            refine SOps.move rfl ?_
            exact SOps.nil rfl
          apply DOk.cons 39 
          · rfl
          · exact (NeedIs.inl 0 _ _ rfl rfl NeedIs.nil)
          · intro rest
            refine SOps.skip rfl ?_
            exact SOps.nil rfl
          apply DOk.cons 40 
          · rfl
          · exact (NeedIs.inl 1 _ _ rfl rfl NeedIs.nil)
          · intro rest
            refine SOps.skip rfl ?_
            exact SOps.nil rfl
          apply DOk.cons 41 
          · rfl
          · exact (NeedIs.inl 2 _ _ rfl rfl NeedIs.nil)
          · intro rest
            refine SOps.skip rfl ?_
            exact SOps.nil rfl
          apply DOk.cons 42 
          · rfl
          · exact (NeedIs.inl 3 _ _ rfl rfl NeedIs.nil)
          · intro rest
            refine SOps.skip rfl ?_
            exact SOps.nil rfl
          apply DOk.cons 43 
          · rfl
          · exact (NeedIs.inl 4 _ _ rfl rfl NeedIs.nil)
          · intro rest
            refine SOps.skip rfl ?_
            exact SOps.nil rfl
          apply DOk.cons 44 
          · rfl
          · exact (NeedIs.inl 5 _ _ rfl rfl NeedIs.nil)
          · intro rest
            refine SOps.skip rfl ?_
            exact SOps.nil rfl
          apply DOk.cons 45 
          · rfl
          · exact (NeedIs.inl 6 _ _ rfl rfl NeedIs.nil)
          · intro rest
            refine SOps.skip rfl ?_
            exact SOps.nil rfl
          apply DOk.cons 46 
          · rfl
          · exact (NeedIs.inl 7 _ _ rfl rfl (NeedIs.inl 0 _ _ rfl rfl NeedIs.nil))
          · intro rest
            refine SOps.pick rfl rfl ?_
            exact SOps.nil rfl
          exact DOk.nil
        · rfl
        · show SCode _ _ _ _
          refine SCode.cond rfl (fun h => by cases h) (fun _ => ?_)
          refine SCode.skip ?_
          show SCode _ _ _ _
          refine SCode.region ?_
          refine SOps.move rfl ?_
          refine SOps.addI rfl rfl (by first | omega | (simp; done) | (simp only [List.length_cons]; omega)) (by first | omega | (simp; done) | (simp only [List.length_cons]; omega)) ?_
          refine SOps.assign rfl ?_
          refine SOps.nil ?_
          exact ⟨i + 1, by exact ⟨by omega, fun n hn => by rcases Nat.lt_or_ge n i with h | h; exact hf n h; obtain rfl : n = i := (by omega); first | exact piece_no hr h1 | exact piece_all ha | exact (piece_M (.inl hr) ha).trans (by assumption) | exact (piece_M (.inr h1) ha).trans (by assumption)⟩, by omega, (St.Le.of ⟨(by first | rfl | (show some _ = some _; simp)), (by first | rfl | (show some _ = some _; simp)), (by first | rfl | (show some _ = some _; simp)), (by first | rfl | (show some _ = some _; simp)), trivial⟩ rfl (by first | rfl | (simp)))⟩
      · apply SCode.drawAuto mixed_ [20, 21, 22, 23, 24, 25, 26, 27, 28, 29, 30, 31, 32, 33, 34, 35, 36, 37, 38, 39, 40, 41, 42, 43, 44, 45, 46] [[.inr 1], [.inl 0], [.inl 1], [.inl 2], [.inl 3], [.inl 4, .inr 7], [.inl 4, .inl 5], [.inl 4, .inl 6], [.inl 7], [.inl 8, .inr 0], [.inl 8, .inr 1], [.inl 8, .inl 10], [.inl 8, .inl 11], [.inl 8, .inr 2], [.inl 8, .inr 7], [.inl 8, .inl 13, .inl 14], [.inl 8, .inl 9, .inl 12, .inl 15], [.inl 8, .inl 16], [.inl 17], [.inl 18, .inr 0], [.inl 18, .inr 1], [.inl 18, .inl 20], [.inl 18, .inr 2], [.inl 18, .inr 7], [.inl 18, .inl 22, .inl 23], [.inl 18, .inl 19, .inl 21, .inl 24], [.inl 18, .inl 25]]
        · kernel_rfl
        · kernel_rfl
        · apply DOk.cons 20 
          · rfl
          · exact (NeedIs.inr _ rfl NeedIs.nil)
          · intro rest
            refine SOps.move rfl ?_
            exact SOps.nil rfl
          apply DOk.cons 21 
          · rfl
          · exact (NeedIs.inl 0 _ _ rfl rfl NeedIs.nil)
          · intro rest
            refine SOps.indexM (0) rfl rfl sliceB_23_56_4 (by first | omega | (simp; done) | (simp only [List.length_cons]; omega)) (by first | omega | (simp; done) | (simp only [List.length_cons]; omega)) ?_
            exact SOps.nil rfl
          apply DOk.cons 22 
          · rfl
          · exact (NeedIs.inl 0 _ _ rfl rfl NeedIs.nil)
          · intro rest
            refine SOps.fieldPin rfl fieldB_56_3_3 ?_
            exact SOps.nil rfl
          apply DOk.cons 23 (.v (.bool false))
          · rfl
          · exact (NeedIs.inl 0 _ _ rfl rfl NeedIs.nil)
          · intro rest
            refine SOps.loadPin rfl flatB_4 ?_
            exact SOps.nil (congrArg (fun b => St.put _ 23 (.v (.bool b))) (hr))
          apply DOk.cons 24 
          · rfl
          · exact (NeedIs.inl 0 _ _ rfl rfl NeedIs.nil)
          · intro rest
            refine SOps.move rfl ?_
            exact SOps.nil rfl
          apply DOk.cons 25 
          · rfl
          · exact (NeedIs.inl 0 _ _ rfl rfl (NeedIs.inr _ rfl NeedIs.nil))
          · intro rest
            refine SOps.move rfl ?_
            exact SOps.nil rfl
          apply DOk.cons 26 (.v (.bool true))
          · rfl
          · exact (NeedIs.inl 1 _ _ rfl rfl (NeedIs.inl 0 _ _ rfl rfl NeedIs.nil))
          · intro rest
            refine SOps.bin rfl rfl rfl ?_
            exact SOps.nil (congrArg (fun b => St.put _ 26 (.v (.bool b))) (beq_iff_eq.2 (by omega)))
          apply DOk.cons 27 
          · rfl
          · exact (NeedIs.inl 2 _ _ rfl rfl (NeedIs.inl 0 _ _ rfl rfl NeedIs.nil))
          · intro rest
            refine SOps.pick rfl rfl ?_
            exact SOps.nil rfl
          apply DOk.cons 28 
          · rfl
          · exact (NeedIs.inl 0 _ _ rfl rfl NeedIs.nil)
          · intro rest
            refine SOps.move rfl ?_
            exact SOps.nil rfl
          apply DOk.cons 29 
          · rfl
          · exact (NeedIs.inl 0 _ _ rfl rfl (NeedIs.inr _ rfl NeedIs.nil))
          · intro rest
            refine SOps.move rfl ?_
            exact SOps.nil rfl
          apply DOk.cons 30 
          · rfl
          · exact (NeedIs.inl 1 _ _ rfl rfl (NeedIs.inr _ rfl NeedIs.nil))
          · intro rest
            refine SOps.move rfl ?_
            exact SOps.nil rfl
          apply DOk.cons 31 
          · rfl
          · exact (NeedIs.inl 2 _ _ rfl rfl (NeedIs.inl 0 _ _ rfl rfl NeedIs.nil))
          · intro rest
            refine SOps.indexM (0) rfl rfl sliceB_23_56_4 (by first | omega | (simp; done) | (simp only [List.length_cons]; omega)) (by first | omega | (simp; done) | (simp only [List.length_cons]; omega)) ?_
            exact SOps.nil rfl
          apply DOk.cons 32 
          · rfl
          · exact (NeedIs.inl 3 _ _ rfl rfl (NeedIs.inl 0 _ _ rfl rfl NeedIs.nil))
          · intro rest
            refine SOps.loadPinA rfl aggB_56_4 (Nat.le_of_ble_eq_true rfl) ?_
            exact SOps.nil rfl
          apply DOk.cons 33 
          · rfl
          · exact (NeedIs.inl 4 _ _ rfl rfl (NeedIs.inr _ rfl NeedIs.nil))
          · intro rest
            refine SOps.move rfl ?_
            exact SOps.nil rfl
          apply DOk.cons 34 
          · rfl
          · exact (NeedIs.inl 5 _ _ rfl rfl (NeedIs.inr _ rfl NeedIs.nil))
          · intro rest
            refine SOps.move rfl ?_
            exact SOps.nil rfl
          apply DOk.cons 35 
          · rfl
          · exact (NeedIs.inl 6 _ _ rfl rfl (NeedIs.inl 1 _ _ rfl rfl (NeedIs.inl 0 _ _ rfl rfl NeedIs.nil)))
          · intro rest
            refine SOps.sliceT (n1 := 0) (i) sliceB_39_3_1 rfl rfl (by first | omega | (simp; done) | (simp only [List.length_cons]; omega)) (by first | omega | (simp; done) | (simp only [List.length_cons]; omega)) ?_
            exact SOps.nil rfl
          apply DOk.cons 36 (.v (.bool true))
          · rfl
          · exact (NeedIs.inl 7 _ _ rfl rfl (NeedIs.inl 6 _ _ rfl rfl (NeedIs.inl 3 _ _ rfl rfl (NeedIs.inl 0 _ _ rfl rfl NeedIs.nil))))
          · intro rest
            refine SOps.callP (qAll a x (w.take i) (fun c hc => hw c (List.mem_of_mem_take hc))) rfl ?_
            rintro _ rfl
            exact SOps.nil (congrArg (fun b => St.put _ 36 (.v (.bool b))) (ha))
          apply DOk.cons 37 
          · rfl
          · exact (NeedIs.inl 8 _ _ rfl rfl (NeedIs.inl 0 _ _ rfl rfl NeedIs.nil))
          · intro rest
            refine SOps.pick rfl rfl ?_
            exact SOps.nil rfl
          apply DOk.cons 38 
          · rfl
          · exact (NeedIs.inl 0 _ _ rfl rfl NeedIs.nil)
          · intro rest
            refine SOps.move rfl ?_
            exact SOps.nil rfl
          apply DOk.cons 39 
          · rfl
          · exact (NeedIs.inl 0 _ _ rfl rfl (NeedIs.inr _ rfl NeedIs.nil))
          · intro rest
            refine SOps.move rfl ?_
            exact SOps.nil rfl
          apply DOk.cons 40 
          · rfl
          · exact (NeedIs.inl 1 _ _ rfl rfl (NeedIs.inr _ rfl NeedIs.nil))
          · intro rest
            refine SOps.move rfl ?_
            exact SOps.nil rfl
          apply DOk.cons 41 
          · rfl
          · exact (NeedIs.inl 2 _ _ rfl rfl (NeedIs.inl 0 _ _ rfl rfl NeedIs.nil))
          · intro rest
            refine SOps.sliceD (n1 := 0) (1) sliceB_23_56_4 rfl rfl (by first | omega | (simp; done) | (simp only [List.length_cons]; omega)) (by first | omega | (simp; done) | (simp only [List.length_cons]; omega)) ?_
            exact SOps.nil rfl
          apply DOk.cons 42 
          · rfl
          · exact (NeedIs.inl 3 _ _ rfl rfl (NeedIs.inr _ rfl NeedIs.nil))
          · intro rest
            refine SOps.move rfl ?_
            exact SOps.nil rfl
          apply DOk.cons 43 
          · rfl
          · exact (NeedIs.inl 4 _ _ rfl rfl (NeedIs.inr _ rfl NeedIs.nil))
          · intro rest
            refine SOps.move rfl ?_
            exact SOps.nil rfl
          apply DOk.cons 44 
          · rfl
          · exact (NeedIs.inl 5 _ _ rfl rfl (NeedIs.inl 1 _ _ rfl rfl (NeedIs.inl 0 _ _ rfl rfl NeedIs.nil)))
          · intro rest
            refine SOps.sliceD (n1 := 0) (i) sliceB_39_3_1 rfl rfl (by first | omega | (simp; done) | (simp only [List.length_cons]; omega)) (by first | omega | (simp; done) | (simp only [List.length_cons]; omega)) ?_
            exact SOps.nil rfl
          apply DOk.cons 45 
          · rfl
          · exact (NeedIs.inl 6 _ _ rfl rfl (NeedIs.inl 5 _ _ rfl rfl (NeedIs.inl 3 _ _ rfl rfl (NeedIs.inl 0 _ _ rfl rfl NeedIs.nil))))
          · intro rest
            refine SOps.callP (ih (w.drop i) (fun c hc => hw c (List.mem_of_mem_drop hc)) (by simp; omega)) rfl ?_
            rintro _ rfl
            exact SOps.nil rfl
          apply DOk.cons 46 
          · rfl
          · exact (NeedIs.inl 7 _ _ rfl rfl (NeedIs.inl 0 _ _ rfl rfl NeedIs.nil))
          · intro rest
            refine SOps.pick rfl rfl ?_
            exact SOps.nil rfl
          exact DOk.nil
        · rfl
        · show SCode _ _ _ _
          refine SCode.cond rfl (fun hc3 => ?_) (fun hc3 => ?_)
          · try simp only [decide_eq_true_eq, decide_eq_false_iff_not, Bool.not_eq_true', Bool.not_eq_false', beq_iff_eq, bne_iff_ne, ne_eq, beq_eq_false_iff_ne, bne_eq_false_iff_eq, Int.not_lt, Int.not_le, Nat.not_lt, Nat.not_le, Int.ofNat_lt, Int.ofNat_le, Bool.not_eq_eq_eq_not, Bool.not_true, Bool.not_false] at hc3
            refine SCode.seqR ?_
            refine SOps.assign rfl ?_
            refine SOps.nil ?_
            refine SCode.ret ?_
            exact ⟨_, Res.one (.tmp rfl), congrArg (fun b => DV.v (.bool b)) (Eq.symm (M_piece.2 ⟨i, by omega, by first | exact (piece_M (.inl hr) ha).trans (by assumption) | exact (piece_M (.inr h1) ha).trans (by assumption)⟩)), rfl⟩
          · try simp only [decide_eq_true_eq, decide_eq_false_iff_not, Bool.not_eq_true', Bool.not_eq_false', beq_iff_eq, bne_iff_ne, ne_eq, beq_eq_false_iff_ne, bne_eq_false_iff_eq, Int.not_lt, Int.not_le, Nat.not_lt, Nat.not_le, Int.ofNat_lt, Int.ofNat_le, Bool.not_eq_eq_eq_not, Bool.not_true, Bool.not_false] at hc3
            refine SCode.skip ?_
            show SCode _ _ _ _
            refine SCode.region ?_
            refine SOps.move rfl ?_
            refine SOps.addI rfl rfl (by first | omega | (simp; done) | (simp only [List.length_cons]; omega)) (by first | omega | (simp; done) | (simp only [List.length_cons]; omega)) ?_
            refine SOps.assign rfl ?_
            refine SOps.nil ?_
            exact ⟨i + 1, by exact ⟨by omega, fun n hn => by rcases Nat.lt_or_ge n i with h | h; exact hf n h; obtain rfl : n = i := (by omega); first | exact piece_no hr h1 | exact piece_all ha | exact (piece_M (.inl hr) ha).trans (by assumption) | exact (piece_M (.inr h1) ha).trans (by assumption)⟩, by omega, (St.Le.of ⟨(by first | rfl | (show some _ = some _; simp)), (by first | rfl | (show some _ = some _; simp)), (by first | rfl | (show some _ = some _; simp)), (by first | rfl | (show some _ = some _; simp)), trivial⟩ rfl (by first | rfl | (simp)))⟩
      · apply SCode.drawAuto mixed_ [20, 21, 22, 23, 24, 25, 26, 27, 28, 29, 30, 31, 32, 33, 34, 35, 36, 37, 38, 39, 40, 41, 42, 43, 44, 45, 46] [[.inr 1], [.inl 0], [.inl 1], [.inl 2], [.inl 3], [.inl 4], [.inl 4], [.inl 4, .inl 6], [.inl 7], [.inl 8, .inr 0], [.inl 8, .inr 1], [.inl 8, .inl 10], [.inl 8, .inl 11], [.inl 8, .inr 2], [.inl 8, .inr 7], [.inl 8, .inl 13, .inl 14], [.inl 8, .inl 9, .inl 12, .inl 15], [.inl 8, .inl 16], [.inl 17], [.inl 18], [.inl 18], [.inl 18], [.inl 18], [.inl 18], [.inl 18], [.inl 18], [.inl 18, .inl 25]]
        · kernel_rfl
        · kernel_rfl
        · apply DOk.cons 20 
          · rfl
          · exact (NeedIs.inr _ rfl NeedIs.nil)
          · intro rest
            refine SOps.move rfl ?_
            exact SOps.nil rfl
          apply DOk.cons 21 
          · rfl
          · exact (NeedIs.inl 0 _ _ rfl rfl NeedIs.nil)
          · intro rest
            refine SOps.indexM (0) rfl rfl sliceB_23_56_4 (by first | omega | (simp; done) | (simp only [List.length_cons]; omega)) (by first | omega | (simp; done) | (simp only [List.length_cons]; omega)) ?_
            exact SOps.nil rfl
          apply DOk.cons 22 
          · rfl
          · exact (NeedIs.inl 0 _ _ rfl rfl NeedIs.nil)
          · intro rest
            refine SOps.fieldPin rfl fieldB_56_3_3 ?_
            exact SOps.nil rfl
          apply DOk.cons 23 (.v (.bool true))
          · rfl
          · exact (NeedIs.inl 0 _ _ rfl rfl NeedIs.nil)
          · intro rest
            refine SOps.loadPin rfl flatB_4 ?_
            exact SOps.nil (congrArg (fun b => St.put _ 23 (.v (.bool b))) (hr))
          apply DOk.cons 24 
          · rfl
          · exact (NeedIs.inl 0 _ _ rfl rfl NeedIs.nil)
          · intro rest
            refine SOps.move rfl ?_
            exact SOps.nil rfl
          apply DOk.cons 25 
          · rfl
          · exact (NeedIs.inl 0 _ _ rfl rfl NeedIs.nil)
          · intro rest
            refine SOps.skip rfl ?_
            exact SOps.nil rfl
          apply DOk.cons 26 
          · rfl
          · exact (NeedIs.inl 1 _ _ rfl rfl NeedIs.nil)
          · intro rest
            refine SOps.skip rfl ?_
            exact SOps.nil rfl
          apply DOk.cons 27 
          · rfl
          · exact (NeedIs.inl 2 _ _ rfl rfl (NeedIs.inl 0 _ _ rfl rfl NeedIs.nil))
          · intro rest
            refine SOps.pick rfl rfl ?_
            exact SOps.nil rfl
          apply DOk.cons 28 
          · rfl
          · exact (NeedIs.inl 0 _ _ rfl rfl NeedIs.nil)
          · intro rest
            refine SOps.move rfl ?_
            exact SOps.nil rfl
          apply DOk.cons 29 
          · rfl
          · exact (NeedIs.inl 0 _ _ rfl rfl (NeedIs.inr _ rfl NeedIs.nil))
          · intro rest
            refine SOps.move rfl ?_
            exact SOps.nil rfl
          apply DOk.cons 30 
          · rfl
          · exact (NeedIs.inl 1 _ _ rfl rfl (NeedIs.inr _ rfl NeedIs.nil))
          · intro rest
            refine SOps.move rfl ?_
            exact SOps.nil rfl
          apply DOk.cons 31 
          · rfl
          · exact (NeedIs.inl 2 _ _ rfl rfl (NeedIs.inl 0 _ _ rfl rfl NeedIs.nil))
          · intro rest
            refine SOps.indexM (0) rfl rfl sliceB_23_56_4 (by first | omega | (simp; done) | (simp only [List.length_cons]; omega)) (by first | omega | (simp; done) | (simp only [List.length_cons]; omega)) ?_
            exact SOps.nil rfl
          apply DOk.cons 32 
          · rfl
          · exact (NeedIs.inl 3 _ _ rfl rfl (NeedIs.inl 0 _ _ rfl rfl NeedIs.nil))
          · intro rest
            refine SOps.loadPinA rfl aggB_56_4 (Nat.le_of_ble_eq_true rfl) ?_
            exact SOps.nil rfl
          apply DOk.cons 33 
          · rfl
          · exact (NeedIs.inl 4 _ _ rfl rfl (NeedIs.inr _ rfl NeedIs.nil))
          · intro rest
            refine SOps.move rfl ?_
            exact SOps.nil rfl
          apply DOk.cons 34 
          · rfl
          · exact (NeedIs.inl 5 _ _ rfl rfl (NeedIs.inr _ rfl NeedIs.nil))
          · intro rest
            refine SOps.move rfl ?_
            exact SOps.nil rfl
          apply DOk.cons 35 
          · rfl
          · exact (NeedIs.inl 6 _ _ rfl rfl (NeedIs.inl 1 _ _ rfl rfl (NeedIs.inl 0 _ _ rfl rfl NeedIs.nil)))
          · intro rest
            refine SOps.sliceT (n1 := 0) (i) sliceB_39_3_1 rfl rfl (by first | omega | (simp; done) | (simp only [List.length_cons]; omega)) (by first | omega | (simp; done) | (simp only [List.length_cons]; omega)) ?_
            exact SOps.nil rfl
          apply DOk.cons 36 (.v (.bool false))
          · rfl
          · exact (NeedIs.inl 7 _ _ rfl rfl (NeedIs.inl 6 _ _ rfl rfl (NeedIs.inl 3 _ _ rfl rfl (NeedIs.inl 0 _ _ rfl rfl NeedIs.nil))))
          · intro rest
            refine SOps.callP (qAll a x (w.take i) (fun c hc => hw c (List.mem_of_mem_take hc))) rfl ?_
            rintro _ rfl
            exact SOps.nil (congrArg (fun b => St.put _ 36 (.v (.bool b))) (ha))
          apply DOk.cons 37 
          · rfl
          · exact (NeedIs.inl 8 _ _ rfl rfl (NeedIs.inl 0 _ _ rfl rfl NeedIs.nil))
          · intro rest
            refine SOps.pick rfl rfl ?_
            exact SOps.nil rfl
          apply DOk.cons 38 
          · rfl
          · exact (NeedIs.inl 0 _ _ rfl rfl NeedIs.nil)
          · intro rest
            refine SOps.move rfl ?_
            exact SOps.nil rfl
          apply DOk.cons 39 
          · rfl
          · exact (NeedIs.inl 0 _ _ rfl rfl NeedIs.nil)
          · intro rest
            refine SOps.skip rfl ?_
            exact SOps.nil rfl
          apply DOk.cons 40 
          · rfl
          · exact (NeedIs.inl 1 _ _ rfl rfl NeedIs.nil)
          · intro rest
            refine SOps.skip rfl ?_
            exact SOps.nil rfl
          apply DOk.cons 41 
          · rfl
          · exact (NeedIs.inl 2 _ _ rfl rfl NeedIs.nil)
          · intro rest
            refine SOps.skip rfl ?_
            exact SOps.nil rfl
          apply DOk.cons 42 
          · rfl
          · exact (NeedIs.inl 3 _ _ rfl rfl NeedIs.nil)
          · intro rest
            refine SOps.skip rfl ?_
            exact SOps.nil rfl
          apply DOk.cons 43 
          · rfl
          · exact (NeedIs.inl 4 _ _ rfl rfl NeedIs.nil)
          · intro rest
            refine SOps.skip rfl ?_
            exact SOps.nil rfl
          apply DOk.cons 44 
          · rfl
          · exact (NeedIs.inl 5 _ _ rfl rfl NeedIs.nil)
          · intro rest
            refine SOps.skip rfl ?_
            exact SOps.nil rfl
          apply DOk.cons 45 
          · rfl
          · exact (NeedIs.inl 6 _ _ rfl rfl NeedIs.nil)
          · intro rest
            refine SOps.skip rfl ?_
            exact SOps.nil rfl
          apply DOk.cons 46 
          · rfl
          · exact (NeedIs.inl 7 _ _ rfl rfl (NeedIs.inl 0 _ _ rfl rfl NeedIs.nil))
          · intro rest
            refine SOps.pick rfl rfl ?_
            exact SOps.nil rfl
          exact DOk.nil
        · rfl
        · show SCode _ _ _ _
          refine SCode.cond rfl (fun h => by cases h) (fun _ => ?_)
          refine SCode.skip ?_
          show SCode _ _ _ _
          refine SCode.region ?_
          refine SOps.move rfl ?_
          refine SOps.addI rfl rfl (by first | omega | (simp; done) | (simp only [List.length_cons]; omega)) (by first | omega | (simp; done) | (simp only [List.length_cons]; omega)) ?_
          refine SOps.assign rfl ?_
          refine SOps.nil ?_
          exact ⟨i + 1, by exact ⟨by omega, fun n hn => by rcases Nat.lt_or_ge n i with h | h; exact hf n h; obtain rfl : n = i := (by omega); first | exact piece_no hr h1 | exact piece_all ha | exact (piece_M (.inl hr) ha).trans (by assumption) | exact (piece_M (.inr h1) ha).trans (by assumption)⟩, by omega, (St.Le.of ⟨(by first | rfl | (show some _ = some _; simp)), (by first | rfl | (show some _ = some _; simp)), (by first | rfl | (show some _ = some _; simp)), (by first | rfl | (show some _ = some _; simp)), trivial⟩ rfl (by first | rfl | (simp)))⟩
      · apply SCode.drawAuto mixed_ [20, 21, 22, 23, 24, 25, 26, 27, 28, 29, 30, 31, 32, 33, 34, 35, 36, 37, 38, 39, 40, 41, 42, 43, 44, 45, 46] [[.inr 1], [.inl 0], [.inl 1], [.inl 2], [.inl 3], [.inl 4], [.inl 4], [.inl 4, .inl 6], [.inl 7], [.inl 8, .inr 0], [.inl 8, .inr 1], [.inl 8, .inl 10], [.inl 8, .inl 11], [.inl 8, .inr 2], [.inl 8, .inr 7], [.inl 8, .inl 13, .inl 14], [.inl 8, .inl 9, .inl 12, .inl 15], [.inl 8, .inl 16], [.inl 17], [.inl 18, .inr 0], [.inl 18, .inr 1], [.inl 18, .inl 20], [.inl 18, .inr 2], [.inl 18, .inr 7], [.inl 18, .inl 22, .inl 23], [.inl 18, .inl 19, .inl 21, .inl 24], [.inl 18, .inl 25]]
        · kernel_rfl
        · kernel_rfl
        · apply DOk.cons 20 
          · rfl
          · exact (NeedIs.inr _ rfl NeedIs.nil)
          · intro rest
            refine SOps.move rfl ?_
            exact SOps.nil rfl
          apply DOk.cons 21 
          · rfl
          · exact (NeedIs.inl 0 _ _ rfl rfl NeedIs.nil)
          · intro rest
            refine SOps.indexM (0) rfl rfl sliceB_23_56_4 (by first | omega | (simp; done) | (simp only [List.length_cons]; omega)) (by first | omega | (simp; done) | (simp only [List.length_cons]; omega)) ?_
            exact SOps.nil rfl
          apply DOk.cons 22 
          · rfl
          · exact (NeedIs.inl 0 _ _ rfl rfl NeedIs.nil)
          · intro rest
            refine SOps.fieldPin rfl fieldB_56_3_3 ?_
            exact SOps.nil rfl
          apply DOk.cons 23 (.v (.bool true))
          · rfl
          · exact (NeedIs.inl 0 _ _ rfl rfl NeedIs.nil)
          · intro rest
            refine SOps.loadPin rfl flatB_4 ?_
            exact SOps.nil (congrArg (fun b => St.put _ 23 (.v (.bool b))) (hr))
          apply DOk.cons 24 
          · rfl
          · exact (NeedIs.inl 0 _ _ rfl rfl NeedIs.nil)
          · intro rest
            refine SOps.move rfl ?_
            exact SOps.nil rfl
          apply DOk.cons 25 
          · rfl
          · exact (NeedIs.inl 0 _ _ rfl rfl NeedIs.nil)
          · intro rest
            refine SOps.skip rfl ?_
            exact SOps.nil rfl
          apply DOk.cons 26 
          · rfl
          · exact (NeedIs.inl 1 _ _ rfl rfl NeedIs.nil)
          · intro rest
            refine SOps.skip rfl ?_
            exact SOps.nil rfl
          apply DOk.cons 27 
          · rfl
          · exact (NeedIs.inl 2 _ _ rfl rfl (NeedIs.inl 0 _ _ rfl rfl NeedIs.nil))
          · intro rest
            refine SOps.pick rfl rfl ?_
            exact SOps.nil rfl
          apply DOk.cons 28 
          · rfl
          · exact (NeedIs.inl 0 _ _ rfl rfl NeedIs.nil)
          · intro rest
            refine SOps.move rfl ?_
            exact SOps.nil rfl
          apply DOk.cons 29 
          · rfl
          · exact (NeedIs.inl 0 _ _ rfl rfl (NeedIs.inr _ rfl NeedIs.nil))
          · intro rest
            refine SOps.move rfl ?_
            exact SOps.nil rfl
          apply DOk.cons 30 
          · rfl
          · exact (NeedIs.inl 1 _ _ rfl rfl (NeedIs.inr _ rfl NeedIs.nil))
          · intro rest
            refine SOps.move rfl ?_
            exact SOps.nil rfl
          apply DOk.cons 31 
          · rfl
          · exact (NeedIs.inl 2 _ _ rfl rfl (NeedIs.inl 0 _ _ rfl rfl NeedIs.nil))
          · intro rest
            refine SOps.indexM (0) rfl rfl sliceB_23_56_4 (by first | omega | (simp; done) | (simp only [List.length_cons]; omega)) (by first | omega | (simp; done) | (simp only [List.length_cons]; omega)) ?_
            exact SOps.nil rfl
          apply DOk.cons 32 
          · rfl
          · exact (NeedIs.inl 3 _ _ rfl rfl (NeedIs.inl 0 _ _ rfl rfl NeedIs.nil))
          · intro rest
            refine SOps.loadPinA rfl aggB_56_4 (Nat.le_of_ble_eq_true rfl) ?_
            exact SOps.nil rfl
          apply DOk.cons 33 
          · rfl
          · exact (NeedIs.inl 4 _ _ rfl rfl (NeedIs.inr _ rfl NeedIs.nil))
          · intro rest
            refine SOps.move rfl ?_
            exact SOps.nil rfl
          apply DOk.cons 34 
          · rfl
          · exact (NeedIs.inl 5 _ _ rfl rfl (NeedIs.inr _ rfl NeedIs.nil))
          · intro rest
            refine SOps.move rfl ?_
            exact SOps.nil rfl
          apply DOk.cons 35 
          · rfl
          · exact (NeedIs.inl 6 _ _ rfl rfl (NeedIs.inl 1 _ _ rfl rfl (NeedIs.inl 0 _ _ rfl rfl NeedIs.nil)))
          · intro rest
            refine SOps.sliceT (n1 := 0) (i) sliceB_39_3_1 rfl rfl (by first | omega | (simp; done) | (simp only [List.length_cons]; omega)) (by first | omega | (simp; done) | (simp only [List.length_cons]; omega)) ?_
            exact SOps.nil rfl
          apply DOk.cons 36 (.v (.bool true))
          · rfl
          · exact (NeedIs.inl 7 _ _ rfl rfl (NeedIs.inl 6 _ _ rfl rfl (NeedIs.inl 3 _ _ rfl rfl (NeedIs.inl 0 _ _ rfl rfl NeedIs.nil))))
          · intro rest
            refine SOps.callP (qAll a x (w.take i) (fun c hc => hw c (List.mem_of_mem_take hc))) rfl ?_
            rintro _ rfl
            exact SOps.nil (congrArg (fun b => St.put _ 36 (.v (.bool b))) (ha))
          apply DOk.cons 37 
          · rfl
          · exact (NeedIs.inl 8 _ _ rfl rfl (NeedIs.inl 0 _ _ rfl rfl NeedIs.nil))
          · intro rest
            refine SOps.pick rfl rfl ?_
            exact SOps.nil rfl
          apply DOk.cons 38 
          · rfl
          · exact (NeedIs.inl 0 _ _ rfl rfl NeedIs.nil)
          · intro rest
            refine SOps.move rfl ?_
            exact SOps.nil rfl
          apply DOk.cons 39 
          · rfl
          · exact (NeedIs.inl 0 _ _ rfl rfl (NeedIs.inr _ rfl NeedIs.nil))
          · intro rest
            refine SOps.move rfl ?_
            exact SOps.nil rfl
          apply DOk.cons 40 
          · rfl
          · exact (NeedIs.inl 1 _ _ rfl rfl (NeedIs.inr _ rfl NeedIs.nil))
          · intro rest
            refine SOps.move rfl ?_
            exact SOps.nil rfl
          apply DOk.cons 41 
          · rfl
          · exact (NeedIs.inl 2 _ _ rfl rfl (NeedIs.inl 0 _ _ rfl rfl NeedIs.nil))
          · intro rest
            refine SOps.sliceD (n1 := 0) (1) sliceB_23_56_4 rfl rfl (by first | omega | (simp; done) | (simp only [List.length_cons]; omega)) (by first | omega | (simp; done) | (simp only [List.length_cons]; omega)) ?_
            exact SOps.nil rfl
          apply DOk.cons 42 
          · rfl
          · exact (NeedIs.inl 3 _ _ rfl rfl (NeedIs.inr _ rfl NeedIs.nil))
          · intro rest
            refine SOps.move rfl ?_
            exact SOps.nil rfl
          apply DOk.cons 43 
          · rfl
          · exact (NeedIs.inl 4 _ _ rfl rfl (NeedIs.inr _ rfl NeedIs.nil))
          · intro rest
            refine SOps.move rfl ?_
            exact SOps.nil rfl
          apply DOk.cons 44 
          · rfl
          · exact (NeedIs.inl 5 _ _ rfl rfl (NeedIs.inl 1 _ _ rfl rfl (NeedIs.inl 0 _ _ rfl rfl NeedIs.nil)))
          · intro rest
            refine SOps.sliceD (n1 := 0) (i) sliceB_39_3_1 rfl rfl (by first | omega | (simp; done) | (simp only [List.length_cons]; omega)) (by first | omega | (simp; done) | (simp only [List.length_cons]; omega)) ?_
            exact SOps.nil rfl
          apply DOk.cons 45 
          · rfl
          · exact (NeedIs.inl 6 _ _ rfl rfl (NeedIs.inl 5 _ _ rfl rfl (NeedIs.inl 3 _ _ rfl rfl (NeedIs.inl 0 _ _ rfl rfl NeedIs.nil))))
          · intro rest
            refine SOps.callP (ih (w.drop i) (fun c hc => hw c (List.mem_of_mem_drop hc)) (by simp; omega)) rfl ?_
            rintro _ rfl
            exact SOps.nil rfl
          apply DOk.cons 46 
          · rfl
          · exact (NeedIs.inl 7 _ _ rfl rfl (NeedIs.inl 0 _ _ rfl rfl NeedIs.nil))
          · intro rest
            refine SOps.pick rfl rfl ?_
            exact SOps.nil rfl
          exact DOk.nil
        · rfl
        · show SCode _ _ _ _
          refine SCode.cond rfl (fun hc4 => ?_) (fun hc4 => ?_)
          · try simp only [decide_eq_true_eq, decide_eq_false_iff_not, Bool.not_eq_true', Bool.not_eq_false', beq_iff_eq, bne_iff_ne, ne_eq, beq_eq_false_iff_ne, bne_eq_false_iff_eq, Int.not_lt, Int.not_le, Nat.not_lt, Nat.not_le, Int.ofNat_lt, Int.ofNat_le, Bool.not_eq_eq_eq_not, Bool.not_true, Bool.not_false] at hc4
            refine SCode.seqR ?_
            refine SOps.assign rfl ?_
            refine SOps.nil ?_
            refine SCode.ret ?_
            exact ⟨_, Res.one (.tmp rfl), congrArg (fun b => DV.v (.bool b)) (Eq.symm (M_piece.2 ⟨i, by omega, by first | exact (piece_M (.inl hr) ha).trans (by assumption) | exact (piece_M (.inr h1) ha).trans (by assumption)⟩)), rfl⟩
          · try simp only [decide_eq_true_eq, decide_eq_false_iff_not, Bool.not_eq_true', Bool.not_eq_false', beq_iff_eq, bne_iff_ne, ne_eq, beq_eq_false_iff_ne, bne_eq_false_iff_eq, Int.not_lt, Int.not_le, Nat.not_lt, Nat.not_le, Int.ofNat_lt, Int.ofNat_le, Bool.not_eq_eq_eq_not, Bool.not_true, Bool.not_false] at hc4
            refine SCode.skip ?_
            show SCode _ _ _ _
            refine SCode.region ?_
            refine SOps.move rfl ?_
            refine SOps.addI rfl rfl (by first | omega | (simp; done) | (simp only [List.length_cons]; omega)) (by first | omega | (simp; done) | (simp only [List.length_cons]; omega)) ?_
            refine SOps.assign rfl ?_
            refine SOps.nil ?_
            exact ⟨i + 1, by exact ⟨by omega, fun n hn => by rcases Nat.lt_or_ge n i with h | h; exact hf n h; obtain rfl : n = i := (by omega); first | exact piece_no hr h1 | exact piece_all ha | exact (piece_M (.inl hr) ha).trans (by assumption) | exact (piece_M (.inr h1) ha).trans (by assumption)⟩, by omega, (St.Le.of ⟨(by first | rfl | (show some _ = some _; simp)), (by first | rfl | (show some _ = some _; simp)), (by first | rfl | (show some _ = some _; simp)), (by first | rfl | (show some _ = some _; simp)), trivial⟩ rfl (by first | rfl | (simp)))⟩
    · try simp only [decide_eq_true_eq, decide_eq_false_iff_not, Bool.not_eq_true', Bool.not_eq_false', beq_iff_eq, bne_iff_ne, ne_eq, beq_eq_false_iff_ne, bne_eq_false_iff_eq, Int.not_lt, Int.not_le, Nat.not_lt, Nat.not_le, Int.ofNat_lt, Int.ofNat_le, Bool.not_eq_eq_eq_not, Bool.not_true, Bool.not_false] at hc2
      refine SCode.exit ?_
      show SCode _ _ _ _
      refine SCode.seqR ?_
      refine SOps.assign rfl ?_
      refine SOps.nil ?_
      refine SCode.ret ?_
      exact ⟨_, Res.one (.tmp rfl), congrArg (fun b => DV.v (.bool b)) (Eq.symm (Bool.eq_false_iff.2 (fun h => by obtain ⟨n, h1, h2⟩ := M_piece.1 h; rw [hf n (by omega)] at h2; cases h2))), rfl⟩
theorem qMatches (a : List Letter) : ∀ (p : List Item) (w : List Nat), (∀ c ∈ w, c < a.length) → w.length ≤ 1048576 → GCall Tryd.prog E 32 [DLs a, DIts p, DNats w] [] (fun d H => d = .v (.bool (M (admF a) p w)) ∧ H = [])
  | [], w, _, _ => qMatches0 a w
  | x :: q, w, hw, hl => qMatches1 a x q w hw hl (fun w1 h1 h2 => qMatches a q w1 h1 h2)
end Go.GH
namespace Go.GH
open Go Go.Proofs
variable {E : Env}
theorem idxN_at {qs : List Nat} {t i : Nat} (h : i < qs.length) (e : qs[i] = t) (hf : ∀ q ∈ qs.take i, q ≠ t) : idxN qs t = some i := by
  unfold idxN
  rw [List.findIdx?_eq_some_iff_getElem]
  exact ⟨h, by simpa using e, fun j hj => by have := hf _ (List.mem_take_iff_getElem.2 ⟨j, by omega, rfl⟩); simpa using this⟩
theorem closedF_end {p : List Item} {k s : Nat} (h : p.length ≤ k) : closedF (p.drop k) k s = s := by rw [List.drop_eq_nil_of_le h]; rfl
theorem nextF_end {f : Item → Bool} {t : Nat} {p : List Item} {k s : Nat} (h : p.length ≤ k) : nextF f t (p.drop k) k s = s := by rw [List.drop_eq_nil_of_le h]; rfl
theorem qClose (p : List Item) (s : Nat) (hpl : p.length ≤ 1048576) : GCall Tryd.prog E 37 [DIts p, DBools (bitsL (p.length + 1) s)] [] (fun d H => d = DBools (bitsL (p.length + 1) (closedN p s)) ∧ H = []) := by
  refine GCall.body (C := ⟨Tryd.prog, E, true⟩) Tryd.func37 rfl (fun _ => rfl) (by kernel_rfl) rfl ?_
  refine SCode.seqR ?_
  refine SOps.assign rfl ?_
  refine SOps.nil ?_
  refine SCode.seqR ?_
  refine SOps.litO sliceB_25_4_1 zeroIs_4 rfl (fun b0 hb_0 => ?_)
  refine SOps.move rfl ?_
  refine SOps.appendOwn 0 sliceB_25_4_1 elemB_4_1_1 rfl rfl rfl (by simp) SrcD.isl (by simp [bitsL]) (by simp only [lenB, List.length_map, bitsL_len]; omega) (by simp only [List.length_map, bitsL_len]; omega) (fun b1 hb_1 => ?_)
  refine SOps.reSlot (t := 9) rfl (show _ = DV.sl b1 1 0 (p.length + 1) by simp only [List.length_map, bitsL_len, Nat.zero_add]) ?_
  refine SOps.assign rfl ?_
  refine SOps.nil ?_
  refine SCode.seq ?_
  refine SCode.seqR ?_
  refine SOps.assign rfl ?_
  refine SOps.nil ?_
  refine SCode.block ?_
  refine SCode.loop2 (fun (k : Nat) (c : Nat) => (⟨32, [(0, DIts p), (5, .sl b1 1 0 (p.length + 1)), (6, .v (.int .i64 (k : Int)))], [(b1, .row 4 1 ((bitsL (p.length + 1) c).map encB))]⟩ : St)) (fun (k : Nat) (c : Nat) => k ≤ p.length ∧ closedF (p.drop k) k c = closedN p s) (fun (k : Nat) (c : Nat) => p.length - k) (0) (s) (by exact ⟨Nat.zero_le _, rfl⟩) (St.Le.of ⟨(by first | rfl | (show some _ = some _; simp)), (by first | rfl | (show some _ = some _; simp)), (by first | rfl | (show some _ = some _; simp)), trivial⟩ rfl (by first | rfl | (simp))) ?_
  rintro k c ⟨hk, hf⟩
  refine SCode.seq ?_
  refine SCode.seqR ?_
  refine SOps.move rfl ?_
  refine SOps.move rfl ?_
  refine SOps.lenM rfl sliceB_23_56_4 ?_
  refine SOps.bin rfl rfl rfl ?_
  refine SOps.nil ?_
  refine SCode.cond rfl (fun hc1 => ?_) (fun hc1 => ?_)
  · try simp only [decide_eq_true_eq, decide_eq_false_iff_not, Bool.not_eq_true', Bool.not_eq_false', beq_iff_eq, bne_iff_ne, ne_eq, beq_eq_false_iff_ne, bne_eq_false_iff_eq, Int.not_lt, Int.not_le, Nat.not_lt, Nat.not_le, Int.ofNat_lt, Int.ofNat_le, Bool.not_eq_eq_eq_not, Bool.not_true, Bool.not_false] at hc1
    refine SCode.skip ?_
    show SCode _ _ _ _
    refine SCode.seq ?_
    refine SCode.block ?_
    refine SCode.seqR ?_
    have hkp : k < p.length := by omega
    have hbt := bitsL_at (n := p.length + 1) (s := c) (i := k) (by rw [bitsL_len]; omega)
    refine SOps.move rfl ?_
    refine SOps.move rfl ?_
    refine SOps.indexS (k) rfl rfl sliceB_25_4_1 (by first | omega | (simp only [lenB]; omega)) (by first | omega | (simp only [lenB]; omega)) ?_
    refine SOps.loadK 0 (k) rfl flatB_4 rfl (by first | omega | (simp only [lenB]; omega)) (by first | omega | (rw [bitsL_len]; omega) | (simp; done) | (simp; omega)) rfl ?_
    refine SOps.move rfl ?_
    refine SOps.caseB 20 rfl (fun hb2 => ?_) (fun hb2 => ?_)
    · try simp only [decide_eq_true_eq, decide_eq_false_iff_not, Bool.not_eq_true', Bool.not_eq_false', beq_iff_eq, bne_iff_ne, ne_eq, beq_eq_false_iff_ne, bne_eq_false_iff_eq, Int.not_lt, Int.not_le, Nat.not_lt, Nat.not_le, Int.ofNat_lt, Int.ofNat_le, Bool.not_eq_eq_eq_not, Bool.not_true, Bool.not_false] at hb2
      refine SOps.move rfl ?_
      refine SOps.move rfl ?_
      refine SOps.indexM (k) rfl rfl sliceB_23_56_4 (by first | omega | (simp only [lenB]; omega)) (by first | omega | (simp only [lenB]; omega)) ?_
      refine SOps.fieldPin rfl fieldB_56_3_3 ?_
      refine SOps.loadPin rfl flatB_4 ?_
      refine SOps.pick rfl rfl ?_
      refine SOps.nil ?_
      refine SCode.cond rfl (fun hc3 => ?_) (fun hc3 => ?_)
      · try simp only [decide_eq_true_eq, decide_eq_false_iff_not, Bool.not_eq_true', Bool.not_eq_false', beq_iff_eq, bne_iff_ne, ne_eq, beq_eq_false_iff_ne, bne_eq_false_iff_eq, Int.not_lt, Int.not_le, Nat.not_lt, Nat.not_le, Int.ofNat_lt, Int.ofNat_le, Bool.not_eq_eq_eq_not, Bool.not_true, Bool.not_false] at hc3
        refine SCode.region ?_
        refine SOps.move rfl ?_
        refine SOps.move rfl ?_
        refine SOps.addI rfl rfl (by first | omega | (simp only [lenB]; omega)) (by first | omega | (simp only [lenB]; omega)) ?_
        refine SOps.indexS ((k + 1)) rfl rfl sliceB_25_4_1 (by first | omega | (simp only [lenB]; omega)) (by first | omega | (simp only [lenB]; omega)) ?_
        refine SOps.storeK 0 ((k + 1)) rfl rfl oneB_4 rfl (by first | omega | (simp only [lenB]; omega)) (by first | omega | (rw [bitsL_len]; omega) | (simp; done) | (simp; omega)) rfl (fun _ => rfl) ?_
        refine SOps.nil ?_
        show SCode _ _ _ _
        refine SCode.region ?_
        refine SOps.move rfl ?_
        refine SOps.addI rfl rfl (by first | omega | (simp only [lenB]; omega)) (by first | omega | (simp only [lenB]; omega)) ?_
        refine SOps.assign rfl ?_
        refine SOps.nil ?_
        first
          | exact ⟨k + 1, c ||| 2 ^ (k + 1), ⟨by omega, by rw [← hf, drop_cons hkp, closedF_cons, if_pos (by rw [hc3, ← hbt, hb2]; rfl)]⟩, by omega, St.Le.of ⟨rfl, rfl, rfl, trivial⟩ rfl (by rw [← bitsL_set (show k + 1 < p.length + 1 by omega)]; rfl)⟩
          | exact ⟨k + 1, c, ⟨by omega, by rw [← hf, drop_cons hkp, closedF_cons, if_neg (by rw [hc3]; simp)]⟩, by omega, St.Le.of ⟨rfl, rfl, rfl, trivial⟩⟩
          | exact ⟨k + 1, c, ⟨by omega, by rw [← hf, drop_cons hkp, closedF_cons, if_neg (by rw [← hbt, hb2]; simp)]⟩, by omega, St.Le.of ⟨rfl, rfl, rfl, trivial⟩⟩
      · try simp only [decide_eq_true_eq, decide_eq_false_iff_not, Bool.not_eq_true', Bool.not_eq_false', beq_iff_eq, bne_iff_ne, ne_eq, beq_eq_false_iff_ne, bne_eq_false_iff_eq, Int.not_lt, Int.not_le, Nat.not_lt, Nat.not_le, Int.ofNat_lt, Int.ofNat_le, Bool.not_eq_eq_eq_not, Bool.not_true, Bool.not_false] at hc3
        refine SCode.skip ?_
        show SCode _ _ _ _
        refine SCode.region ?_
        refine SOps.move rfl ?_
        refine SOps.addI rfl rfl (by first | omega | (simp only [lenB]; omega)) (by first | omega | (simp only [lenB]; omega)) ?_
        refine SOps.assign rfl ?_
        refine SOps.nil ?_
        first
          | exact ⟨k + 1, c ||| 2 ^ (k + 1), ⟨by omega, by rw [← hf, drop_cons hkp, closedF_cons, if_pos (by rw [hc3, ← hbt, hb2]; rfl)]⟩, by omega, St.Le.of ⟨rfl, rfl, rfl, trivial⟩ rfl (by rw [← bitsL_set (show k + 1 < p.length + 1 by omega)]; rfl)⟩
          | exact ⟨k + 1, c, ⟨by omega, by rw [← hf, drop_cons hkp, closedF_cons, if_neg (by rw [hc3]; simp)]⟩, by omega, St.Le.of ⟨rfl, rfl, rfl, trivial⟩⟩
          | exact ⟨k + 1, c, ⟨by omega, by rw [← hf, drop_cons hkp, closedF_cons, if_neg (by rw [← hbt, hb2]; simp)]⟩, by omega, St.Le.of ⟨rfl, rfl, rfl, trivial⟩⟩
    · try simp only [decide_eq_true_eq, decide_eq_false_iff_not, Bool.not_eq_true', Bool.not_eq_false', beq_iff_eq, bne_iff_ne, ne_eq, beq_eq_false_iff_ne, bne_eq_false_iff_eq, Int.not_lt, Int.not_le, Nat.not_lt, Nat.not_le, Int.ofNat_lt, Int.ofNat_le, Bool.not_eq_eq_eq_not, Bool.not_true, Bool.not_false] at hb2
      refine SOps.skip rfl ?_
      refine SOps.skip rfl ?_
      refine SOps.skip rfl ?_
      refine SOps.skip rfl ?_
      refine SOps.skip rfl ?_
      refine SOps.pick rfl rfl ?_
      refine SOps.nil ?_
      refine SCode.cond rfl (fun h => by cases h) (fun _ => ?_)
      refine SCode.skip ?_
      show SCode _ _ _ _
      refine SCode.region ?_
      refine SOps.move rfl ?_
      refine SOps.addI rfl rfl (by first | omega | (simp only [lenB]; omega)) (by first | omega | (simp only [lenB]; omega)) ?_
      refine SOps.assign rfl ?_
      refine SOps.nil ?_
      first
        | exact ⟨k + 1, c ||| 2 ^ (k + 1), ⟨by omega, by rw [← hf, drop_cons hkp, closedF_cons, if_pos (by rw [hc3, ← hbt, hb2]; rfl)]⟩, by omega, St.Le.of ⟨rfl, rfl, rfl, trivial⟩ rfl (by rw [← bitsL_set (show k + 1 < p.length + 1 by omega)]; rfl)⟩
        | exact ⟨k + 1, c, ⟨by omega, by rw [← hf, drop_cons hkp, closedF_cons, if_neg (by rw [hc3]; simp)]⟩, by omega, St.Le.of ⟨rfl, rfl, rfl, trivial⟩⟩
        | exact ⟨k + 1, c, ⟨by omega, by rw [← hf, drop_cons hkp, closedF_cons, if_neg (by rw [← hbt, hb2]; simp)]⟩, by omega, St.Le.of ⟨rfl, rfl, rfl, trivial⟩⟩
  · try simp only [decide_eq_true_eq, decide_eq_false_iff_not, Bool.not_eq_true', Bool.not_eq_false', beq_iff_eq, bne_iff_ne, ne_eq, beq_eq_false_iff_ne, bne_eq_false_iff_eq, Int.not_lt, Int.not_le, Nat.not_lt, Nat.not_le, Int.ofNat_lt, Int.ofNat_le, Bool.not_eq_eq_eq_not, Bool.not_true, Bool.not_false] at hc1
    refine SCode.exit ?_
    show SCode _ _ _ _
    refine SCode.seqR ?_
    refine SOps.freezeS (t := 5) 0 rfl rfl rfl (by simp [bitsL_len]) ?_
    refine SOps.move rfl ?_
    refine SOps.assign rfl ?_
    refine SOps.nil ?_
    refine SCode.drop ?_
    refine SCode.ret ?_
    exact ⟨_, Res.one (.tmp rfl), by rw [← hf, closedF_end (by omega)], rfl⟩
theorem qFollow (p : List Item) (s : Nat) (l : Letter) (hpl : p.length ≤ 1048576) : GCall Tryd.prog E 38 [DIts p, DBools (bitsL (p.length + 1) s), .agg (encL l)] [] (fun d H => d = DBools (bitsL (p.length + 1) (stepN p (fun x => admB x l) s)) ∧ H = []) := by
  generalize hfd : (fun x => admB x l) = f
  refine GCall.body (C := ⟨Tryd.prog, E, true⟩) Tryd.func38 rfl (fun _ => rfl) (by kernel_rfl) rfl ?_
  refine SCode.seqR ?_
  refine SOps.boxAM rfl rfl ?_
  refine SOps.assign rfl ?_
  refine SOps.nil ?_
  refine SCode.seqR ?_
  refine SOps.move rfl ?_
  refine SOps.lenM rfl sliceB_23_56_4 ?_
  refine SOps.addI rfl rfl (by first | omega | (rw [bitsL_len]; omega) | (simp only [lenB]; omega)) (by first | omega | (rw [bitsL_len]; omega) | (simp only [lenB]; omega)) ?_
  refine SOps.makeK (f := encB) (p.length + 1) (false) sliceB_25_4_1 elemB_4_1_1 zeroIs_4 rfl rfl (by first | omega | (rw [bitsL_len]; omega) | (simp only [lenB]; omega)) (by first | omega | (rw [bitsL_len]; omega) | (simp only [lenB]; omega)) rfl (by first | omega | (rw [bitsL_len]; omega) | (simp only [lenB]; omega)) (by simp only [lenB]; omega) (fun b0 hb_0 => ?_)
  refine SOps.assign rfl ?_
  refine SOps.nil ?_
  refine SCode.seq ?_
  refine SCode.seqR ?_
  refine SOps.assign rfl ?_
  refine SOps.nil ?_
  refine SCode.block ?_
  refine SCode.loop2 (fun (k : Nat) (c : Nat) => (⟨48, [(0, DIts p), (1, DBools (bitsL (p.length + 1) s)), (5, .ipin (encL l)), (7, .sl b0 1 0 (p.length + 1)), (8, .v (.int .i64 (k : Int)))], [(b0, .row 4 1 ((bitsL (p.length + 1) c).map encB))]⟩ : St)) (fun (k : Nat) (c : Nat) => k ≤ p.length ∧ nextF f s (p.drop k) k c = nextF f s p 0 0) (fun (k : Nat) (c : Nat) => p.length - k) (0) (0) (by exact ⟨Nat.zero_le _, rfl⟩) (St.Le.of ⟨(by first | rfl | (show some _ = some _; simp)), (by first | rfl | (show some _ = some _; simp)), (by first | rfl | (show some _ = some _; simp)), (by first | rfl | (show some _ = some _; simp)), (by first | rfl | (show some _ = some _; simp)), trivial⟩ rfl (by first | rfl | ((rw [bitsL_zero]; rfl)))) ?_
  rintro k c ⟨hk, hf⟩
  refine SCode.seq ?_
  refine SCode.seqR ?_
  refine SOps.move rfl ?_
  refine SOps.move rfl ?_
  refine SOps.lenM rfl sliceB_23_56_4 ?_
  refine SOps.bin rfl rfl rfl ?_
  refine SOps.nil ?_
  refine SCode.cond rfl (fun hc1 => ?_) (fun hc1 => ?_)
  · try simp only [decide_eq_true_eq, decide_eq_false_iff_not, Bool.not_eq_true', Bool.not_eq_false', beq_iff_eq, bne_iff_ne, ne_eq, beq_eq_false_iff_ne, bne_eq_false_iff_eq, Int.not_lt, Int.not_le, Nat.not_lt, Nat.not_le, Int.ofNat_lt, Int.ofNat_le, Bool.not_eq_eq_eq_not, Bool.not_true, Bool.not_false] at hc1
    refine SCode.skip ?_
    show SCode _ _ _ _
    refine SCode.seq ?_
    refine SCode.block ?_
    refine SCode.seq ?_
    refine SCode.seq ?_
    have hkp : k < p.length := by omega
    have hbt := bitsL_at (n := p.length + 1) (s := s) (i := k) (by rw [bitsL_len]; omega)
    have hfe : admB (p[k]) l = f (p[k]) := by rw [← hfd]
    rcases (show s.testBit k = false ∨ (s.testBit k = true ∧ f (p[k]) = false) ∨ (s.testBit k = true ∧ f (p[k]) = true) from by cases s.testBit k <;> cases f (p[k]) <;> simp) with hsb | ⟨hsb, hfa⟩ | ⟨hsb, hfa⟩
    · apply SCode.drawAuto mixed_ [19, 20, 21, 22, 23, 24, 25, 26, 27, 28, 29, 30, 31, 32] [[.inr 1], [.inr 8], [.inl 0, .inl 1], [.inl 2], [.inl 3], [.inl 4], [.inl 5], [.inl 5], [.inl 5], [.inl 5], [.inl 5], [.inl 5], [.inl 5], [.inl 5, .inl 12]]
      · kernel_rfl
      · kernel_rfl
      · apply DOk.cons 19 
        · rfl
        · exact (NeedIs.inr _ rfl NeedIs.nil)
        · intro rest
          refine SOps.move rfl ?_
          exact SOps.nil rfl
        apply DOk.cons 20 
        · rfl
        · exact (NeedIs.inr _ rfl NeedIs.nil)
        · intro rest
          refine SOps.move rfl ?_
          exact SOps.nil rfl
        apply DOk.cons 21 
        · rfl
        · exact (NeedIs.inl 1 _ _ rfl rfl (NeedIs.inl 0 _ _ rfl rfl NeedIs.nil))
        · intro rest
          refine SOps.indexM (k) rfl rfl sliceB_25_4_1 (by first | omega | (rw [bitsL_len]; omega) | (simp only [lenB]; omega)) (by first | omega | (rw [bitsL_len]; omega) | (simp only [lenB]; omega)) ?_
          exact SOps.nil rfl
        apply DOk.cons 22 (.v (.bool false))
        · rfl
        · exact (NeedIs.inl 0 _ _ rfl rfl NeedIs.nil)
        · intro rest
          refine SOps.loadPin rfl flatB_4 ?_
          exact SOps.nil (congrArg (fun b => St.put _ 22 (.v (.bool b))) (hbt.trans hsb))
        apply DOk.cons 23 
        · rfl
        · exact (NeedIs.inl 0 _ _ rfl rfl NeedIs.nil)
        · intro rest
          refine SOps.un rfl rfl ?_
          exact SOps.nil rfl
        apply DOk.cons 24 
        · rfl
        · exact (NeedIs.inl 0 _ _ rfl rfl NeedIs.nil)
        · intro rest
          refine SOps.move rfl ?_
          exact SOps.nil rfl
        apply DOk.cons 25 
        · rfl
        · exact (NeedIs.inl 0 _ _ rfl rfl NeedIs.nil)
        · intro rest
          refine SOps.skip rfl ?_
          exact SOps.nil rfl
        apply DOk.cons 26 
        · rfl
        · exact (NeedIs.inl 1 _ _ rfl rfl NeedIs.nil)
        · intro rest
          refine SOps.skip rfl ?_
          exact SOps.nil rfl
        apply DOk.cons 27 
        · rfl
        · exact (NeedIs.inl 2 _ _ rfl rfl NeedIs.nil)
        · intro rest
          refine SOps.skip rfl ?_
          exact SOps.nil rfl
        apply DOk.cons 28 
        · rfl
        · exact (NeedIs.inl 3 _ _ rfl rfl NeedIs.nil)
        · intro rest
          refine SOps.skip rfl ?_
          exact SOps.nil rfl
        apply DOk.cons 29 
        · rfl
        · exact (NeedIs.inl 4 _ _ rfl rfl NeedIs.nil)
        · intro rest
          refine SOps.skip rfl ?_
          exact SOps.nil rfl
        apply DOk.cons 30 
        · rfl
        · exact (NeedIs.inl 5 _ _ rfl rfl NeedIs.nil)
        · intro rest
          refine SOps.skip rfl ?_
          exact SOps.nil rfl
        apply DOk.cons 31 
        · rfl
        · exact (NeedIs.inl 6 _ _ rfl rfl NeedIs.nil)
        · intro rest
          refine SOps.skip rfl ?_
          exact SOps.nil rfl
        apply DOk.cons 32 
        · rfl
        · exact (NeedIs.inl 7 _ _ rfl rfl (NeedIs.inl 0 _ _ rfl rfl NeedIs.nil))
        · intro rest
          refine SOps.pick rfl rfl ?_
          exact SOps.nil rfl
        exact DOk.nil
      · rfl
      · show SCode _ _ _ _
        refine SCode.cond rfl (fun _ => ?_) (fun h => by cases h)
        refine SCode.exit ?_
        show SCode _ _ _ _
        refine SCode.region ?_
        refine SOps.move rfl ?_
        refine SOps.addI rfl rfl (by first | omega | (rw [bitsL_len]; omega) | (simp only [lenB]; omega)) (by first | omega | (rw [bitsL_len]; omega) | (simp only [lenB]; omega)) ?_
        refine SOps.assign rfl ?_
        refine SOps.nil ?_
        first
          | exact ⟨k + 1, c ||| 2 ^ k, ⟨by omega, by rw [← hf, drop_cons hkp, nextF_cons, if_pos (by rw [hsb, hfa]; rfl), hc2, if_pos rfl]⟩, by omega, St.Le.of ⟨rfl, rfl, rfl, rfl, rfl, trivial⟩ rfl (by first | rfl | (rw [← bitsL_set (by omega)]; rfl))⟩
          | exact ⟨k + 1, c ||| 2 ^ (k + 1), ⟨by omega, by rw [← hf, drop_cons hkp, nextF_cons, if_pos (by rw [hsb, hfa]; rfl), hc2, if_neg (by decide)]⟩, by omega, St.Le.of ⟨rfl, rfl, rfl, rfl, rfl, trivial⟩ rfl (by first | rfl | (rw [← bitsL_set (by omega)]; rfl))⟩
          | exact ⟨k + 1, c, ⟨by omega, by rw [← hf, drop_cons hkp, nextF_cons, if_neg (by rw [hfa]; simp)]⟩, by omega, St.Le.of ⟨rfl, rfl, rfl, rfl, rfl, trivial⟩ rfl (by first | rfl | (rw [← bitsL_set (by omega)]; rfl))⟩
          | exact ⟨k + 1, c, ⟨by omega, by rw [← hf, drop_cons hkp, nextF_cons, if_neg (by rw [hsb]; simp)]⟩, by omega, St.Le.of ⟨rfl, rfl, rfl, rfl, rfl, trivial⟩ rfl (by first | rfl | (rw [← bitsL_set (by omega)]; rfl))⟩
    · apply SCode.drawAuto mixed_ [19, 20, 21, 22, 23, 24, 25, 26, 27, 28, 29, 30, 31, 32] [[.inr 1], [.inr 8], [.inl 0, .inl 1], [.inl 2], [.inl 3], [.inl 4], [.inl 5, .inr 0], [.inl 5, .inr 8], [.inl 5, .inl 6, .inl 7], [.inl 5, .inl 8], [.inl 5, .inr 5], [.inl 5, .inl 9, .inl 10], [.inl 5, .inl 11], [.inl 5, .inl 12]]
      · kernel_rfl
      · kernel_rfl
      · apply DOk.cons 19 
        · rfl
        · exact (NeedIs.inr _ rfl NeedIs.nil)
        · intro rest
          refine SOps.move rfl ?_
          exact SOps.nil rfl
        apply DOk.cons 20 
        · rfl
        · exact (NeedIs.inr _ rfl NeedIs.nil)
        · intro rest
          refine SOps.move rfl ?_
          exact SOps.nil rfl
        apply DOk.cons 21 
        · rfl
        · exact (NeedIs.inl 1 _ _ rfl rfl (NeedIs.inl 0 _ _ rfl rfl NeedIs.nil))
        · intro rest
          refine SOps.indexM (k) rfl rfl sliceB_25_4_1 (by first | omega | (rw [bitsL_len]; omega) | (simp only [lenB]; omega)) (by first | omega | (rw [bitsL_len]; omega) | (simp only [lenB]; omega)) ?_
          exact SOps.nil rfl
        apply DOk.cons 22 (.v (.bool true))
        · rfl
        · exact (NeedIs.inl 0 _ _ rfl rfl NeedIs.nil)
        · intro rest
          refine SOps.loadPin rfl flatB_4 ?_
          exact SOps.nil (congrArg (fun b => St.put _ 22 (.v (.bool b))) (hbt.trans hsb))
        apply DOk.cons 23 
        · rfl
        · exact (NeedIs.inl 0 _ _ rfl rfl NeedIs.nil)
        · intro rest
          refine SOps.un rfl rfl ?_
          exact SOps.nil rfl
        apply DOk.cons 24 
        · rfl
        · exact (NeedIs.inl 0 _ _ rfl rfl NeedIs.nil)
        · intro rest
          refine SOps.move rfl ?_
          exact SOps.nil rfl
        apply DOk.cons 25 
        · rfl
        · exact (NeedIs.inl 0 _ _ rfl rfl (NeedIs.inr _ rfl NeedIs.nil))
        · intro rest
          refine SOps.move rfl ?_
          exact SOps.nil rfl
        apply DOk.cons 26 
        · rfl
        · exact (NeedIs.inl 1 _ _ rfl rfl (NeedIs.inr _ rfl NeedIs.nil))
        · intro rest
          refine SOps.move rfl ?_
          exact SOps.nil rfl
        apply DOk.cons 27 
        · rfl
        · exact (NeedIs.inl 2 _ _ rfl rfl (NeedIs.inl 1 _ _ rfl rfl (NeedIs.inl 0 _ _ rfl rfl NeedIs.nil)))
        · intro rest
          refine SOps.indexM (k) rfl rfl sliceB_23_56_4 (by first | omega | (rw [bitsL_len]; omega) | (simp only [lenB]; omega)) (by first | omega | (rw [bitsL_len]; omega) | (simp only [lenB]; omega)) ?_
          exact SOps.nil rfl
        apply DOk.cons 28 
        · rfl
        · exact (NeedIs.inl 3 _ _ rfl rfl (NeedIs.inl 0 _ _ rfl rfl NeedIs.nil))
        · intro rest
          refine SOps.loadPinA rfl aggB_56_4 (Nat.le_of_ble_eq_true rfl) ?_
          exact SOps.nil rfl
        apply DOk.cons 29 
        · rfl
        · exact (NeedIs.inl 4 _ _ rfl rfl (NeedIs.inr _ rfl NeedIs.nil))
        · intro rest
          refine SOps.loadPinA rfl aggB_69_2 (Nat.le_of_ble_eq_true rfl) ?_
          exact SOps.nil rfl
        apply DOk.cons 30 (.v (.bool false))
        · rfl
        · exact (NeedIs.inl 5 _ _ rfl rfl (NeedIs.inl 1 _ _ rfl rfl (NeedIs.inl 0 _ _ rfl rfl NeedIs.nil)))
        · intro rest
          refine SOps.callP (qAdmits _ _) rfl ?_
          rintro _ rfl
          exact SOps.nil (congrArg (fun b => St.put _ 30 (.v (.bool b))) (hfe.trans hfa))
        apply DOk.cons 31 
        · rfl
        · exact (NeedIs.inl 6 _ _ rfl rfl (NeedIs.inl 0 _ _ rfl rfl NeedIs.nil))
        · intro rest
          refine SOps.un rfl rfl ?_
          exact SOps.nil rfl
        apply DOk.cons 32 
        · rfl
        · exact (NeedIs.inl 7 _ _ rfl rfl (NeedIs.inl 0 _ _ rfl rfl NeedIs.nil))
        · intro rest
          refine SOps.pick rfl rfl ?_
          exact SOps.nil rfl
        exact DOk.nil
      · rfl
      · show SCode _ _ _ _
        refine SCode.cond rfl (fun _ => ?_) (fun h => by cases h)
        refine SCode.exit ?_
        show SCode _ _ _ _
        refine SCode.region ?_
        refine SOps.move rfl ?_
        refine SOps.addI rfl rfl (by first | omega | (rw [bitsL_len]; omega) | (simp only [lenB]; omega)) (by first | omega | (rw [bitsL_len]; omega) | (simp only [lenB]; omega)) ?_
        refine SOps.assign rfl ?_
        refine SOps.nil ?_
        first
          | exact ⟨k + 1, c ||| 2 ^ k, ⟨by omega, by rw [← hf, drop_cons hkp, nextF_cons, if_pos (by rw [hsb, hfa]; rfl), hc2, if_pos rfl]⟩, by omega, St.Le.of ⟨rfl, rfl, rfl, rfl, rfl, trivial⟩ rfl (by first | rfl | (rw [← bitsL_set (by omega)]; rfl))⟩
          | exact ⟨k + 1, c ||| 2 ^ (k + 1), ⟨by omega, by rw [← hf, drop_cons hkp, nextF_cons, if_pos (by rw [hsb, hfa]; rfl), hc2, if_neg (by decide)]⟩, by omega, St.Le.of ⟨rfl, rfl, rfl, rfl, rfl, trivial⟩ rfl (by first | rfl | (rw [← bitsL_set (by omega)]; rfl))⟩
          | exact ⟨k + 1, c, ⟨by omega, by rw [← hf, drop_cons hkp, nextF_cons, if_neg (by rw [hfa]; simp)]⟩, by omega, St.Le.of ⟨rfl, rfl, rfl, rfl, rfl, trivial⟩ rfl (by first | rfl | (rw [← bitsL_set (by omega)]; rfl))⟩
          | exact ⟨k + 1, c, ⟨by omega, by rw [← hf, drop_cons hkp, nextF_cons, if_neg (by rw [hsb]; simp)]⟩, by omega, St.Le.of ⟨rfl, rfl, rfl, rfl, rfl, trivial⟩ rfl (by first | rfl | (rw [← bitsL_set (by omega)]; rfl))⟩
    · apply SCode.drawAuto mixed_ [19, 20, 21, 22, 23, 24, 25, 26, 27, 28, 29, 30, 31, 32] [[.inr 1], [.inr 8], [.inl 0, .inl 1], [.inl 2], [.inl 3], [.inl 4], [.inl 5, .inr 0], [.inl 5, .inr 8], [.inl 5, .inl 6, .inl 7], [.inl 5, .inl 8], [.inl 5, .inr 5], [.inl 5, .inl 9, .inl 10], [.inl 5, .inl 11], [.inl 5, .inl 12]]
      · kernel_rfl
      · kernel_rfl
      · apply DOk.cons 19 
        · rfl
        · exact (NeedIs.inr _ rfl NeedIs.nil)
        · intro rest
          refine SOps.move rfl ?_
          exact SOps.nil rfl
        apply DOk.cons 20 
        · rfl
        · exact (NeedIs.inr _ rfl NeedIs.nil)
        · intro rest
          refine SOps.move rfl ?_
          exact SOps.nil rfl
        apply DOk.cons 21 
        · rfl
        · exact (NeedIs.inl 1 _ _ rfl rfl (NeedIs.inl 0 _ _ rfl rfl NeedIs.nil))
        · intro rest
          refine SOps.indexM (k) rfl rfl sliceB_25_4_1 (by first | omega | (rw [bitsL_len]; omega) | (simp only [lenB]; omega)) (by first | omega | (rw [bitsL_len]; omega) | (simp only [lenB]; omega)) ?_
          exact SOps.nil rfl
        apply DOk.cons 22 (.v (.bool true))
        · rfl
        · exact (NeedIs.inl 0 _ _ rfl rfl NeedIs.nil)
        · intro rest
          refine SOps.loadPin rfl flatB_4 ?_
          exact SOps.nil (congrArg (fun b => St.put _ 22 (.v (.bool b))) (hbt.trans hsb))
        apply DOk.cons 23 
        · rfl
        · exact (NeedIs.inl 0 _ _ rfl rfl NeedIs.nil)
        · intro rest
          refine SOps.un rfl rfl ?_
          exact SOps.nil rfl
        apply DOk.cons 24 
        · rfl
        · exact (NeedIs.inl 0 _ _ rfl rfl NeedIs.nil)
        · intro rest
          refine SOps.move rfl ?_
          exact SOps.nil rfl
        apply DOk.cons 25 
        · rfl
        · exact (NeedIs.inl 0 _ _ rfl rfl (NeedIs.inr _ rfl NeedIs.nil))
        · intro rest
          refine SOps.move rfl ?_
          exact SOps.nil rfl
        apply DOk.cons 26 
        · rfl
        · exact (NeedIs.inl 1 _ _ rfl rfl (NeedIs.inr _ rfl NeedIs.nil))
        · intro rest
          refine SOps.move rfl ?_
          exact SOps.nil rfl
        apply DOk.cons 27 
        · rfl
        · exact (NeedIs.inl 2 _ _ rfl rfl (NeedIs.inl 1 _ _ rfl rfl (NeedIs.inl 0 _ _ rfl rfl NeedIs.nil)))
        · intro rest
          refine SOps.indexM (k) rfl rfl sliceB_23_56_4 (by first | omega | (rw [bitsL_len]; omega) | (simp only [lenB]; omega)) (by first | omega | (rw [bitsL_len]; omega) | (simp only [lenB]; omega)) ?_
          exact SOps.nil rfl
        apply DOk.cons 28 
        · rfl
        · exact (NeedIs.inl 3 _ _ rfl rfl (NeedIs.inl 0 _ _ rfl rfl NeedIs.nil))
        · intro rest
          refine SOps.loadPinA rfl aggB_56_4 (Nat.le_of_ble_eq_true rfl) ?_
          exact SOps.nil rfl
        apply DOk.cons 29 
        · rfl
        · exact (NeedIs.inl 4 _ _ rfl rfl (NeedIs.inr _ rfl NeedIs.nil))
        · intro rest
          refine SOps.loadPinA rfl aggB_69_2 (Nat.le_of_ble_eq_true rfl) ?_
          exact SOps.nil rfl
        apply DOk.cons 30 (.v (.bool true))
        · rfl
        · exact (NeedIs.inl 5 _ _ rfl rfl (NeedIs.inl 1 _ _ rfl rfl (NeedIs.inl 0 _ _ rfl rfl NeedIs.nil)))
        · intro rest
          refine SOps.callP (qAdmits _ _) rfl ?_
          rintro _ rfl
          exact SOps.nil (congrArg (fun b => St.put _ 30 (.v (.bool b))) (hfe.trans hfa))
        apply DOk.cons 31 
        · rfl
        · exact (NeedIs.inl 6 _ _ rfl rfl (NeedIs.inl 0 _ _ rfl rfl NeedIs.nil))
        · intro rest
          refine SOps.un rfl rfl ?_
          exact SOps.nil rfl
        apply DOk.cons 32 
        · rfl
        · exact (NeedIs.inl 7 _ _ rfl rfl (NeedIs.inl 0 _ _ rfl rfl NeedIs.nil))
        · intro rest
          refine SOps.pick rfl rfl ?_
          exact SOps.nil rfl
        exact DOk.nil
      · rfl
      · show SCode _ _ _ _
        refine SCode.cond rfl (fun h => by cases h) (fun _ => ?_)
        refine SCode.skip ?_
        show SCode _ _ _ _
        refine SCode.seqR ?_
        refine SOps.move rfl ?_
        refine SOps.move rfl ?_
        refine SOps.indexM (k) rfl rfl sliceB_23_56_4 (by first | omega | (rw [bitsL_len]; omega) | (simp only [lenB]; omega)) (by first | omega | (rw [bitsL_len]; omega) | (simp only [lenB]; omega)) ?_
        refine SOps.fieldPin rfl fieldB_56_3_3 ?_
        refine SOps.loadPin rfl flatB_4 ?_
        refine SOps.nil ?_
        refine SCode.cond rfl (fun hc2 => ?_) (fun hc2 => ?_)
        · try simp only [decide_eq_true_eq, decide_eq_false_iff_not, Bool.not_eq_true', Bool.not_eq_false', beq_iff_eq, bne_iff_ne, ne_eq, beq_eq_false_iff_ne, bne_eq_false_iff_eq, Int.not_lt, Int.not_le, Nat.not_lt, Nat.not_le, Int.ofNat_lt, Int.ofNat_le, Bool.not_eq_eq_eq_not, Bool.not_true, Bool.not_false] at hc2
          refine SCode.region ?_
          refine SOps.move rfl ?_
          refine SOps.move rfl ?_
          refine SOps.indexS (k) rfl rfl sliceB_25_4_1 (by first | omega | (rw [bitsL_len]; omega) | (simp only [lenB]; omega)) (by first | omega | (rw [bitsL_len]; omega) | (simp only [lenB]; omega)) ?_
          refine SOps.storeK 0 (k) rfl rfl oneB_4 rfl (by first | omega | (rw [bitsL_len]; omega) | (simp only [lenB]; omega)) (by first | omega | (rw [bitsL_len]; omega) | (simp; done) | (simp; omega)) rfl (fun _ => rfl) ?_
          refine SOps.nil ?_
          show SCode _ _ _ _
          refine SCode.region ?_
          refine SOps.move rfl ?_
          refine SOps.addI rfl rfl (by first | omega | (rw [bitsL_len]; omega) | (simp only [lenB]; omega)) (by first | omega | (rw [bitsL_len]; omega) | (simp only [lenB]; omega)) ?_
          refine SOps.assign rfl ?_
          refine SOps.nil ?_
          first
            | exact ⟨k + 1, c ||| 2 ^ k, ⟨by omega, by rw [← hf, drop_cons hkp, nextF_cons, if_pos (by rw [hsb, hfa]; rfl), hc2, if_pos rfl]⟩, by omega, St.Le.of ⟨rfl, rfl, rfl, rfl, rfl, trivial⟩ rfl (by first | rfl | (rw [← bitsL_set (by omega)]; rfl))⟩
            | exact ⟨k + 1, c ||| 2 ^ (k + 1), ⟨by omega, by rw [← hf, drop_cons hkp, nextF_cons, if_pos (by rw [hsb, hfa]; rfl), hc2, if_neg (by decide)]⟩, by omega, St.Le.of ⟨rfl, rfl, rfl, rfl, rfl, trivial⟩ rfl (by first | rfl | (rw [← bitsL_set (by omega)]; rfl))⟩
            | exact ⟨k + 1, c, ⟨by omega, by rw [← hf, drop_cons hkp, nextF_cons, if_neg (by rw [hfa]; simp)]⟩, by omega, St.Le.of ⟨rfl, rfl, rfl, rfl, rfl, trivial⟩ rfl (by first | rfl | (rw [← bitsL_set (by omega)]; rfl))⟩
            | exact ⟨k + 1, c, ⟨by omega, by rw [← hf, drop_cons hkp, nextF_cons, if_neg (by rw [hsb]; simp)]⟩, by omega, St.Le.of ⟨rfl, rfl, rfl, rfl, rfl, trivial⟩ rfl (by first | rfl | (rw [← bitsL_set (by omega)]; rfl))⟩
        · try simp only [decide_eq_true_eq, decide_eq_false_iff_not, Bool.not_eq_true', Bool.not_eq_false', beq_iff_eq, bne_iff_ne, ne_eq, beq_eq_false_iff_ne, bne_eq_false_iff_eq, Int.not_lt, Int.not_le, Nat.not_lt, Nat.not_le, Int.ofNat_lt, Int.ofNat_le, Bool.not_eq_eq_eq_not, Bool.not_true, Bool.not_false] at hc2
          refine SCode.region ?_
          refine SOps.move rfl ?_
          refine SOps.move rfl ?_
          refine SOps.addI rfl rfl (by first | omega | (rw [bitsL_len]; omega) | (simp only [lenB]; omega)) (by first | omega | (rw [bitsL_len]; omega) | (simp only [lenB]; omega)) ?_
          refine SOps.indexS ((k + 1)) rfl rfl sliceB_25_4_1 (by first | omega | (rw [bitsL_len]; omega) | (simp only [lenB]; omega)) (by first | omega | (rw [bitsL_len]; omega) | (simp only [lenB]; omega)) ?_
          refine SOps.storeK 0 ((k + 1)) rfl rfl oneB_4 rfl (by first | omega | (rw [bitsL_len]; omega) | (simp only [lenB]; omega)) (by first | omega | (rw [bitsL_len]; omega) | (simp; done) | (simp; omega)) rfl (fun _ => rfl) ?_
          refine SOps.nil ?_
          show SCode _ _ _ _
          refine SCode.region ?_
          refine SOps.move rfl ?_
          refine SOps.addI rfl rfl (by first | omega | (rw [bitsL_len]; omega) | (simp only [lenB]; omega)) (by first | omega | (rw [bitsL_len]; omega) | (simp only [lenB]; omega)) ?_
          refine SOps.assign rfl ?_
          refine SOps.nil ?_
          first
            | exact ⟨k + 1, c ||| 2 ^ k, ⟨by omega, by rw [← hf, drop_cons hkp, nextF_cons, if_pos (by rw [hsb, hfa]; rfl), hc2, if_pos rfl]⟩, by omega, St.Le.of ⟨rfl, rfl, rfl, rfl, rfl, trivial⟩ rfl (by first | rfl | (rw [← bitsL_set (by omega)]; rfl))⟩
            | exact ⟨k + 1, c ||| 2 ^ (k + 1), ⟨by omega, by rw [← hf, drop_cons hkp, nextF_cons, if_pos (by rw [hsb, hfa]; rfl), hc2, if_neg (by decide)]⟩, by omega, St.Le.of ⟨rfl, rfl, rfl, rfl, rfl, trivial⟩ rfl (by first | rfl | (rw [← bitsL_set (by omega)]; rfl))⟩
            | exact ⟨k + 1, c, ⟨by omega, by rw [← hf, drop_cons hkp, nextF_cons, if_neg (by rw [hfa]; simp)]⟩, by omega, St.Le.of ⟨rfl, rfl, rfl, rfl, rfl, trivial⟩ rfl (by first | rfl | (rw [← bitsL_set (by omega)]; rfl))⟩
            | exact ⟨k + 1, c, ⟨by omega, by rw [← hf, drop_cons hkp, nextF_cons, if_neg (by rw [hsb]; simp)]⟩, by omega, St.Le.of ⟨rfl, rfl, rfl, rfl, rfl, trivial⟩ rfl (by first | rfl | (rw [← bitsL_set (by omega)]; rfl))⟩
  · try simp only [decide_eq_true_eq, decide_eq_false_iff_not, Bool.not_eq_true', Bool.not_eq_false', beq_iff_eq, bne_iff_ne, ne_eq, beq_eq_false_iff_ne, bne_eq_false_iff_eq, Int.not_lt, Int.not_le, Nat.not_lt, Nat.not_le, Int.ofNat_lt, Int.ofNat_le, Bool.not_eq_eq_eq_not, Bool.not_true, Bool.not_false] at hc1
    refine SCode.exit ?_
    show SCode _ _ _ _
    refine SCode.seqR ?_
    refine SOps.freezeS (t := 7) 0 rfl rfl rfl (by simp [bitsL_len]) ?_
    refine SOps.move rfl ?_
    refine SOps.move rfl ?_
    refine SOps.callP (qClose p _ (by omega)) rfl ?_
    rintro _ rfl
    refine SOps.assign rfl ?_
    refine SOps.nil ?_
    refine SCode.drop ?_
    refine SCode.ret ?_
    exact ⟨_, Res.one (.tmp rfl), by rw [← hfd] at hf ⊢; rw [stepN, ← hf, nextF_end (by omega)], rfl⟩
theorem qSame (x y : List Bool) (hl : x.length = y.length) : GCall Tryd.prog E 59 [DBools x, DBools y] [] (fun d H => d = .v (.bool (decide (x = y))) ∧ H = []) := by
  refine GCall.body (C := ⟨Tryd.prog, E, true⟩) Tryd.func59 rfl (fun _ => rfl) (by kernel_rfl) rfl ?_
  refine SCode.seqR ?_
  refine SOps.assign rfl ?_
  refine SOps.nil ?_
  refine SCode.seq ?_
  refine SCode.seqR ?_
  refine SOps.assign rfl ?_
  refine SOps.nil ?_
  refine SCode.block ?_
  refine SCode.loop1 (fun (i : Nat) => (⟨21, [(0, DBools x), (1, DBools y), (5, .v (.int .i64 (i : Int)))], []⟩ : St)) (fun (i : Nat) => i ≤ x.length ∧ x.take i = y.take i) (fun (i : Nat) => x.length - i) (0) (by simp) (St.Le.of ⟨(by first | rfl | (show some _ = some _; simp)), (by first | rfl | (show some _ = some _; simp)), (by first | rfl | (show some _ = some _; simp)), trivial⟩ rfl (by first | rfl | (simp))) ?_
  rintro i ⟨hi, hf⟩
  refine SCode.fact (isl_len (t := 0) rfl) (fun hB => ?_)
  simp only [List.length_map, lenB] at hB
  refine SCode.seq ?_
  refine SCode.seqR ?_
  refine SOps.move rfl ?_
  refine SOps.move rfl ?_
  refine SOps.lenM rfl sliceB_25_4_1 ?_
  refine SOps.bin rfl rfl rfl ?_
  refine SOps.nil ?_
  refine SCode.cond rfl (fun hc1 => ?_) (fun hc1 => ?_)
  · try simp only [decide_eq_true_eq, decide_eq_false_iff_not, Bool.not_eq_true', Bool.not_eq_false', beq_iff_eq, bne_iff_ne, ne_eq, beq_eq_false_iff_ne, bne_eq_false_iff_eq, Int.not_lt, Int.not_le, Nat.not_lt, Nat.not_le, Int.ofNat_lt, Int.ofNat_le, Bool.not_eq_eq_eq_not, Bool.not_true, Bool.not_false] at hc1
    refine SCode.skip ?_
    show SCode _ _ _ _
    refine SCode.seq ?_
    refine SCode.block ?_
    refine SCode.seq ?_
    have hx : i < x.length := by omega
    have hy : i < y.length := by omega
    apply SCode.drawAuto mixed_ [12, 13, 14, 15, 16, 17, 18, 19, 20] [[.inr 0], [.inr 5], [.inl 0, .inl 1], [.inl 2], [.inr 1], [.inr 5], [.inl 4, .inl 5], [.inl 6], [.inl 3, .inl 7]]
    · kernel_rfl
    · kernel_rfl
    · apply DOk.cons 12 
      · rfl
      · exact (NeedIs.inr _ rfl NeedIs.nil)
      · intro rest
        refine SOps.move rfl ?_
        exact SOps.nil rfl
      apply DOk.cons 13 
      · rfl
      · exact (NeedIs.inr _ rfl NeedIs.nil)
      · intro rest
        refine SOps.move rfl ?_
        exact SOps.nil rfl
      apply DOk.cons 14 
      · rfl
      · exact (NeedIs.inl 1 _ _ rfl rfl (NeedIs.inl 0 _ _ rfl rfl NeedIs.nil))
      · intro rest
        refine SOps.indexM (i) rfl rfl sliceB_25_4_1 (by first | omega | (simp only [lenB]; omega)) (by first | omega | (simp only [lenB]; omega)) ?_
        exact SOps.nil rfl
      apply DOk.cons 15 
      · rfl
      · exact (NeedIs.inl 0 _ _ rfl rfl NeedIs.nil)
      · intro rest
        refine SOps.loadPin rfl flatB_4 ?_
        exact SOps.nil rfl
      apply DOk.cons 16 
      · rfl
      · exact (NeedIs.inr _ rfl NeedIs.nil)
      · intro rest
        refine SOps.move rfl ?_
        exact SOps.nil rfl
      apply DOk.cons 17 
      · rfl
      · exact (NeedIs.inr _ rfl NeedIs.nil)
      · intro rest
        refine SOps.move rfl ?_
        exact SOps.nil rfl
      apply DOk.cons 18 
      · rfl
      · exact (NeedIs.inl 1 _ _ rfl rfl (NeedIs.inl 0 _ _ rfl rfl NeedIs.nil))
      · intro rest
        refine SOps.indexM (i) rfl rfl sliceB_25_4_1 (by first | omega | (simp only [lenB]; omega)) (by first | omega | (simp only [lenB]; omega)) ?_
        exact SOps.nil rfl
      apply DOk.cons 19 
      · rfl
      · exact (NeedIs.inl 0 _ _ rfl rfl NeedIs.nil)
      · intro rest
        refine SOps.loadPin rfl flatB_4 ?_
        exact SOps.nil rfl
      apply DOk.cons 20 
      · rfl
      · exact (NeedIs.inl 4 _ _ rfl rfl (NeedIs.inl 0 _ _ rfl rfl NeedIs.nil))
      · intro rest
        refine SOps.boolNe rfl rfl boolTy_4 ?_
        exact SOps.nil rfl
      exact DOk.nil
    · rfl
    · show SCode _ _ _ _
      refine SCode.cond rfl (fun hc2 => ?_) (fun hc2 => ?_)
      · try simp only [decide_eq_true_eq, decide_eq_false_iff_not, Bool.not_eq_true', Bool.not_eq_false', beq_iff_eq, bne_iff_ne, ne_eq, beq_eq_false_iff_ne, bne_eq_false_iff_eq, Int.not_lt, Int.not_le, Nat.not_lt, Nat.not_le, Int.ofNat_lt, Int.ofNat_le, Bool.not_eq_eq_eq_not, Bool.not_true, Bool.not_false] at hc2
        refine SCode.seqR ?_
        refine SOps.assign rfl ?_
        refine SOps.nil ?_
        refine SCode.ret ?_
        exact ⟨_, Res.one (.tmp rfl), congrArg (fun b => DV.v (.bool b)) ((decide_eq_false (ne_of_getElem hx hy (by simpa using hc2))).symm), rfl⟩
      · try simp only [decide_eq_true_eq, decide_eq_false_iff_not, Bool.not_eq_true', Bool.not_eq_false', beq_iff_eq, bne_iff_ne, ne_eq, beq_eq_false_iff_ne, bne_eq_false_iff_eq, Int.not_lt, Int.not_le, Nat.not_lt, Nat.not_le, Int.ofNat_lt, Int.ofNat_le, Bool.not_eq_eq_eq_not, Bool.not_true, Bool.not_false] at hc2
        refine SCode.skip ?_
        show SCode _ _ _ _
        refine SCode.region ?_
        refine SOps.move rfl ?_
        refine SOps.addI rfl rfl (by first | omega | (simp only [lenB]; omega)) (by first | omega | (simp only [lenB]; omega)) ?_
        refine SOps.assign rfl ?_
        refine SOps.nil ?_
        exact ⟨i + 1, by exact ⟨by omega, take_eq_succ hx hy hf (by simpa using hc2)⟩, by omega, (St.Le.of ⟨(by first | rfl | (show some _ = some _; simp)), (by first | rfl | (show some _ = some _; simp)), (by first | rfl | (show some _ = some _; simp)), trivial⟩ rfl (by first | rfl | (simp)))⟩
  · try simp only [decide_eq_true_eq, decide_eq_false_iff_not, Bool.not_eq_true', Bool.not_eq_false', beq_iff_eq, bne_iff_ne, ne_eq, beq_eq_false_iff_ne, bne_eq_false_iff_eq, Int.not_lt, Int.not_le, Nat.not_lt, Nat.not_le, Int.ofNat_lt, Int.ofNat_le, Bool.not_eq_eq_eq_not, Bool.not_true, Bool.not_false] at hc1
    refine SCode.exit ?_
    show SCode _ _ _ _
    refine SCode.seqR ?_
    refine SOps.assign rfl ?_
    refine SOps.nil ?_
    refine SCode.ret ?_
    exact ⟨_, Res.one (.tmp rfl), congrArg (fun b => DV.v (.bool b)) ((decide_eq_true (take_full (by omega) (by omega) hf)).symm), rfl⟩
theorem qFind (p : List Item) (qs : List Nat) (bk t : Nat) (hqs : ∀ q ∈ qs, q < 2 ^ (p.length + 1)) (ht : t < 2 ^ (p.length + 1)) (hql : qs.length ≤ 1048576) : GCall Tryd.prog E 39 [.sl bk 1 0 qs.length, DBools (bitsL (p.length + 1) t)] [(bk, .row 25 1 (qs.map (fun q => [DBools (bitsL (p.length + 1) q)])))] (fun d H => d = .v (.int .i64 (idxO (idxN qs t))) ∧ H = [(bk, .row 25 1 (qs.map (fun q => [DBools (bitsL (p.length + 1) q)])))]) := by
  refine GCall.body (C := ⟨Tryd.prog, E, false⟩) Tryd.func39 rfl (fun h => by cases h) (by kernel_rfl) rfl ?_
  refine SCode.seqR ?_
  refine SOps.assign rfl ?_
  refine SOps.nil ?_
  refine SCode.seq ?_
  refine SCode.seqR ?_
  refine SOps.assign rfl ?_
  refine SOps.nil ?_
  refine SCode.block ?_
  refine SCode.loop1 (fun (i : Nat) => (⟨19, [(0, .sl bk 1 0 qs.length), (1, DBools (bitsL (p.length + 1) t)), (5, .v (.int .i64 (i : Int)))], [(bk, .row 25 1 (qs.map (fun q => [DBools (bitsL (p.length + 1) q)])))]⟩ : St)) (fun (i : Nat) => i ≤ qs.length ∧ ∀ q ∈ qs.take i, q ≠ t) (fun (i : Nat) => qs.length - i) (0) (by simp) (St.Le.of ⟨(by first | rfl | (show some _ = some _; simp)), (by first | rfl | (show some _ = some _; simp)), (by first | rfl | (show some _ = some _; simp)), trivial⟩ rfl (by first | rfl | (simp))) ?_
  rintro i ⟨hi, hf⟩
  refine SCode.seq ?_
  refine SCode.seqR ?_
  refine SOps.move rfl ?_
  refine SOps.move rfl ?_
  refine SOps.lenSl rfl sliceB_66_25_1 ?_
  refine SOps.bin rfl rfl rfl ?_
  refine SOps.nil ?_
  refine SCode.cond rfl (fun hc1 => ?_) (fun hc1 => ?_)
  · try simp only [decide_eq_true_eq, decide_eq_false_iff_not, Bool.not_eq_true', Bool.not_eq_false', beq_iff_eq, bne_iff_ne, ne_eq, beq_eq_false_iff_ne, bne_eq_false_iff_eq, Int.not_lt, Int.not_le, Nat.not_lt, Nat.not_le, Int.ofNat_lt, Int.ofNat_le, Bool.not_eq_eq_eq_not, Bool.not_true, Bool.not_false] at hc1
    refine SCode.skip ?_
    show SCode _ _ _ _
    refine SCode.seq ?_
    refine SCode.block ?_
    refine SCode.seqR ?_
    have hx : i < qs.length := by omega
    refine SOps.move rfl ?_
    refine SOps.move rfl ?_
    refine SOps.indexS (i) rfl rfl sliceB_66_25_1 (by first | omega | (simp only [lenB]; omega)) (by first | omega | (simp only [lenB]; omega)) ?_
    refine SOps.loadK 0 (i) rfl flatB_25 rfl (by first | omega | (simp only [lenB]; omega)) (by first | omega | (simp; done) | (simp; omega)) rfl ?_
    refine SOps.move rfl ?_
    refine SOps.callP (qSame _ _ (by rw [bitsL_len, bitsL_len])) rfl ?_
    rintro _ rfl
    refine SOps.nil ?_
    refine SCode.cond rfl (fun hc2 => ?_) (fun hc2 => ?_)
    · try simp only [decide_eq_true_eq, decide_eq_false_iff_not, Bool.not_eq_true', Bool.not_eq_false', beq_iff_eq, bne_iff_ne, ne_eq, beq_eq_false_iff_ne, bne_eq_false_iff_eq, Int.not_lt, Int.not_le, Nat.not_lt, Nat.not_le, Int.ofNat_lt, Int.ofNat_le, Bool.not_eq_eq_eq_not, Bool.not_true, Bool.not_false] at hc2
      refine SCode.seqR ?_
      refine SOps.move rfl ?_
      refine SOps.assign rfl ?_
      refine SOps.nil ?_
      refine SCode.ret ?_
      have he : qs[i] = t := bitsL_inj (hqs _ (List.getElem_mem hx)) ht hc2
      exact ⟨_, Res.one (.tmp rfl), by rw [idxN_at hx he hf]; rfl, rfl⟩
    · try simp only [decide_eq_true_eq, decide_eq_false_iff_not, Bool.not_eq_true', Bool.not_eq_false', beq_iff_eq, bne_iff_ne, ne_eq, beq_eq_false_iff_ne, bne_eq_false_iff_eq, Int.not_lt, Int.not_le, Nat.not_lt, Nat.not_le, Int.ofNat_lt, Int.ofNat_le, Bool.not_eq_eq_eq_not, Bool.not_true, Bool.not_false] at hc2
      refine SCode.skip ?_
      show SCode _ _ _ _
      refine SCode.region ?_
      refine SOps.move rfl ?_
      refine SOps.addI rfl rfl (by first | omega | (simp only [lenB]; omega)) (by first | omega | (simp only [lenB]; omega)) ?_
      refine SOps.assign rfl ?_
      refine SOps.nil ?_
      exact ⟨i + 1, ⟨by omega, take_more hf hx (fun e => hc2 (by rw [e]))⟩, by omega, St.Le.of ⟨rfl, rfl, rfl, trivial⟩⟩
  · try simp only [decide_eq_true_eq, decide_eq_false_iff_not, Bool.not_eq_true', Bool.not_eq_false', beq_iff_eq, bne_iff_ne, ne_eq, beq_eq_false_iff_ne, bne_eq_false_iff_eq, Int.not_lt, Int.not_le, Nat.not_lt, Nat.not_le, Int.ofNat_lt, Int.ofNat_le, Bool.not_eq_eq_eq_not, Bool.not_true, Bool.not_false] at hc1
    refine SCode.exit ?_
    show SCode _ _ _ _
    refine SCode.seqR ?_
    refine SOps.assign rfl ?_
    refine SOps.nil ?_
    refine SCode.ret ?_
    exact ⟨_, Res.one (.tmp rfl), by rw [idxN_none.2 (fun hm => all_of (by omega) hf t hm rfl)]; rfl, rfl⟩
end Go.GH
namespace Go.GH
open Go Go.Proofs
variable {E : Env}
theorem qAcceptor (a : List Letter) (p : List Item) (hp3 : p.length ≤ 3) (ha : a.length ≤ 65) : GCall Tryd.prog E 16 [DLs a, DIts p] [] (fun d H => d = .agg (encAcc (accR a p))) := by
  refine GCall.body (C := ⟨Tryd.prog, E, true⟩) Tryd.func16 rfl (fun _ => rfl) (by kernel_rfl) rfl ?_
  refine SCode.seqR ?_
  refine SOps.alloc (sz := 3) zeroIs_28 (fun b0 hb_0 => ?_)
  refine SOps.nil ?_
  refine SCode.seqR ?_
  refine SOps.move rfl ?_
  refine SOps.lenM rfl sliceB_23_56_4 ?_
  refine SOps.addI rfl rfl (by first | omega | (rw [bitsL_len]; omega) | (simp only [lenB]; omega)) (by first | omega | (rw [bitsL_len]; omega) | (simp only [lenB]; omega)) ?_
  refine SOps.makeK (f := encB) (p.length + 1) (false) sliceB_25_4_1 elemB_4_1_1 zeroIs_4 rfl rfl (by first | omega | (rw [bitsL_len]; omega) | (simp only [lenB]; omega)) (by first | omega | (rw [bitsL_len]; omega) | (simp only [lenB]; omega)) rfl (by first | omega | (rw [bitsL_len]; omega) | (simp only [lenB]; omega)) (by simp only [lenB]; omega) (fun b1 hb_1 => ?_)
  refine SOps.assign rfl ?_
  refine SOps.nil ?_
  refine SCode.seqR ?_
  refine SOps.move rfl ?_
  refine SOps.indexS (0) rfl rfl sliceB_25_4_1 (by first | omega | (rw [bitsL_len]; omega) | (simp only [lenB]; omega)) (by first | omega | (rw [bitsL_len]; omega) | (simp only [lenB]; omega)) ?_
  refine SOps.storeK 0 (0) rfl rfl oneB_4 rfl (by first | omega | (rw [bitsL_len]; omega) | (simp only [lenB]; omega)) (by first | omega | (simp; done) | (simp; omega)) rfl (fun _ => rfl) ?_
  refine SOps.nil ?_
  refine SCode.seqR ?_
  refine SOps.freezeS (t := 5) 0 rfl rfl rfl (by simp) ?_
  refine SOps.reSlot (t := 5) rfl (show DBools ((List.replicate (p.length + 1) false).set 0 true) = DBools (bitsL (p.length + 1) 1) by rw [← bitsL_zero, bitsL_set (by omega)]; rfl) ?_
  refine SOps.move rfl ?_
  refine SOps.move rfl ?_
  refine SOps.callP (qClose p 1 (by omega)) rfl ?_
  rintro _ rfl
  refine SOps.litO sliceB_66_25_1 zeroIs_25 rfl (fun b2 hb_2 => ?_)
  refine SOps.assign rfl ?_
  refine SOps.nil ?_
  refine SCode.seqR ?_
  refine SOps.buildM placesB_28 zeroIs_28 rfl rfl ?_
  refine SOps.alloc (sz := 3) zeroIs_28 (fun b3 hb_3 => ?_)
  refine SOps.storeAM 0 rfl rfl aggB_28_3 rfl ?_
  refine SOps.nil ?_
  refine SCode.seq ?_
  refine SCode.seqR ?_
  refine SOps.assign rfl ?_
  refine SOps.nil ?_
  refine SCode.block ?_
  refine SCode.loop7 (fun (i : Nat) (qs : List Nat) (kq : Nat) (fins : List Bool) (kf : Nat) (nxt : List (List Nat)) (kn : Nat) => (⟨82, [(0, DLs a), (1, DIts p), (4, .ref b0 0), (6, .sl kq 1 0 qs.length), (7, .ref b3 0), (8, .v (.int .i64 (i : Int)))], [(b3, .row 28 3 [[.v (.int .i64 0), accD 1 kf (fins.map encB), accD 1 kn (nxt.map encRN)]]), (kq, .row 25 1 (qs.map (fun q => [DBools (bitsL (p.length + 1) q)]))), (b0, .row 28 3 [[.v (.int .i64 0), .v (.slice none 0 0), .v (.slice none 0 0)]])] ++ (accH 4 1 kf (fins.map encB) ++ (accH 39 1 kn (nxt.map encRN) ++ []))⟩ : St)) (fun (i : Nat) (qs : List Nat) (kq : Nat) (fins : List Bool) (kf : Nat) (nxt : List (List Nat)) (kn : Nat) => i ≤ qs.length ∧ 0 < qs.length ∧ QsOK qs ∧ (∀ q ∈ qs, q < 2 ^ (p.length + 1)) ∧ fins.length = i ∧ nxt.length = i ∧ accF (stepA a p) (fun q => q.testBit p.length) a.length (257 - i) i qs fins nxt = accF (stepA a p) (fun q => q.testBit p.length) a.length 257 0 [closedN p 1] [] []) (fun (i : Nat) (qs : List Nat) (kq : Nat) (fins : List Bool) (kf : Nat) (nxt : List (List Nat)) (kn : Nat) => 256 - i) (0) ([closedN p 1]) (b2) ([]) (0) ([]) (0) (by exact ⟨Nat.zero_le _, Nat.one_pos, ⟨by simp, fun q hq => by rw [List.mem_singleton] at hq; subst hq; exact closedN_lt (by omega) (by decide)⟩, fun q hq => by rw [List.mem_singleton] at hq; subst hq; exact closedN_lt2 p (Nat.lt_of_lt_of_le (by decide) (Nat.pow_le_pow_right (by decide) (show 1 ≤ p.length + 1 by omega))), rfl, rfl, rfl⟩) (St.Le.of ⟨(by first | rfl | (show some _ = some _; simp)), (by first | rfl | (show some _ = some _; simp)), (by first | rfl | (show some _ = some _; simp)), (by first | rfl | (show some _ = some _; simp)), (by first | rfl | (show some _ = some _; simp)), (by first | rfl | (show some _ = some _; simp)), trivial⟩ rfl (by first | rfl | (simp))) ?_
  rintro i qs kq fins kf nxt kn ⟨hi, hqp, hqo, hq1, hfl, hnl, hacc⟩
  have hql := hqo.len
  refine SCode.seq ?_
  refine SCode.seqR ?_
  refine SOps.move rfl ?_
  refine SOps.move rfl ?_
  refine SOps.lenSl rfl sliceB_66_25_1 ?_
  refine SOps.bin rfl rfl rfl ?_
  refine SOps.nil ?_
  refine SCode.cond rfl (fun hc1 => ?_) (fun hc1 => ?_)
  · try simp only [decide_eq_true_eq, decide_eq_false_iff_not, Bool.not_eq_true', Bool.not_eq_false', beq_iff_eq, bne_iff_ne, ne_eq, beq_eq_false_iff_ne, bne_eq_false_iff_eq, Int.not_lt, Int.not_le, Nat.not_lt, Nat.not_le, Int.ofNat_lt, Int.ofNat_le, Bool.not_eq_eq_eq_not, Bool.not_true, Bool.not_false] at hc1
    refine SCode.skip ?_
    show SCode _ _ _ _
    refine SCode.seq ?_
    refine SCode.block ?_
    refine SCode.seqR ?_
    refine SOps.litO sliceB_39_3_1 zeroIs_3 rfl (fun b4 hb_4 => ?_)
    refine SOps.assign rfl ?_
    refine SOps.nil ?_
    refine SCode.seq ?_
    refine SCode.seqR ?_
    refine SOps.assign rfl ?_
    refine SOps.nil ?_
    refine SCode.block ?_
    have hi7 : i < qs.length := by omega
    refine SCode.loop5 (fun (j : Nat) (q2 : List Nat) (done : List Nat) (kq2 : Nat) (kr : Nat) => (⟨82, [(0, DLs a), (1, DIts p), (4, .ref b0 0), (6, .sl kq2 1 0 q2.length), (7, .ref b3 0), (8, .v (.int .i64 (i : Int))), (9, .sl kr 1 0 done.length), (10, .v (.int .i64 (j : Int)))], [(kr, .row 3 1 (done.map encN))] ++ ([(b3, .row 28 3 [[.v (.int .i64 0), accD 1 kf (fins.map encB), accD 1 kn (nxt.map encRN)]]), (kq2, .row 25 1 (q2.map (fun q => [DBools (bitsL (p.length + 1) q)]))), (b0, .row 28 3 [[.v (.int .i64 0), .v (.slice none 0 0), .v (.slice none 0 0)]])] ++ (accH 4 1 kf (fins.map encB) ++ (accH 39 1 kn (nxt.map encRN) ++ [])))⟩ : St)) (fun (j : Nat) (q2 : List Nat) (done : List Nat) (kq2 : Nat) (kr : Nat) => ∃ (hi2 : i < q2.length), q2[i] = qs[i] ∧ j ≤ a.length ∧ done.length = j ∧ QsOK q2 ∧ (∀ q ∈ q2, q < 2 ^ (p.length + 1)) ∧ rowF (stepA a p (qs[i])) (List.range' j (a.length - j)) q2 done = rowF (stepA a p (qs[i])) (List.range a.length) qs []) (fun (j : Nat) (q2 : List Nat) (done : List Nat) (kq2 : Nat) (kr : Nat) => a.length - j) (0) (qs) ([]) (kq) (b4) (by exact ⟨hi7, rfl, Nat.zero_le _, rfl, hqo, hq1, by rw [Nat.sub_zero, List.range_eq_range']⟩) (St.Le.of ⟨(by first | rfl | (show some _ = some _; simp)), (by first | rfl | (show some _ = some _; simp)), (by first | rfl | (show some _ = some _; simp)), (by first | rfl | (show some _ = some _; simp)), (by first | rfl | (show some _ = some _; simp)), (by first | rfl | (show some _ = some _; simp)), (by first | rfl | (show some _ = some _; simp)), (by first | rfl | (show some _ = some _; simp)), trivial⟩ rfl (by first | rfl | (simp))) ?_
    rintro j q2 done kq2 kr ⟨hi2, hqe, hj, hdl, hqk, hq2, hrw⟩
    have hql2 := hqk.len
    refine SCode.seq ?_
    refine SCode.seqR ?_
    refine SOps.move rfl ?_
    refine SOps.move rfl ?_
    refine SOps.lenM rfl sliceB_22_69_2 ?_
    refine SOps.bin rfl rfl rfl ?_
    refine SOps.nil ?_
    refine SCode.cond rfl (fun hc2 => ?_) (fun hc2 => ?_)
    · try simp only [decide_eq_true_eq, decide_eq_false_iff_not, Bool.not_eq_true', Bool.not_eq_false', beq_iff_eq, bne_iff_ne, ne_eq, beq_eq_false_iff_ne, bne_eq_false_iff_eq, Int.not_lt, Int.not_le, Nat.not_lt, Nat.not_le, Int.ofNat_lt, Int.ofNat_le, Bool.not_eq_eq_eq_not, Bool.not_true, Bool.not_false] at hc2
      refine SCode.skip ?_
      show SCode _ _ _ _
      refine SCode.seq ?_
      refine SCode.block ?_
      refine SCode.seq ?_
      have hja : j < a.length := by omega
      apply SCode.drawAuto mixed_ [37, 38, 39, 40, 41, 42, 43, 44, 45, 46, 11] [[.inr 1], [.inr 6], [.inr 8], [.inl 1, .inl 2], [.inl 3], [.inr 0], [.inr 10], [.inl 5, .inl 6], [.inl 7], [.inl 0, .inl 4, .inl 8], [.inl 9]]
      · kernel_rfl
      · kernel_rfl
      · apply DOk.cons 37 
        · rfl
        · exact (NeedIs.inr _ rfl NeedIs.nil)
        · intro rest
          refine SOps.move rfl ?_
          exact SOps.nil rfl
        apply DOk.cons 38 
        · rfl
        · exact (NeedIs.inr _ rfl NeedIs.nil)
        · intro rest
          refine SOps.move rfl ?_
          exact SOps.nil rfl
        apply DOk.cons 39 
        · rfl
        · exact (NeedIs.inr _ rfl NeedIs.nil)
        · intro rest
          refine SOps.move rfl ?_
          exact SOps.nil rfl
        apply DOk.cons 40 
        · rfl
        · exact (NeedIs.inl 1 _ _ rfl rfl (NeedIs.inl 0 _ _ rfl rfl NeedIs.nil))
        · intro rest
          refine SOps.indexS (i) rfl rfl sliceB_66_25_1 (by first | omega | (rw [bitsL_len]; omega) | (simp only [lenB]; omega)) (by first | omega | (rw [bitsL_len]; omega) | (simp only [lenB]; omega)) ?_
          exact SOps.nil rfl
        apply DOk.cons 41 
        · rfl
        · exact (NeedIs.inl 0 _ _ rfl rfl NeedIs.nil)
        · intro rest
          refine SOps.loadK 2 (i) rfl flatB_25 rfl (by first | omega | (rw [bitsL_len]; omega) | (simp only [lenB]; omega)) (by first | omega | (simp; done) | (simp; omega)) rfl ?_
          exact SOps.nil rfl
        apply DOk.cons 42 
        · rfl
        · exact (NeedIs.inr _ rfl NeedIs.nil)
        · intro rest
          refine SOps.move rfl ?_
          exact SOps.nil rfl
        apply DOk.cons 43 
        · rfl
        · exact (NeedIs.inr _ rfl NeedIs.nil)
        · intro rest
          refine SOps.move rfl ?_
          exact SOps.nil rfl
        apply DOk.cons 44 
        · rfl
        · exact (NeedIs.inl 1 _ _ rfl rfl (NeedIs.inl 0 _ _ rfl rfl NeedIs.nil))
        · intro rest
          refine SOps.indexM (j) rfl rfl sliceB_22_69_2 (by first | omega | (rw [bitsL_len]; omega) | (simp only [lenB]; omega)) (by first | omega | (rw [bitsL_len]; omega) | (simp only [lenB]; omega)) ?_
          exact SOps.nil rfl
        apply DOk.cons 45 
        · rfl
        · exact (NeedIs.inl 0 _ _ rfl rfl NeedIs.nil)
        · intro rest
          refine SOps.loadPinA rfl aggB_69_2 (Nat.le_of_ble_eq_true rfl) ?_
          exact SOps.nil rfl
        apply DOk.cons 46 
        · rfl
        · exact (NeedIs.inl 8 _ _ rfl rfl (NeedIs.inl 4 _ _ rfl rfl (NeedIs.inl 0 _ _ rfl rfl NeedIs.nil)))
        · intro rest
          refine SOps.callP (qFollow p (q2[i]) _ (by omega)) rfl ?_
          rintro _ rfl
          exact SOps.nil rfl
        apply DOk.cons 11 
        · rfl
        · exact (NeedIs.inl 0 _ _ rfl rfl NeedIs.nil)
        · intro rest
          refine SOps.assign rfl ?_
          exact SOps.nil rfl
        exact DOk.nil
      · rfl
      · show SCode _ _ _ _
        refine SCode.seqR ?_
        refine SOps.reSlot (t := 11) rfl (show _ = DBools (bitsL (p.length + 1) (stepA a p (q2[i]) j)) by unfold stepA; simp only [admF, atL_lt hja]) ?_
        have hs8 : stepA a p (q2[i]) j < 256 := stepN_lt _ (by omega)
        have hs2 : stepA a p (q2[i]) j < 2 ^ (p.length + 1) := stepN_lt2 _ _ _
        have hrr : List.range' j (a.length - j) = j :: List.range' (j + 1) (a.length - (j + 1)) := by rw [show a.length - j = (a.length - (j + 1)) + 1 by omega, List.range'_succ]
        refine SOps.move rfl ?_
        refine SOps.move rfl ?_
        refine SOps.callH [_, _] [_] _ (qFind p q2 kq2 (stepA a p (q2[i]) j) hq2 hs2 (by omega)) rfl rfl (fun d H hR => ?_)
        obtain ⟨rfl, rfl⟩ := hR
        refine SOps.assign rfl ?_
        refine SOps.nil ?_
        refine SCode.seq ?_
        refine SCode.seqR ?_
        refine SOps.move rfl ?_
        refine SOps.bin rfl rfl rfl ?_
        refine SOps.nil ?_
        refine SCode.cond rfl (fun hc3 => ?_) (fun hc3 => ?_)
        · try simp only [decide_eq_true_eq, decide_eq_false_iff_not, Bool.not_eq_true', Bool.not_eq_false', beq_iff_eq, bne_iff_ne, ne_eq, beq_eq_false_iff_ne, bne_eq_false_iff_eq, Int.not_lt, Int.not_le, Nat.not_lt, Nat.not_le, Int.ofNat_lt, Int.ofNat_le, Bool.not_eq_eq_eq_not, Bool.not_true, Bool.not_false] at hc3
          have hix : idxN q2 (stepA a p (q2[i]) j) = none := by cases h : idxN q2 (stepA a p (q2[i]) j) with | none => rfl | some n => rw [h] at hc3; simp only [idxO] at hc3; omega
          refine SCode.seqR ?_
          refine SOps.move rfl ?_
          refine SOps.lenSl rfl sliceB_66_25_1 ?_
          refine SOps.assign rfl ?_
          refine SOps.nil ?_
          refine SCode.region ?_
          refine SOps.move rfl ?_
          refine SOps.move rfl ?_
          refine SOps.litF rfl sliceB_66_25_1 zeroIs_25 rfl ?_
          refine SOps.appendOwn 2 sliceB_66_25_1 elemB_25_1_24 rfl rfl rfl (by simp) SrcD.isl (by simp) (by first | (simp [lenB] <;> (first | omega | (rw [bitsL_len]; omega) | (simp only [lenB]; omega))) | (simp only [lenB]; (first | omega | (rw [bitsL_len]; omega) | (simp only [lenB]; omega)))) (by first | (simp <;> (first | omega | (rw [bitsL_len]; omega) | (simp only [lenB]; omega))) | (first | omega | (rw [bitsL_len]; omega) | (simp only [lenB]; omega))) (fun b5 hb_5 => ?_)
          refine SOps.assign rfl ?_
          refine SOps.nil ?_
          show SCode _ _ _ _
          refine SCode.region ?_
          refine SOps.move rfl ?_
          refine SOps.move rfl ?_
          first
            | refine SOps.reSlot (t := 59) rfl (show _ = DV.v (.int .i64 ((nn : Nat) : Int)) from congrArg (fun z => DV.v (.int .i64 z)) (by rw [hix]; rfl)) ?_
            | skip
          refine SOps.litF rfl sliceB_39_3_1 zeroIs_3 rfl ?_
          refine SOps.appendOwn 0 sliceB_39_3_1 elemB_3_1_8 rfl rfl rfl (by simp) SrcD.isl (by simp) (by first | (simp [lenB] <;> (first | omega | (rw [bitsL_len]; omega) | (simp only [lenB]; omega))) | (simp only [lenB]; (first | omega | (rw [bitsL_len]; omega) | (simp only [lenB]; omega)))) (by first | (simp <;> (first | omega | (rw [bitsL_len]; omega) | (simp only [lenB]; omega))) | (first | omega | (rw [bitsL_len]; omega) | (simp only [lenB]; omega))) (fun b6 hb_6 => ?_)
          refine SOps.assign rfl ?_
          refine SOps.nil ?_
          show SCode _ _ _ _
          refine SCode.region ?_
          refine SOps.move rfl ?_
          refine SOps.addI rfl rfl (by first | omega | (rw [bitsL_len]; omega) | (simp only [lenB]; omega)) (by first | omega | (rw [bitsL_len]; omega) | (simp only [lenB]; omega)) ?_
          refine SOps.assign rfl ?_
          refine SOps.nil ?_
          first
            | exact ⟨j + 1, q2, done ++ [nn], kq2, b7, ⟨hi2, hqe, by omega, by simp [hdl], hqk, hq2, by rw [← hrw, hrr, rowF_some (by rw [← hqe]; exact hix)]⟩, by omega, St.Le.of ⟨rfl, rfl, rfl, rfl, rfl, rfl, (by show some _ = some _; simp), rfl, trivial⟩ rfl (by rw [List.map_append]; rfl)⟩
            | exact ⟨j + 1, q2 ++ [stepA a p (q2[i]) j], done ++ [q2.length], b5, b6, ⟨by simp; omega, by rw [List.getElem_append_left hi2]; exact hqe, by omega, by simp [hdl], hqk.add hix hs8, fun q hq => by rcases List.mem_append.1 hq with hq | hq; exact hq2 q hq; rw [List.mem_singleton] at hq; subst hq; exact hs2, by rw [← hrw, hrr, rowF_none (by rw [← hqe]; exact hix), hqe]⟩, by omega, St.Le.of ⟨rfl, rfl, rfl, (by show some _ = some _; simp), rfl, rfl, (by show some _ = some _; simp), rfl, trivial⟩ rfl (by rw [List.map_append, List.map_append]; rfl)⟩
        · try simp only [decide_eq_true_eq, decide_eq_false_iff_not, Bool.not_eq_true', Bool.not_eq_false', beq_iff_eq, bne_iff_ne, ne_eq, beq_eq_false_iff_ne, bne_eq_false_iff_eq, Int.not_lt, Int.not_le, Nat.not_lt, Nat.not_le, Int.ofNat_lt, Int.ofNat_le, Bool.not_eq_eq_eq_not, Bool.not_true, Bool.not_false] at hc3
          obtain ⟨nn, hix⟩ : ∃ n, idxN q2 (stepA a p (q2[i]) j) = some n := by cases h : idxN q2 (stepA a p (q2[i]) j) with | none => rw [h] at hc3; simp only [idxO] at hc3; omega | some n => exact ⟨n, rfl⟩
          refine SCode.skip ?_
          show SCode _ _ _ _
          refine SCode.region ?_
          refine SOps.move rfl ?_
          refine SOps.move rfl ?_
          first
            | refine SOps.reSlot (t := 59) rfl (show _ = DV.v (.int .i64 ((nn : Nat) : Int)) from congrArg (fun z => DV.v (.int .i64 z)) (by rw [hix]; rfl)) ?_
            | skip
          refine SOps.litF rfl sliceB_39_3_1 zeroIs_3 rfl ?_
          refine SOps.appendOwn 0 sliceB_39_3_1 elemB_3_1_8 rfl rfl rfl (by simp) SrcD.isl (by simp) (by first | (simp [lenB] <;> (first | omega | (rw [bitsL_len]; omega) | (simp only [lenB]; omega))) | (simp only [lenB]; (first | omega | (rw [bitsL_len]; omega) | (simp only [lenB]; omega)))) (by first | (simp <;> (first | omega | (rw [bitsL_len]; omega) | (simp only [lenB]; omega))) | (first | omega | (rw [bitsL_len]; omega) | (simp only [lenB]; omega))) (fun b7 hb_7 => ?_)
          refine SOps.assign rfl ?_
          refine SOps.nil ?_
          show SCode _ _ _ _
          refine SCode.region ?_
          refine SOps.move rfl ?_
          refine SOps.addI rfl rfl (by first | omega | (rw [bitsL_len]; omega) | (simp only [lenB]; omega)) (by first | omega | (rw [bitsL_len]; omega) | (simp only [lenB]; omega)) ?_
          refine SOps.assign rfl ?_
          refine SOps.nil ?_
          first
            | exact ⟨j + 1, q2, done ++ [nn], kq2, b7, ⟨hi2, hqe, by omega, by simp [hdl], hqk, hq2, by rw [← hrw, hrr, rowF_some (by rw [← hqe]; exact hix)]⟩, by omega, St.Le.of ⟨rfl, rfl, rfl, rfl, rfl, rfl, (by show some _ = some _; simp), rfl, trivial⟩ rfl (by rw [List.map_append]; rfl)⟩
            | exact ⟨j + 1, q2 ++ [stepA a p (q2[i]) j], done ++ [q2.length], b5, b6, ⟨by simp; omega, by rw [List.getElem_append_left hi2]; exact hqe, by omega, by simp [hdl], hqk.add hix hs8, fun q hq => by rcases List.mem_append.1 hq with hq | hq; exact hq2 q hq; rw [List.mem_singleton] at hq; subst hq; exact hs2, by rw [← hrw, hrr, rowF_none (by rw [← hqe]; exact hix), hqe]⟩, by omega, St.Le.of ⟨rfl, rfl, rfl, (by show some _ = some _; simp), rfl, rfl, (by show some _ = some _; simp), rfl, trivial⟩ rfl (by rw [List.map_append, List.map_append]; rfl)⟩
    · try simp only [decide_eq_true_eq, decide_eq_false_iff_not, Bool.not_eq_true', Bool.not_eq_false', beq_iff_eq, bne_iff_ne, ne_eq, beq_eq_false_iff_ne, bne_eq_false_iff_eq, Int.not_lt, Int.not_le, Nat.not_lt, Nat.not_le, Int.ofNat_lt, Int.ofNat_le, Bool.not_eq_eq_eq_not, Bool.not_true, Bool.not_false] at hc2
      refine SCode.exit ?_
      show SCode _ _ _ _
      refine SCode.seqR ?_
      obtain rfl : j = a.length := by omega
      refine SOps.freezeS (t := 9) 0 rfl rfl rfl (by simp) ?_
      refine SOps.fieldRef rfl fieldB_28_2_2 ?_
      refine SOps.loadRef 0 0 2 rfl flatB_26 rfl rfl rfl rfl ?_
      refine SOps.move rfl ?_
      refine SOps.litF rfl sliceB_26_39_1 zeroIs_39 rfl ?_
      refine SOps.appendAcc ([_, _, _] ++ accH 4 1 kf _) [] sliceB_26_39_1 elemB_39_1_24 rfl rfl (by exact (List.append_assoc [_, _, _] _ _).symm) SrcD.isl (by simp) (by first | (simp [lenB] <;> (first | omega | (rw [bitsL_len]; omega) | (simp only [lenB]; omega))) | (simp only [lenB]; (first | omega | (rw [bitsL_len]; omega) | (simp only [lenB]; omega)))) (by first | (simp <;> (first | omega | (rw [bitsL_len]; omega) | (simp only [lenB]; omega))) | (first | omega | (rw [bitsL_len]; omega) | (simp only [lenB]; omega))) (fun b8 => ?_)
      refine SOps.fieldRef rfl fieldB_28_2_2 ?_
      refine SOps.store 0 0 2 rfl rfl oneB_26 rfl rfl rfl (by decide) (by first | rfl | exact accD_one _ _ _) ?_
      refine SOps.nil ?_
      have hmN : (nxt ++ [done]).map encRN = nxt.map encRN ++ [[.isl false 1 (done.map encN)]] := by rw [List.map_append]; rfl
      have hbl : p.length < (bitsL (p.length + 1) (q2[i])).length := by rw [bitsL_len]; omega
      refine SCode.weaken (st' := (⟨82, [(0, DLs a), (1, DIts p), (4, .ref b0 0), (6, .sl kq2 1 0 q2.length), (7, .ref b3 0), (8, .v (.int .i64 (i : Int)))], [(b3, .row 28 3 [[.v (.int .i64 0), accD 1 kf (fins.map encB), accD 1 b8 ((nxt ++ [done]).map encRN)]]), (kq2, .row 25 1 (q2.map (fun q => [DBools (bitsL (p.length + 1) q)]))), (b0, .row 28 3 [[.v (.int .i64 0), .v (.slice none 0 0), .v (.slice none 0 0)]])] ++ (accH 4 1 kf (fins.map encB) ++ (accH 39 1 b8 ((nxt ++ [done]).map encRN) ++ []))⟩ : St)) (St.Le.of ⟨rfl, rfl, rfl, rfl, rfl, rfl, trivial⟩ rfl (by rw [hmN]; exact (List.append_assoc [_, _, _] _ _).symm)) ?_
      refine SCode.drawMix 15 [11, 12, 13] mixed_ [fun b => some (68, .ref b3 (0 + 1)), fun b => some (69, accD 1 kf (fins.map encB)), fun b => some (70, .sl kq2 1 0 q2.length), fun b => some (71, .v (.int .i64 (i : Int))), fun b => some (72, .ref kq2 ((0 + i) * 1)), fun b => some (73, DBools (bitsL (p.length + 1) (q2[i]))), fun b => some (74, DIts p), fun b => some (75, .v (.int .i64 ((p.length : Nat) : Int))), fun b => some (76, .ipin (encB (bitsL (p.length + 1) (q2[i]))[p.length])), fun b => some (77, .v (.bool ((q2[i]).testBit p.length))), fun b => some (78, .isl false 1 [[.v (.bool ((q2[i]).testBit p.length))]]), fun b => some (79, accD 1 b (fins.map encB ++ [[.v (.bool ((q2[i]).testBit p.length))]])), fun b => some (80, .ref b3 (0 + 1)), fun b => none] [some 68, some 69, some 70, some 71, some 72, some 73, some 74, some 75, some 76, some 77, some 78, some 79, some 80, none] [[.inr 7], [.inl 0], [.inr 6], [.inr 8], [.inl 2, .inl 3], [.inl 4], [.inr 1], [.inl 6], [.inl 5, .inl 7], [.inl 8], [.inl 9], [.inl 1, .inl 10], [.inr 7], [.inl 12, .inl 11]] [fun b => [(7, .ref b3 0)], fun b => [(68, .ref b3 (0 + 1))], fun b => [(6, .sl kq2 1 0 q2.length)], fun b => [(8, .v (.int .i64 (i : Int)))], fun b => [(70, .sl kq2 1 0 q2.length), (71, .v (.int .i64 (i : Int)))], fun b => [(72, .ref kq2 ((0 + i) * 1))], fun b => [(1, DIts p)], fun b => [(74, DIts p)], fun b => [(73, DBools (bitsL (p.length + 1) (q2[i]))), (75, .v (.int .i64 ((p.length : Nat) : Int)))], fun b => [(76, .ipin (encB (bitsL (p.length + 1) (q2[i]))[p.length]))], fun b => [(77, .v (.bool ((q2[i]).testBit p.length)))], fun b => [(69, accD 1 kf (fins.map encB)), (78, .isl false 1 [[.v (.bool ((q2[i]).testBit p.length))]])], fun b => [(7, .ref b3 0)], fun b => [(80, .ref b3 (0 + 1)), (79, accD 1 b (fins.map encB ++ [[.v (.bool ((q2[i]).testBit p.length))]]))]] (fun b c => match c with | 0 => [(b3, .row 28 3 [[.v (.int .i64 0), accD 1 kf (fins.map encB), accD 1 b8 ((nxt ++ [done]).map encRN)]]), (kq2, .row 25 1 (q2.map (fun q => [DBools (bitsL (p.length + 1) q)]))), (b0, .row 28 3 [[.v (.int .i64 0), .v (.slice none 0 0), .v (.slice none 0 0)]])] ++ (accH 4 1 kf (fins.map encB) ++ (accH 39 1 b8 ((nxt ++ [done]).map encRN) ++ [])) | 1 => [(b3, .row 28 3 [[.v (.int .i64 0), accD 1 kf (fins.map encB), accD 1 b8 ((nxt ++ [done]).map encRN)]]), (kq2, .row 25 1 (q2.map (fun q => [DBools (bitsL (p.length + 1) q)]))), (b0, .row 28 3 [[.v (.int .i64 0), .v (.slice none 0 0), .v (.slice none 0 0)]])] ++ (accH 4 1 b (fins.map encB ++ [[.v (.bool ((q2[i]).testBit p.length))]]) ++ (accH 39 1 b8 ((nxt ++ [done]).map encRN) ++ [])) | 2 => [(b3, .row 28 3 [[.v (.int .i64 0), accD 1 kf (fins.map encB), accD 1 b8 ((nxt ++ [done]).map encRN)]]), (kq2, .row 25 1 (q2.map (fun q => [DBools (bitsL (p.length + 1) q)]))), (b0, .row 28 3 [[.v (.int .i64 0), .v (.slice none 0 0), .v (.slice none 0 0)]])] ++ (accH 4 1 b (fins.map encB ++ [[.v (.bool ((q2[i]).testBit p.length))]]) ++ (accH 39 1 b8 ((nxt ++ [done]).map encRN) ++ [])) | _ => [(b3, .row 28 3 [[.v (.int .i64 0), accD 1 b (fins.map encB ++ [[.v (.bool ((q2[i]).testBit p.length))]]), accD 1 b8 ((nxt ++ [done]).map encRN)]]), (kq2, .row 25 1 (q2.map (fun q => [DBools (bitsL (p.length + 1) q)]))), (b0, .row 28 3 [[.v (.int .i64 0), .v (.slice none 0 0), .v (.slice none 0 0)]])] ++ (accH 4 1 b (fins.map encB ++ [[.v (.bool ((q2[i]).testBit p.length))]]) ++ (accH 39 1 b8 ((nxt ++ [done]).map encRN) ++ []))) [(false, false, [0]), (false, false, [0]), (false, false, [0]), (false, false, [0]), (false, false, [0]), (false, false, [0]), (false, false, [0]), (false, false, [0]), (false, false, [0]), (false, false, [0]), (false, false, [0]), (true, true, [0]), (true, false, [1]), (true, false, [2])] (by kernel_rfl) (fun _ => rfl) rfl (fun _ => rfl) (fun _ => rfl) (cohOne 11 rfl (fun j r hj => by match j, hj with | 0, hj => exact .inl (by simp at hj; subst hj; intros; rfl) | 1, hj => exact .inl (by simp at hj; subst hj; intros; rfl) | 2, hj => exact .inl (by simp at hj; subst hj; intros; rfl) | 3, hj => exact .inl (by simp at hj; subst hj; intros; rfl) | 4, hj => exact .inl (by simp at hj; subst hj; intros; rfl) | 5, hj => exact .inl (by simp at hj; subst hj; intros; rfl) | 6, hj => exact .inl (by simp at hj; subst hj; intros; rfl) | 7, hj => exact .inl (by simp at hj; subst hj; intros; rfl) | 8, hj => exact .inl (by simp at hj; subst hj; intros; rfl) | 9, hj => exact .inl (by simp at hj; subst hj; intros; rfl) | 10, hj => exact .inl (by simp at hj; subst hj; intros; rfl) | 11, hj => exact .inr (.inl rfl) | 12, hj => exact .inl (by simp at hj; subst hj; intros; rfl) | 13, hj => exact .inl (by simp at hj; subst hj; intros; rfl) | q + 14, hj => simp at hj)) ?_ ?_
      · refine MixOk.cons ?_ ?_
        · refine StgOk.cons (fun b rest => ?_) ?_
          · refine SOps.fieldRef rfl fieldB_28_1_1 ?_
            exact SOps.nil ⟨b, fun _ => rfl, by first | rfl | simp_all⟩
          exact StgOk.nil
        refine MixOk.cons ?_ ?_
        · refine StgOk.cons (fun b rest => ?_) ?_
          · refine SOps.loadRef 0 0 1 rfl flatB_25 rfl rfl rfl rfl ?_
            exact SOps.nil ⟨b, fun _ => rfl, by first | rfl | simp_all⟩
          exact StgOk.nil
        refine MixOk.cons ?_ ?_
        · refine StgOk.cons (fun b rest => ?_) ?_
          · refine SOps.move rfl ?_
            exact SOps.nil ⟨b, fun _ => rfl, by first | rfl | simp_all⟩
          exact StgOk.nil
        refine MixOk.cons ?_ ?_
        · refine StgOk.cons (fun b rest => ?_) ?_
          · refine SOps.move rfl ?_
            exact SOps.nil ⟨b, fun _ => rfl, by first | rfl | simp_all⟩
          exact StgOk.nil
        refine MixOk.cons ?_ ?_
        · refine StgOk.cons (fun b rest => ?_) ?_
          · refine SOps.indexS (i) rfl rfl sliceB_66_25_1 (by first | omega | (rw [bitsL_len]; omega) | (simp only [lenB]; omega)) (by first | omega | (rw [bitsL_len]; omega) | (simp only [lenB]; omega)) ?_
            exact SOps.nil ⟨b, fun _ => rfl, by first | rfl | simp_all⟩
          exact StgOk.nil
        refine MixOk.cons ?_ ?_
        · refine StgOk.cons (fun b rest => ?_) ?_
          · refine SOps.loadK 1 (i) rfl flatB_25 rfl (by first | omega | (rw [bitsL_len]; omega) | (simp only [lenB]; omega)) (by first | omega | (simp; done) | (simp; omega)) rfl ?_
            exact SOps.nil ⟨b, fun _ => rfl, by first | rfl | simp_all⟩
          exact StgOk.nil
        refine MixOk.cons ?_ ?_
        · refine StgOk.cons (fun b rest => ?_) ?_
          · refine SOps.move rfl ?_
            exact SOps.nil ⟨b, fun _ => rfl, by first | rfl | simp_all⟩
          exact StgOk.nil
        refine MixOk.cons ?_ ?_
        · refine StgOk.cons (fun b rest => ?_) ?_
          · refine SOps.lenM rfl sliceB_23_56_4 ?_
            exact SOps.nil ⟨b, fun _ => rfl, by first | rfl | simp_all⟩
          exact StgOk.nil
        refine MixOk.cons ?_ ?_
        · refine StgOk.cons (fun b rest => ?_) ?_
          · refine SOps.indexM (p.length) rfl rfl sliceB_25_4_1 (by first | omega | (rw [bitsL_len]; omega) | (simp only [lenB]; omega)) (by first | omega | (rw [bitsL_len]; omega) | (simp only [lenB]; omega)) ?_
            exact SOps.nil ⟨b, fun _ => rfl, by first | rfl | simp_all⟩
          exact StgOk.nil
        refine MixOk.cons ?_ ?_
        · refine StgOk.cons (fun b rest => ?_) ?_
          · refine SOps.loadPin rfl flatB_4 ?_
            exact SOps.nil ⟨b, fun _ => rfl, (show _ = _ from congrArg (fun b => St.put _ 77 (.v (.bool b))) (bitsL_at _))⟩
          exact StgOk.nil
        refine MixOk.cons ?_ ?_
        · refine StgOk.cons (fun b rest => ?_) ?_
          · refine SOps.litF rfl sliceB_25_4_1 zeroIs_4 rfl ?_
            exact SOps.nil ⟨b, fun _ => rfl, by first | rfl | simp_all⟩
          exact StgOk.nil
        refine MixOk.cons ?_ ?_
        · refine StgOk.cons (fun b rest => ?_) ?_
          · refine SOps.appendAcc [_, _, _] _ sliceB_25_4_1 elemB_4_1_1 rfl rfl rfl SrcD.isl (by simp) (by first | (simp [lenB] <;> (first | omega | (rw [bitsL_len]; omega) | (simp only [lenB]; omega))) | (simp only [lenB]; (first | omega | (rw [bitsL_len]; omega) | (simp only [lenB]; omega)))) (by first | (simp <;> (first | omega | (rw [bitsL_len]; omega) | (simp only [lenB]; omega))) | (first | omega | (rw [bitsL_len]; omega) | (simp only [lenB]; omega))) (fun b9 => ?_)
            exact SOps.nil ⟨b9, (fun h => by cases h), rfl⟩
          exact StgOk.nil
        refine MixOk.cons ?_ ?_
        · refine StgOk.cons (fun b rest => ?_) ?_
          · refine SOps.fieldRef rfl fieldB_28_1_1 ?_
            exact SOps.nil ⟨b, fun _ => rfl, by first | rfl | simp_all⟩
          exact StgOk.nil
        refine MixOk.cons ?_ ?_
        · refine StgOk.cons (fun b rest => ?_) ?_
          · refine SOps.store 0 0 1 rfl rfl oneB_25 rfl rfl rfl (by decide) (by first | rfl | exact accD_one _ _ _) ?_
            exact SOps.nil ⟨b, fun _ => rfl, by first | rfl | simp_all⟩
          exact StgOk.nil
        exact MixOk.nil
      · intro kf2
        show SCode _ _ _ _
        refine SCode.region ?_
        refine SOps.move rfl ?_
        refine SOps.addI rfl rfl (by first | omega | (rw [bitsL_len]; omega) | (simp only [lenB]; omega)) (by first | omega | (rw [bitsL_len]; omega) | (simp only [lenB]; omega)) ?_
        refine SOps.assign rfl ?_
        refine SOps.nil ?_
        have hrw3 : rowF (stepA a p (qs[i])) (List.range a.length) qs [] = (q2, done) := by rw [← hrw, Nat.sub_self]; rfl
        have hmF : (fins ++ [((q2[i]).testBit p.length)]).map encB = fins.map encB ++ [[.v (.bool ((q2[i]).testBit p.length))]] := by rw [List.map_append]; rfl
        exact ⟨i + 1, q2, kq2, fins ++ [((q2[i]).testBit p.length)], kf2, nxt ++ [done], b8, ⟨by omega, by omega, hqk, hq2, by simp [hfl], by simp [hnl], by rw [← hacc, show 257 - i = (257 - (i + 1)) + 1 by omega, accF_some hi7, hrw3, hqe]⟩, by omega, St.Le.of ⟨rfl, rfl, rfl, rfl, rfl, rfl, trivial⟩ rfl (by rw [hmF]; rfl)⟩
  · try simp only [decide_eq_true_eq, decide_eq_false_iff_not, Bool.not_eq_true', Bool.not_eq_false', beq_iff_eq, bne_iff_ne, ne_eq, beq_eq_false_iff_ne, bne_eq_false_iff_eq, Int.not_lt, Int.not_le, Nat.not_lt, Nat.not_le, Int.ofNat_lt, Int.ofNat_le, Bool.not_eq_eq_eq_not, Bool.not_true, Bool.not_false] at hc1
    refine SCode.exit ?_
    show SCode _ _ _ _
    refine SCode.seqR ?_
    obtain ⟨x1, f1, rfl⟩ := List.exists_cons_of_length_pos (l := fins) (by omega)
    obtain ⟨x2, f2, rfl⟩ := List.exists_cons_of_length_pos (l := nxt) (by omega)
    refine SOps.freezeIn 3 0 0 1 rfl rfl rfl rfl rfl ?_
    refine SOps.freezeIn 3 0 0 2 rfl rfl rfl rfl rfl ?_
    refine SOps.loadRefA 0 0 0 rfl aggB_28_3 rfl rfl rfl (Nat.le_of_ble_eq_true rfl) ?_
    refine SOps.storeAM 2 rfl rfl aggB_28_3 rfl ?_
    refine SOps.nil ?_
    refine SCode.ret ?_
    have hacc2 : accR a p = ⟨0, x1 :: f1, castT (x2 :: f2)⟩ := by unfold accR accQ castT; rw [← hacc, accF_none (by omega)]
    exact ⟨_, Res.one (.agg (i := 2) (k := 0) (j := 0) rfl aggB_28_3 rfl rfl rfl (Nat.le_of_ble_eq_true rfl)), (by rw [hacc2]; show _ = DV.agg [_, _, DTab (castT (x2 :: f2))]; unfold castT; rw [DTab_cast]; rfl)⟩
end Go.GH
namespace Go.GH
open Go

def lexB : List Nat → List Nat → Bool
  | x :: s, y :: t => if x = y then lexB s t else decide (x < y)
  | _, _ => false
def befB (s t : List Nat) : Bool := if s.length = t.length then lexB s t else decide (s.length < t.length)
theorem befB_len {s t : List Nat} (h : ¬ s.length = t.length) : befB s t = decide (s.length < t.length) := by rw [befB, if_neg h]
theorem lexB_irr : ∀ (s : List Nat), lexB s s = false
  | [] => rfl
  | x :: s => by rw [lexB, if_pos rfl, lexB_irr s]
theorem befB_irr (s : List Nat) : befB s s = false := by rw [befB, if_pos rfl, lexB_irr]
theorem lexB_app : ∀ {u s t : List Nat}, lexB (u ++ s) (u ++ t) = lexB s t
  | [], _, _ => rfl
  | x :: u, s, t => by rw [List.cons_append, List.cons_append, lexB, if_pos rfl, lexB_app]
theorem befB_at {s t : List Nat} {i : Nat} (h : s.length = t.length) (hs : i < s.length) (ht : i < t.length) (hf : s.take i = t.take i) (hn : ¬ s[i] = t[i]) : befB s t = decide (s[i] < t[i]) := by
  have e1 : s = t.take i ++ s[i] :: s.drop (i + 1) := by rw [← hf, ← List.drop_eq_getElem_cons hs, List.take_append_drop]
  have e2 : t = t.take i ++ t[i] :: t.drop (i + 1) := by rw [← List.drop_eq_getElem_cons ht, List.take_append_drop]
  have e3 : lexB s t = lexB (t.take i ++ s[i] :: s.drop (i + 1)) (t.take i ++ t[i] :: t.drop (i + 1)) := by rw [← e1, ← e2]
  rw [befB, if_pos h, e3, lexB_app, lexB, if_neg hn]
theorem lexB_snoc : ∀ {v v' : List Nat} {c c' : Nat}, v.length = v'.length → (lexB (v ++ [c]) (v' ++ [c']) = true ↔ lexB v v' = true ∨ (v = v' ∧ c < c'))
  | [], [], c, c', _ => by
    simp only [List.nil_append, lexB]
    by_cases e : c = c'
    · subst e; simp
    · simp [e]
  | x :: v, y :: v', c, c', h => by
    rw [List.cons_append, List.cons_append, lexB, lexB]
    by_cases e : x = y
    · subst e
      rw [if_pos rfl, if_pos rfl, lexB_snoc (by simpa using h)]
      simp
    · rw [if_neg e, if_neg e]
      simp [e]
theorem befB_snoc {v v' : List Nat} {c c' : Nat} : befB (v ++ [c]) (v' ++ [c']) = true ↔ befB v v' = true ∨ (v = v' ∧ c < c') := by
  unfold befB
  by_cases h : v.length = v'.length
  · rw [if_pos (by simp [h]), if_pos h, lexB_snoc h]
  · rw [if_neg (by simpa using h), if_neg h]
    simp only [List.length_append, List.length_cons, List.length_nil, decide_eq_true_eq]
    constructor
    · intro h1; exact .inl (by omega)
    · rintro (h1 | ⟨rfl, _⟩)
      · omega
      · exact absurd rfl h
theorem lexB_trans : ∀ {s t u : List Nat}, s.length = t.length → t.length = u.length → lexB s t = true → lexB t u = true → lexB s u = true
  | [], [], _, _, _, h, _ => by cases h
  | x :: s, y :: t, [], _, h, _, _ => by simp at h
  | x :: s, y :: t, z :: u, h1, h2, h3, h4 => by
    rw [lexB] at h3 h4 ⊢
    by_cases e : x = y
    · subst e
      rw [if_pos rfl] at h3
      by_cases e2 : x = z
      · rw [if_pos e2] at h4 ⊢; exact lexB_trans (by simpa using h1) (by simpa using h2) h3 h4
      · rw [if_neg e2] at h4 ⊢; exact h4
    · rw [if_neg e] at h3
      simp only [decide_eq_true_eq] at h3
      by_cases e2 : y = z
      · subst e2
        rw [if_neg e]; simpa using h3
      · rw [if_neg e2] at h4
        simp only [decide_eq_true_eq] at h4
        rw [if_neg (by omega)]; simp; omega
theorem befB_trans {s t u : List Nat} (h1 : befB s t = true) (h2 : befB t u = true) : befB s u = true := by
  unfold befB at *
  by_cases e1 : s.length = t.length
  · rw [if_pos e1] at h1
    by_cases e2 : t.length = u.length
    · rw [if_pos e2] at h2
      rw [if_pos (by omega)]; exact lexB_trans e1 e2 h1 h2
    · rw [if_neg e2] at h2
      rw [if_neg (by omega)]; simp at *; omega
  · rw [if_neg e1] at h1
    simp only [decide_eq_true_eq] at h1
    by_cases e2 : t.length = u.length
    · rw [if_neg (by omega)]; simp; omega
    · rw [if_neg e2] at h2
      simp only [decide_eq_true_eq] at h2
      rw [if_neg (by omega)]; simp; omega
theorem befB_nil {s : List Nat} : befB s [] = false := by
  unfold befB
  cases s with
  | nil => rfl
  | cons x s => simp
theorem nil_befB (c : Nat) (s : List Nat) : befB [] (s ++ [c]) = true := by
  unfold befB
  rw [if_neg (by simp)]; simp
theorem lexB_total : ∀ {s t : List Nat}, s.length = t.length → lexB s t = true ∨ s = t ∨ lexB t s = true
  | [], [], _ => .inr (.inl rfl)
  | x :: s, y :: t, h => by
    rw [lexB, lexB]
    by_cases e : x = y
    · subst e
      rw [if_pos rfl, if_pos rfl]
      rcases lexB_total (s := s) (t := t) (by simpa using h) with h1 | h1 | h1
      · exact .inl h1
      · exact .inr (.inl (by rw [h1]))
      · exact .inr (.inr h1)
    · rw [if_neg e, if_neg (Ne.symm e)]
      simp only [decide_eq_true_eq]
      omega
theorem befB_total (s t : List Nat) : befB s t = true ∨ s = t ∨ befB t s = true := by
  unfold befB
  by_cases h : s.length = t.length
  · rw [if_pos h, if_pos h.symm]; exact lexB_total h
  · rw [if_neg h, if_neg (Ne.symm h)]
    simp only [decide_eq_true_eq]
    omega
end Go.GH
