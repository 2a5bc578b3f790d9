/-
  The bytes of a rune, as plain data, and as the library computes them by shifts and masks. No conditions.
-/
import Derived.Test.YtjcihlpjlpackaaDoorHu
import Derived.Test.YtjcihlpjlpackaaDoorGq
set_option linter.unusedVariables false
set_option linter.unusedSimpArgs false
namespace Go.GH
open Go

def encBy (r : Int) : List UInt8 := (Utf8.encode r).data.toList
def cY (n : Nat) : List DV := [.v (.int .u8 (n : Int))]
theorem encY_ofNat {n : Nat} (h : n < 256) : encY (UInt8.ofNat n) = cY n := by
  simp [encY, cY]; omega
theorem u8wrap {n : Int} (h : 0 ≤ n) : IntKind.u8.wrap n = n % 256 := by
  simp [IntKind.wrap, IntKind.signed, IntKind.bits]
  
theorem u32wrap {n : Int} (h : 0 ≤ n) (h2 : n ≤ 4294967295) : IntKind.u32.wrap n = n := wrap_id (by
  simp [IntKind.has, IntKind.min, IntKind.max, IntKind.signed, IntKind.bits]; omega)
def orB (a x : Int) : Int := IntKind.u8.wrap (BitVec.ofInt 8 a ||| BitVec.ofInt 8 x).toNat
def andB (a x : Int) : Int := IntKind.u8.wrap (BitVec.ofInt 8 a &&& BitVec.ofInt 8 x).toNat
theorem or192 : ∀ q : Fin 32, orB 192 ((q.val : Nat) : Int) = 192 + q.val := by decide +kernel
theorem or224 : ∀ q : Fin 16, orB 224 ((q.val : Nat) : Int) = 224 + q.val := by decide +kernel
theorem or240 : ∀ q : Fin 8, orB 240 ((q.val : Nat) : Int) = 240 + q.val := by decide +kernel
theorem or128 : ∀ q : Fin 64, orB 128 ((q.val : Nat) : Int) = 128 + q.val := by decide +kernel
theorem and63 : ∀ q : Fin 256, andB ((q.val : Nat) : Int) 63 = ((q.val % 64 : Nat) : Int) := by decide +kernel
theorem or192' {q : Nat} (h : q < 32) : orB 192 (q : Int) = ((192 + q : Nat) : Int) := by have := or192 ⟨q, h⟩; simpa using this
theorem or224' {q : Nat} (h : q < 16) : orB 224 (q : Int) = ((224 + q : Nat) : Int) := by have := or224 ⟨q, h⟩; simpa using this
theorem or240' {q : Nat} (h : q < 8) : orB 240 (q : Int) = ((240 + q : Nat) : Int) := by have := or240 ⟨q, h⟩; simpa using this
theorem or128' {q : Nat} (h : q < 64) : orB 128 (q : Int) = ((128 + q : Nat) : Int) := by have := or128 ⟨q, h⟩; simpa using this
theorem and63' {q : Nat} (h : q < 256) : andB (q : Int) 63 = ((q % 64 : Nat) : Int) := by have := and63 ⟨q, h⟩; simpa using this
theorem u8nat (n : Nat) : IntKind.u8.wrap (n : Int) = ((n % 256 : Nat) : Int) := by
  rw [u8wrap (by omega)]; omega
/-- the low six bits of place k -/
theorem low6 (c d : Nat) (hd : d ≠ 0) : orB 128 (andB (IntKind.u8.wrap ((c / d : Nat) : Int)) 63) = ((128 + c / d % 64 : Nat) : Int) := by
  rw [u8nat, and63' (by omega), or128' (by omega)]
  congr 2
  omega
theorem low60 (c : Nat) : orB 128 (andB (IntKind.u8.wrap ((c : Nat) : Int)) 63) = ((128 + c % 64 : Nat) : Int) := by
  have := low6 c 1 (by decide)
  simpa using this
theorem fdiv_nat (c d : Nat) : Int.fdiv (c : Int) (d : Int) = ((c / d : Nat) : Int) := by
  rw [Int.fdiv_eq_ediv_of_nonneg _ (by omega)]; rfl
theorem valid_cases {r : Int} (h : Utf8.valid r = true) : ∃ c : Nat, r = (c : Int) ∧ (c < 55296 ∨ (57344 ≤ c ∧ c ≤ 1114111)) := by
  simp only [Utf8.valid, Bool.or_eq_true, Bool.and_eq_true, decide_eq_true_eq] at h
  exact ⟨r.toNat, by omega, by omega⟩
theorem enc_1 {c : Nat} (hv : Utf8.valid (c : Int) = true) (h : c < 128) : Utf8.encode (c : Int) = ⟨#[UInt8.ofNat c]⟩ := by
  unfold Utf8.encode
  rw [if_pos hv]
  exact if_pos h
theorem enc_2 {c : Nat} (hv : Utf8.valid (c : Int) = true) (h0 : 128 ≤ c) (h : c < 2048) : Utf8.encode (c : Int) = ⟨#[UInt8.ofNat (192 + c / 64), UInt8.ofNat (128 + c % 64)]⟩ := by
  unfold Utf8.encode
  rw [if_pos hv]
  exact (if_neg (show ¬ c < 128 by omega)).trans (if_pos h)
theorem enc_3 {c : Nat} (hv : Utf8.valid (c : Int) = true) (h0 : 2048 ≤ c) (h : c < 65536) : Utf8.encode (c : Int) = ⟨#[UInt8.ofNat (224 + c / 4096), UInt8.ofNat (128 + c / 64 % 64), UInt8.ofNat (128 + c % 64)]⟩ := by
  unfold Utf8.encode
  rw [if_pos hv]
  exact (if_neg (show ¬ c < 128 by omega)).trans ((if_neg (show ¬ c < 2048 by omega)).trans (if_pos h))
theorem enc_4 {c : Nat} (hv : Utf8.valid (c : Int) = true) (h0 : 65536 ≤ c) : Utf8.encode (c : Int) = ⟨#[UInt8.ofNat (240 + c / 262144), UInt8.ofNat (128 + c / 4096 % 64), UInt8.ofNat (128 + c / 64 % 64), UInt8.ofNat (128 + c % 64)]⟩ := by
  unfold Utf8.encode
  rw [if_pos hv]
  exact (if_neg (show ¬ c < 128 by omega)).trans ((if_neg (show ¬ c < 2048 by omega)).trans (if_neg (show ¬ c < 65536 by omega)))
theorem encBy_1 {c : Nat} (hv : Utf8.valid (c : Int) = true) (h : c < 128) : (encBy (c : Int)).map encY = [cY c] := by
  rw [encBy, enc_1 hv h]
  show [encY (UInt8.ofNat c)] = _
  rw [encY_ofNat (show c < 256 by omega)]
theorem encBy_2 {c : Nat} (hv : Utf8.valid (c : Int) = true) (h0 : 128 ≤ c) (h : c < 2048) : (encBy (c : Int)).map encY = [cY (192 + c / 64), cY (128 + c % 64)] := by
  rw [encBy, enc_2 hv h0 h]
  show [encY (UInt8.ofNat (192 + c / 64)), encY (UInt8.ofNat (128 + c % 64))] = _
  rw [encY_ofNat (show 192 + c / 64 < 256 by omega), encY_ofNat (show 128 + c % 64 < 256 by omega)]
theorem encBy_3 {c : Nat} (hv : Utf8.valid (c : Int) = true) (h0 : 2048 ≤ c) (h : c < 65536) : (encBy (c : Int)).map encY = [cY (224 + c / 4096), cY (128 + c / 64 % 64), cY (128 + c % 64)] := by
  rw [encBy, enc_3 hv h0 h]
  show [encY (UInt8.ofNat (224 + c / 4096)), encY (UInt8.ofNat (128 + c / 64 % 64)), encY (UInt8.ofNat (128 + c % 64))] = _
  rw [encY_ofNat (show 224 + c / 4096 < 256 by omega), encY_ofNat (show 128 + c / 64 % 64 < 256 by omega), encY_ofNat (show 128 + c % 64 < 256 by omega)]
theorem encBy_4 {c : Nat} (hv : Utf8.valid (c : Int) = true) (h0 : 65536 ≤ c) (h : c ≤ 1114111) : (encBy (c : Int)).map encY = [cY (240 + c / 262144), cY (128 + c / 4096 % 64), cY (128 + c / 64 % 64), cY (128 + c % 64)] := by
  rw [encBy, enc_4 hv h0]
  show [encY (UInt8.ofNat (240 + c / 262144)), encY (UInt8.ofNat (128 + c / 4096 % 64)), encY (UInt8.ofNat (128 + c / 64 % 64)), encY (UInt8.ofNat (128 + c % 64))] = _
  rw [encY_ofNat (show 240 + c / 262144 < 256 by omega), encY_ofNat (show 128 + c / 4096 % 64 < 256 by omega), encY_ofNat (show 128 + c / 64 % 64 < 256 by omega), encY_ofNat (show 128 + c % 64 < 256 by omega)]
theorem encBy_len (r : Int) : (encBy r).length ≤ 4 := encode_size r
theorem encBy_pos (r : Int) : 1 ≤ (encBy r).length := encode_pos r
theorem encs_data : ∀ rs : List Int, (encs rs).data.toList = (rs.map encBy).flatten
  | [] => rfl
  | r :: rs => by
    rw [encs, List.map_cons, List.flatten_cons, ← encs_data rs]
    simp [encBy]
end Go.GH
