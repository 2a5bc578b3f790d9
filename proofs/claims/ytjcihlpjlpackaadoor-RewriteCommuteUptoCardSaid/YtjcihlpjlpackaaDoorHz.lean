/-
  A word is the bytes of its runes. Proved here: laws of plain lists. No conditions.
-/
import Derived.Test.YtjcihlpjlpackaaDoorHy
import Derived.Test.YtjcihlpjlpackaaDoorHx
import Derived.Lib.SpaceUEq
set_option linter.unusedVariables false
set_option linter.unusedSimpArgs false
namespace Go.GH
open Go Go.Lib

/-! #### a word is the bytes of its runes -/
theorem encBy_lib (c : Nat) (hv : Utf8.valid (c : Int) = true) : encBy (c : Int) = encodeRune (c : Int) := by
  obtain ⟨c', h1, hc⟩ := valid_cases hv
  have hcc : c' = c := by omega
  subst hcc
  have u : ∀ n : Nat, n < 256 → UInt8.ofNat n = (n : Int).toNat.toUInt8 := fun n _ => rfl
  unfold encodeRune
  by_cases h1 : c' < 128
  · rw [encBy, enc_1 hv h1, encodeRuneZ_one (by omega) (by omega)]; rfl
  · by_cases h2 : c' < 2048
    · rw [encBy, enc_2 hv (by omega) h2, encodeRuneZ_two (by omega) (by omega)]
      show [UInt8.ofNat (192 + c' / 64), UInt8.ofNat (128 + c' % 64)] = [(192 + (c' : Int) / 64).toNat.toUInt8, (128 + (c' : Int) % 64).toNat.toUInt8]
      rw [show (192 + (c' : Int) / 64).toNat = 192 + c' / 64 from by omega, show (128 + (c' : Int) % 64).toNat = 128 + c' % 64 from by omega]
    · by_cases h3 : c' < 65536
      · rw [encBy, enc_3 hv (by omega) h3, encodeRuneZ_three (by omega)]
        show [UInt8.ofNat (224 + c' / 4096), UInt8.ofNat (128 + c' / 64 % 64), UInt8.ofNat (128 + c' % 64)] = [(224 + (c' : Int) / 4096).toNat.toUInt8, (128 + (c' : Int) / 64 % 64).toNat.toUInt8, (128 + (c' : Int) % 64).toNat.toUInt8]
        rw [show (224 + (c' : Int) / 4096).toNat = 224 + c' / 4096 from by omega, show (128 + (c' : Int) / 64 % 64).toNat = 128 + c' / 64 % 64 from by omega, show (128 + (c' : Int) % 64).toNat = 128 + c' % 64 from by omega]
      · rw [encBy, enc_4 hv (by omega), encodeRuneZ_four (by omega) (by omega)]
        show [UInt8.ofNat (240 + c' / 262144), UInt8.ofNat (128 + c' / 4096 % 64), UInt8.ofNat (128 + c' / 64 % 64), UInt8.ofNat (128 + c' % 64)] = [(240 + (c' : Int) / 262144).toNat.toUInt8, (128 + (c' : Int) / 4096 % 64).toNat.toUInt8, (128 + (c' : Int) / 64 % 64).toNat.toUInt8, (128 + (c' : Int) % 64).toNat.toUInt8]
        rw [show (240 + (c' : Int) / 262144).toNat = 240 + c' / 262144 from by omega, show (128 + (c' : Int) / 4096 % 64).toNat = 128 + c' / 4096 % 64 from by omega, show (128 + (c' : Int) / 64 % 64).toNat = 128 + c' / 64 % 64 from by omega, show (128 + (c' : Int) % 64).toNat = 128 + c' % 64 from by omega]
theorem data_app2 (x y : ByteArray) : (x ++ y).data.toList = x.data.toList ++ y.data.toList := by simp
theorem encs_cons_data (r : Int) (rs : List Int) : (encs (r :: rs)).data.toList = encBy r ++ (encs rs).data.toList := by
  rw [encs, data_app2, encBy]
theorem step_bytes (s : ByteArray) (p : Nat) (hp : p < s.size) (h : stepOK s (p, ((Utf8.decode s p).1 : Int)) = true) : encBy ((Utf8.decode s p).1 : Int) = (s.data.toList.drop p).take (Utf8.decode s p).2 := by
  have hd := decodeL_drop s p
  have hlen : (s.data.toList.drop p).length = s.size - p := by simp
  have hne : s.data.toList.drop p ≠ [] := by
    intro h; rw [h] at hlen; simp at hlen; omega
  rw [step_valid s p hp] at h
  have h' : ¬ ((Utf8.decode s p).1 = 65533 ∧ (Utf8.decode s p).2 = 1) := fun hb => by rw [decide_eq_true hb] at h; cases h
  have := encode_decode _ hne (by rw [hd]; exact h')
  rw [hd] at this
  rw [← this, encBy_lib _ (decode_valid s p)]
theorem encs_at (s : ByteArray) : ∀ (f p : Nat), s.size - p ≤ f → (steps s p).all (stepOK s) = true → (encs (runesAt s p)).data.toList = s.data.toList.drop p
  | 0, p, h, _ => by rw [runesAt_ge (by omega), List.drop_eq_nil_of_le (by simp; omega)]; rfl
  | f + 1, p, h, hv => by
    by_cases hp : p < s.size
    · have hw := decode_w s p
      rw [steps_lt hp, List.all_cons, Bool.and_eq_true] at hv
      have ih := encs_at s f (p + (Utf8.decode s p).2) (by omega) hv.2
      rw [runesAt_lt hp, encs_cons_data, ih, step_bytes s p hp hv.1, ← List.drop_drop, List.take_append_drop]
    · rw [runesAt_ge (by omega), List.drop_eq_nil_of_le (by simp; omega)]; rfl
theorem encs_runes {s : ByteArray} (h : utf8R s = true) : encs (runes s) = s := by
  have := encs_at s _ 0 (Nat.le_refl _) h
  rw [runesAt_zero, List.drop_zero] at this
  apply ByteArray.ext
  exact Array.toList_inj.1 this
theorem encs_append : ∀ x y : List Int, encs (x ++ y) = encs x ++ encs y
  | [], y => by
    apply ByteArray.ext
    simp [encs]
  | r :: x, y => by rw [List.cons_append, encs, encs, encs_append x y, ByteArray.append_assoc]
end Go.GH
