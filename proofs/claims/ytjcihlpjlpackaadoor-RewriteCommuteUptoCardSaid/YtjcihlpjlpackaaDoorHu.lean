/-
  UTF-8, as plain data: a string's runes and their bytes. Proved here: encoding and decoding undo each other; where two strings meet. No conditions.
-/
import Derived.Test.YtjcihlpjlpackaaDoorHa
import Derived.Lib.DecodeN
import Derived.Lib.ValidLaws
set_option linter.unusedVariables false
set_option linter.unusedSimpArgs false
namespace Go.GH
open Go Go.Lib

theorem get_eq (s : ByteArray) (i : Nat) : s.get! i = (s.data[i]?).getD 0 := by
  show s.data[i]! = _
  rw [getElem!_def]
  cases s.data[i]? <;> rfl
theorem data_app (t s : ByteArray) : (t ++ s).data = t.data ++ s.data := by simp
theorem get_left (t s : ByteArray) {i : Nat} (h : i < t.size) : (t ++ s).get! i = t.get! i := by
  rw [get_eq, get_eq, data_app, Array.getElem?_append, if_pos (show i < t.data.size from h)]
theorem get_right (t s : ByteArray) (i : Nat) : (t ++ s).get! (t.size + i) = s.get! i := by
  rw [get_eq, get_eq, data_app, Array.getElem?_append, if_neg (show ¬ t.size + i < t.data.size from by show ¬ t.size + i < t.size; omega)]
  rw [show t.size + i - t.data.size = i from by show t.size + i - t.size = i; omega]
theorem decode_right (t s : ByteArray) (i : Nat) : Utf8.decode (t ++ s) (t.size + i) = Utf8.decode s i := by
  rw [decode_at, decode_at]
  simp only [Nat.add_assoc, get_right, ByteArray.size_append]
  congr 1
  omega
theorem stepsF_right (t s : ByteArray) : ∀ (f i : Nat), stepsF (t ++ s) f (t.size + i) = (stepsF s f i).map (fun p => (t.size + p.1, p.2))
  | 0, _ => rfl
  | f + 1, i => by
    simp only [stepsF, ByteArray.size_append, decode_right, Nat.add_assoc]
    by_cases h : i < s.size
    · rw [if_pos h, if_pos (by omega), stepsF_right t s f]
      rfl
    · rw [if_neg h, if_neg (by omega)]; rfl
theorem runesAt_right (t s : ByteArray) (i : Nat) : runesAt (t ++ s) (t.size + i) = runesAt s i := by
  unfold runesAt steps
  rw [show (t ++ s).size - (t.size + i) = s.size - i from by rw [ByteArray.size_append]; omega, stepsF_right, List.map_map]
  rfl
theorem byte_nat {n : Nat} (h : n < 256) : (UInt8.ofNat n).toNat = n := by simp; omega
theorem decode_encode {r : Int} (h : Utf8.valid r = true) (rest : ByteArray) : Utf8.decode (Utf8.encode r ++ rest) 0 = (r.toNat, (Utf8.encode r).size) := by
  have hv := h
  simp only [Utf8.valid, Bool.or_eq_true, Bool.and_eq_true, decide_eq_true_eq] at hv
  rw [decode_at]
  simp only [Utf8.encode, h, if_true, Nat.zero_add]
  generalize hc : r.toNat = c
  have hc' : c < 55296 ∨ (57344 ≤ c ∧ c ≤ 1114111) := by omega
  split
  · rename_i h1
    rw [get_left _ _ (show 0 < 1 by decide)]
    have e0 : (ByteArray.mk #[UInt8.ofNat c]).get! 0 = UInt8.ofNat c := rfl
    rw [e0, byte_nat (by omega)]
    unfold decodeN
    rw [if_pos (by omega)]
    rfl
  · split
    · rename_i h0 h1
      rw [get_left _ _ (show 0 < 2 by decide), get_left _ _ (show 1 < 2 by decide)]
      have e0 : (ByteArray.mk #[UInt8.ofNat (192 + c / 64), UInt8.ofNat (128 + c % 64)]).get! 0 = UInt8.ofNat (192 + c / 64) := rfl
      have e1 : (ByteArray.mk #[UInt8.ofNat (192 + c / 64), UInt8.ofNat (128 + c % 64)]).get! 1 = UInt8.ofNat (128 + c % 64) := rfl
      have hs : 2 ≤ (ByteArray.mk #[UInt8.ofNat (192 + c / 64), UInt8.ofNat (128 + c % 64)] ++ rest).size := by rw [ByteArray.size_append]; exact Nat.le_add_right _ _
      generalize (ByteArray.mk #[UInt8.ofNat (192 + c / 64), UInt8.ofNat (128 + c % 64)] ++ rest).size = N at hs
      generalize ((ByteArray.mk #[UInt8.ofNat (192 + c / 64), UInt8.ofNat (128 + c % 64)] ++ rest).get! 2).toNat = b2
      generalize ((ByteArray.mk #[UInt8.ofNat (192 + c / 64), UInt8.ofNat (128 + c % 64)] ++ rest).get! 3).toNat = b3
      rw [e0, e1, byte_nat (by omega), byte_nat (by omega)]
      unfold decodeN
      rw [if_neg (by omega), if_pos (by omega), if_pos (by omega)]
      refine Prod.ext ?_ rfl
      simp only
      omega
    · split
      · rename_i h0 h1 h2
        rw [get_left _ _ (show 0 < 3 by decide), get_left _ _ (show 1 < 3 by decide), get_left _ _ (show 2 < 3 by decide)]
        have e0 : (ByteArray.mk #[UInt8.ofNat (224 + c / 4096), UInt8.ofNat (128 + c / 64 % 64), UInt8.ofNat (128 + c % 64)]).get! 0 = UInt8.ofNat (224 + c / 4096) := rfl
        have e1 : (ByteArray.mk #[UInt8.ofNat (224 + c / 4096), UInt8.ofNat (128 + c / 64 % 64), UInt8.ofNat (128 + c % 64)]).get! 1 = UInt8.ofNat (128 + c / 64 % 64) := rfl
        have e2 : (ByteArray.mk #[UInt8.ofNat (224 + c / 4096), UInt8.ofNat (128 + c / 64 % 64), UInt8.ofNat (128 + c % 64)]).get! 2 = UInt8.ofNat (128 + c % 64) := rfl
        have hs : 3 ≤ (ByteArray.mk #[UInt8.ofNat (224 + c / 4096), UInt8.ofNat (128 + c / 64 % 64), UInt8.ofNat (128 + c % 64)] ++ rest).size := by rw [ByteArray.size_append]; exact Nat.le_add_right _ _
        generalize (ByteArray.mk #[UInt8.ofNat (224 + c / 4096), UInt8.ofNat (128 + c / 64 % 64), UInt8.ofNat (128 + c % 64)] ++ rest).size = N at hs
        generalize ((ByteArray.mk #[UInt8.ofNat (224 + c / 4096), UInt8.ofNat (128 + c / 64 % 64), UInt8.ofNat (128 + c % 64)] ++ rest).get! 3).toNat = b3
        rw [e0, e1, e2, byte_nat (by omega), byte_nat (by omega), byte_nat (by omega)]
        unfold decodeN
        rw [if_neg (by omega), if_neg (by omega), if_pos (by omega), if_pos (by omega)]
        refine Prod.ext ?_ rfl
        simp only
        omega
      · rename_i h0 h1 h2
        rw [get_left _ _ (show 0 < 4 by decide), get_left _ _ (show 1 < 4 by decide), get_left _ _ (show 2 < 4 by decide), get_left _ _ (show 3 < 4 by decide)]
        have e0 : (ByteArray.mk #[UInt8.ofNat (240 + c / 262144), UInt8.ofNat (128 + c / 4096 % 64), UInt8.ofNat (128 + c / 64 % 64), UInt8.ofNat (128 + c % 64)]).get! 0 = UInt8.ofNat (240 + c / 262144) := rfl
        have e1 : (ByteArray.mk #[UInt8.ofNat (240 + c / 262144), UInt8.ofNat (128 + c / 4096 % 64), UInt8.ofNat (128 + c / 64 % 64), UInt8.ofNat (128 + c % 64)]).get! 1 = UInt8.ofNat (128 + c / 4096 % 64) := rfl
        have e2 : (ByteArray.mk #[UInt8.ofNat (240 + c / 262144), UInt8.ofNat (128 + c / 4096 % 64), UInt8.ofNat (128 + c / 64 % 64), UInt8.ofNat (128 + c % 64)]).get! 2 = UInt8.ofNat (128 + c / 64 % 64) := rfl
        have e3 : (ByteArray.mk #[UInt8.ofNat (240 + c / 262144), UInt8.ofNat (128 + c / 4096 % 64), UInt8.ofNat (128 + c / 64 % 64), UInt8.ofNat (128 + c % 64)]).get! 3 = UInt8.ofNat (128 + c % 64) := rfl
        have hs : 4 ≤ (ByteArray.mk #[UInt8.ofNat (240 + c / 262144), UInt8.ofNat (128 + c / 4096 % 64), UInt8.ofNat (128 + c / 64 % 64), UInt8.ofNat (128 + c % 64)] ++ rest).size := by rw [ByteArray.size_append]; exact Nat.le_add_right _ _
        generalize (ByteArray.mk #[UInt8.ofNat (240 + c / 262144), UInt8.ofNat (128 + c / 4096 % 64), UInt8.ofNat (128 + c / 64 % 64), UInt8.ofNat (128 + c % 64)] ++ rest).size = N at hs
        rw [e0, e1, e2, e3, byte_nat (by omega), byte_nat (by omega), byte_nat (by omega), byte_nat (by omega)]
        unfold decodeN
        rw [if_neg (by omega), if_neg (by omega), if_neg (by omega), if_pos (by omega), if_pos (by omega)]
        refine Prod.ext ?_ rfl
        simp only
        omega
theorem encode_pos (r : Int) : 1 ≤ (Utf8.encode r).size := by
  simp only [Utf8.encode]
  repeat' split
  all_goals (first | decide | simp [ByteArray.size])
theorem runes_encode {r : Int} (h : Utf8.valid r = true) (rest : ByteArray) : runes (Utf8.encode r ++ rest) = r :: runes rest := by
  have hp := encode_pos r
  rw [← runesAt_zero, runesAt_lt (by rw [ByteArray.size_append]; omega), decode_encode h]
  have h1 := runesAt_right (Utf8.encode r) rest 0
  rw [Nat.add_zero, runesAt_zero] at h1
  rw [Nat.zero_add, h1]
  have : 0 ≤ r := by
    simp only [Utf8.valid, Bool.or_eq_true, Bool.and_eq_true, decide_eq_true_eq] at h; omega
  simp only
  rw [Int.toNat_of_nonneg this]
theorem runes_empty : runes ByteArray.empty = [] := rfl
/-- Runes that are valid come back from their own bytes. -/
theorem runes_encs : ∀ {rs : List Int}, (∀ r ∈ rs, Utf8.valid r = true) → runes (encs rs) = rs
  | [], _ => rfl
  | r :: rs, h => by
    rw [encs, runes_encode (h r (List.mem_cons_self ..)), runes_encs (fun x hx => h x (List.mem_cons_of_mem _ hx))]
theorem decode_valid (s : ByteArray) (i : Nat) : Utf8.valid ((Utf8.decode s i).1 : Int) = true := by
  have hv : ∀ c : Nat, (c < 55296 ∨ (57344 ≤ c ∧ c ≤ 1114111)) → Utf8.valid (c : Int) = true := fun c hc => by
    simp only [Utf8.valid, Bool.or_eq_true, Bool.and_eq_true, decide_eq_true_eq]; omega
  have hb := UInt8.toNat_lt (s.get! i)
  refine hv _ ?_
  rw [decode_at]
  generalize (s.get! i).toNat = b0 at hb
  generalize (s.get! (i + 1)).toNat = b1
  generalize (s.get! (i + 2)).toNat = b2
  generalize (s.get! (i + 3)).toNat = b3
  unfold decodeN
  repeat' split
  all_goals (simp only; omega)
theorem steps_valid {s : ByteArray} : ∀ {f i : Nat} {p : Nat × Int}, p ∈ stepsF s f i → Utf8.valid p.2 = true
  | 0, _, _, h => by simp [stepsF] at h
  | f + 1, i, p, h => by
    simp only [stepsF] at h
    split at h
    · rcases List.mem_cons.1 h with rfl | h
      · exact decode_valid s i
      · exact steps_valid h
    · simp at h
theorem runes_valid {s : ByteArray} {r : Int} (h : r ∈ runes s) : Utf8.valid r = true := by
  obtain ⟨p, hp, rfl⟩ := List.mem_map.1 h
  exact steps_valid hp
theorem runes_cut (s : ByteArray) (l n : Nat) : runes (encs (((runes s).drop l).take n)) = ((runes s).drop l).take n :=
  runes_encs (fun r hr => runes_valid (List.mem_of_mem_drop (List.mem_of_mem_take hr)))
end Go.GH
