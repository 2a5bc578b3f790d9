/-
  Sites and results of rules as plain data. Proved here: laws of plain lists. No conditions.
-/
import Derived.Test.YtjcihlpjlpackaaDoorPf
import Derived.Test.YtjcihlpjlpackaaDoorHz
set_option linter.unusedVariables false
set_option linter.unusedSimpArgs false
namespace Go.GH
open Go

theorem okR_to {a : List Letter} {r : Rule} {s : ByteArray} (h : okR a r s = true) : (runes r.to).length ≤ 4 ∧ (runes s).length ≤ 40 ∧ utf8R r.to = true := by
  simp only [okR, validR, consS_eq, Bool.and_eq_true, decide_eq_true_eq] at h
  exact ⟨h.1.1.1.2.1.2, h.2.1.2, h.1.1.1.2.1.1⟩
def resX (a : List Letter) (r : Rule) (s : ByteArray) (l : List Nat) : ByteArray × Int :=
  if okR a r s then (if 40 < (runes (encs (resF r.fr (runes r.to) (runes s) 0 l))).length then (⟨#[]⟩, 2) else (encs (resF r.fr (runes r.to) (runes s) 0 l), 0)) else (⟨#[]⟩, 1)
def applyR (a : List Letter) (r : Rule) (s : ByteArray) : ByteArray × Int := resX a r s (sitesR a r s)
def applyQ (a : List Letter) (r : Rule) (s : ByteArray) : ByteArray × Int := resX a r s (sitesQ a r s)
def tupA (x : ByteArray × Int) : DV := .tup [.v (.string x.1), .v (.int .i64 x.2)]
theorem resX_size (a : List Letter) (r : Rule) (s : ByteArray) (l : List Nat) : (resX a r s l).1.size ≤ 1048576 := by
  unfold resX
  split
  · rename_i h
    obtain ⟨h1, h2, _⟩ := okR_to h
    split
    · decide
    · have k1 := resF_len r.fr (runes r.to) (runes s) 0 l
      have k2 := runesBytes_size_le (resF r.fr (runes r.to) (runes s) 0 l)
      rw [encs_eq] at k2
      have k3 : ((runes s).length + 1) * ((runes r.to).length + 1) ≤ 41 * 5 := Nat.mul_le_mul (by omega) (by omega)
      show (encs _).size ≤ _
      omega
  · decide
theorem encs_one (c : Int) : encs [c] = Utf8.encode c := by
  show Utf8.encode c ++ ByteArray.empty = _
  rw [ByteArray.append_empty]
theorem encs_cons (c : Int) (w : List Int) : encs (c :: w) = Utf8.encode c ++ encs w := rfl
theorem encs_nil : encs [] = .empty := rfl
theorem bytes_nil : ByteArray.mk #[] = .empty := rfl
/-- The runes of letters are valid. -/
theorem letter_valid {a : List Letter} (h : properB a = true) {r : Int} (hr : (idx a r).isSome = true) : Utf8.valid r = true := by
  obtain ⟨k, hk⟩ := Option.isSome_iff_exists.1 hr
  obtain ⟨h1, h2, _⟩ := idx_spec hk
  have := (properB_iff.1 h).1 _ (List.getElem_mem h1)
  rw [h2] at this
  have := goodR_iff.1 this
  simp only [Utf8.valid, Bool.or_eq_true, Bool.and_eq_true, decide_eq_true_eq]
  omega
end Go.GH
