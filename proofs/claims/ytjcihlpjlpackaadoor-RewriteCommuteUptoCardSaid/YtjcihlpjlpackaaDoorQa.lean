/-
  Rewriting rules as plain data. Proved here: laws of plain lists. No conditions.
-/
import Derived.Test.YtjcihlpjlpackaaDoorPb
set_option linter.unusedVariables false
set_option linter.unusedSimpArgs false
namespace Go.GH
open Go

structure Rule where
  fr : Int
  to : ByteArray
  left : List Item
  right : List Item
  ini : Bool
  fin : Bool
def encR (r : Rule) : List DV := [.v (.int .i32 r.fr), .v (.string r.to), DIts r.left, DIts r.right, .v (.bool r.ini), .v (.bool r.fin)]
abbrev DRs (l : List Rule) : DV := .isl false 6 (l.map encR)
/-- No string of a rule is long. -/
def SmR (r : Rule) : Prop := r.to.size ≤ 1048576 ∧ (∀ x ∈ r.left, x.lets.size ≤ 1048576) ∧ (∀ x ∈ r.right, x.lets.size ≤ 1048576)
def validR (a : List Letter) (r : Rule) : Bool := admA a && (decide (r.fr = 0) || (idx a r.fr).isSome) && consS a 4 r.to && validPat a r.left && validPat a r.right
def rAdm (a : List Letter) (x : Item) (r : Int) : Bool := match idx a r with
  | none => false
  | some k => admB x (atL a k)
def Mr (a : List Letter) (p : List Item) (w : List Int) : Bool := M (rAdm a) p w
def leftR (a : List Letter) (r : Rule) (w : List Int) : Bool := if r.ini then Mr a r.left w else (List.range (w.length + 1)).any (fun i => Mr a r.left (w.drop i))
def rightR (a : List Letter) (r : Rule) (w : List Int) : Bool := if r.fin then Mr a r.right w else (List.range (w.length + 1)).any (fun i => Mr a r.right (w.take i))
def followsR (a : List Letter) (r : Rule) (s : ByteArray) : Bool := if r.ini then matchesP a r.left s else decide (0 < (suffixesP a r.left s).length)
def precedesR (a : List Letter) (r : Rule) (s : ByteArray) : Bool := if r.fin then matchesP a r.right s else decide (0 < (prefixesP a r.right s).length)
def allL (a : List Letter) (s : ByteArray) : Bool := (runes s).all (fun r => (idx a r).isSome)
theorem consS_eq (a : List Letter) (n : Nat) (s : ByteArray) : consS a n s = (utf8R s && decide ((runes s).length ≤ n) && allL a s) := rfl
theorem overA_eq (a : List Letter) (s : ByteArray) : overA a s = (utf8R s && allL a s) := rfl
theorem admA_proper {a : List Letter} (h : admA a = true) : properB a = true ∧ 1 ≤ a.length ∧ a.length ≤ 65 := by
  simp only [admA, Bool.and_eq_true, decide_eq_true_eq] at h
  exact ⟨h.2, h.1.1, h.1.2⟩
def patB (a : List Letter) (p : List Item) : Bool := decide (p.length ≤ 3) && p.all (fun x => overA a x.lets)
theorem validPat_adm {a : List Letter} (h : admA a = true) (p : List Item) : validPat a p = patB a p := by
  unfold patB
  obtain ⟨h1, _, h3⟩ := admA_proper h
  rw [validPat, h1, decide_eq_true h3]; rfl
theorem idx_self {a : List Letter} {i : Nat} (h : i < a.length) : (idx a (a[i]).rune = some i) ↔ idx (a.take i) (a[i]).rune = none := by
  constructor
  · intro e
    rw [idx_none]
    intro l hl e2
    obtain ⟨j, hj, rfl⟩ := List.mem_iff_getElem.1 hl
    rw [List.getElem_take] at e2
    simp only [List.length_take] at hj
    have hd := List.findIdx?_eq_some_iff_getElem.1 (show a.findIdx? (fun l => l.rune == (a[i]).rune) = some i from e)
    obtain ⟨_, _, h3⟩ := hd
    have := h3 j (by omega)
    simp [e2] at this
  · intro e
    rw [idx_none] at e
    exact idx_drop e h rfl
end Go.GH
