/-
  Items and rules, read from a card's arguments; none of their strings is long where the bulk is bounded. No conditions.
-/
import Derived.Test.YtjcihlpjlpackaaDoorQa
import Derived.Test.YtjcihlpjlpackaaDoorGv
set_option linter.unusedVariables false
set_option linter.unusedSimpArgs false
namespace Go.GH
open Go
abbrev TIt : List DTy := [.int .u32, .str, .bool, .bool]
abbrev TRu : List DTy := [.int .i32, .str, .sl TIt, .sl TIt, .bool, .bool]
theorem ElemIs.item {e : List DV} (h : ElemIs TIt e) : ∃ x : Item, e = encIt x := by
  obtain ⟨h1, h2⟩ := h
  match e, h1 with
  | [d0, d1, d2, d3], _ =>
    obtain ⟨n, rfl, _⟩ := (h2 0 d0 _ rfl rfl).int_inv
    obtain ⟨s, rfl⟩ := (h2 1 d1 _ rfl rfl).str_inv
    obtain ⟨b, rfl⟩ := (h2 2 d2 _ rfl rfl).bool_inv
    obtain ⟨c, rfl⟩ := (h2 3 d3 _ rfl rfl).bool_inv
    exact ⟨⟨n, s, b, c⟩, rfl⟩
theorem HasD.items {d : DV} (h : HasD (.sl TIt) d) : ∃ p, d = DIts p := h.slice (f := encIt) (fun e he => he.item)
theorem ElemIs.rule {e : List DV} (h : ElemIs TRu e) : ∃ r : Rule, e = encR r := by
  obtain ⟨h1, h2⟩ := h
  match e, h1 with
  | [d0, d1, d2, d3, d4, d5], _ =>
    obtain ⟨n, rfl, _⟩ := (h2 0 d0 _ rfl rfl).int_inv
    obtain ⟨s, rfl⟩ := (h2 1 d1 _ rfl rfl).str_inv
    obtain ⟨p, rfl⟩ := (h2 2 d2 _ rfl rfl).items
    obtain ⟨q, rfl⟩ := (h2 3 d3 _ rfl rfl).items
    obtain ⟨b, rfl⟩ := (h2 4 d4 _ rfl rfl).bool_inv
    obtain ⟨c, rfl⟩ := (h2 5 d5 _ rfl rfl).bool_inv
    exact ⟨⟨n, s, p, q, b, c⟩, rfl⟩
theorem HasD.rules {d : DV} (h : HasD (.sl TRu) d) : ∃ l, d = DRs l := h.slice (f := encR) (fun e he => he.rule)
theorem SmallD.str {N : Nat} {s : ByteArray} (h : SmallD N (.v (.string s))) : s.size ≤ N := by cases h with | v h => exact h s rfl
theorem SmallD.items {N : Nat} {p : List Item} (h : SmallD N (DIts p)) : ∀ x ∈ p, x.lets.size ≤ N := fun x hx => by
  obtain ⟨i, hi⟩ := List.mem_iff_getElem?.1 hx
  cases h with
  | isl hl h => exact (h i (encIt x) 1 (.v (.string x.lets)) (by rw [List.getElem?_map, hi]; rfl) rfl).str
theorem SmallD.len {N : Nat} {nn : Bool} {sz : Nat} {es : List (List DV)} (h : SmallD N (.isl nn sz es)) : es.length ≤ N := by cases h with | isl hl _ => exact hl
theorem SmallD.ruleE {r : Rule} (h : ∀ d ∈ encR r, SmallD 1048576 d) : SmR r :=
  ⟨(h (.v (.string r.to)) (by simp [encR])).str, (h (DIts r.left) (by simp [encR])).items, (h (DIts r.right) (by simp [encR])).items⟩
theorem SmallD.rules {l : List Rule} (h : SmallD 1048576 (DRs l)) : ∀ r ∈ l, SmR r := fun r hr => by
  obtain ⟨i, hi⟩ := List.mem_iff_getElem?.1 hr
  cases h with
  | isl hl h =>
    refine SmallD.ruleE (fun d hd => ?_)
    obtain ⟨j, hj⟩ := List.mem_iff_getElem?.1 hd
    exact h i (encR r) j d (by rw [List.getElem?_map, hi]; rfl) hj
end Go.GH
