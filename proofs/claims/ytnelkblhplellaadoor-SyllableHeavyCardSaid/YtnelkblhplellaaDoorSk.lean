/-
  utf8.DecodeLastRuneInString over the listed tables. No conditions.
-/
import Derived.Test.YtnelkblhplellaaDoorSi
import Derived.Test.YtnelkblhplellaaDoorSg
set_option linter.unusedVariables false
namespace Go.GH
open Go Go.Lib Go.Proofs Go.RowKit
/-- A library's contract that only reads and answers a pair. -/
theorem GCall.ofCalls2 {P : Program} {E : Env} {f : FuncId} {ds : List DV} {x y : Value} (hb : hasBody P f = true)
    (h : ∀ w F (vs : Array Value), E.holds w F → vs.size = ds.length → (∀ (j : Nat) (v : Value) (d : DV), vs[j]? = some v → ds[j]? = some d → Rep w F v d) → (scal x ∧ scal y) ∧ Calls P f vs w (fun e w' => e = .returned (.tuple #[x, y]) ∧ Below w.heap.size w w')) :
    GCall P E f ds [] (fun d H => d = .tup [.v x, .v y] ∧ H = []) :=
  ⟨hb, fun w F vs hE hF hl hr _ _ => have ⟨⟨hx, hy⟩, hc⟩ := h w F vs hE hl hr; hc.mono (fun e w' ⟨he, bel⟩ =>
    ⟨.tuple #[x, y], .tup [.v x, .v y], [], F, he, ⟨rfl, rfl⟩, fun _ h => h, fun b h => ⟨Nat.lt_of_lt_of_le (hF b h) (Step.of_below bel).size, .inl h⟩,
      .tup rfl (fun j u d h1 h2 => by
        match j, h1, h2 with
        | 0, h1, h2 => simp at h1 h2; subst h1; subst h2; exact .v hx
        | 1, h1, h2 => simp at h1 h2; subst h1; subst h2; exact .v hy
        | j + 2, h1, h2 => simp at h1), (fun p hp => by cases hp), List.nodup_nil, (Step.of_below bel).mono (fun _ _ h => h.elim)⟩)⟩
theorem dlE0 : DL E0 := fun s =>
  GCall.ofCalls2 (by kernel_rfl) (fun w F vs hE hl hr => by
    obtain ⟨rfl, hs⟩ := arg1 hl hr
    have hs' : s.size ≤ 9223372036854775807 := hs
    have h1 := decodeLastL_rune s.data.toList
    have h2 : (decodeLastL s.data.toList).2 ≤ 9223372036854775807 := by
      by_cases h0 : 0 < s.data.toList.length
      · have := (decodeLastL_width _ h0).2
        have hz : s.data.toList.length = s.size := by simp
        omega
      · have : s.data.toList = [] := List.eq_nil_of_length_eq_zero (by omega)
        rw [this]; decide
    refine ⟨⟨?_, ?_⟩, Any.utf8_DecodeLastRuneInString Tryd.laysLast s w hs hE.1⟩
    · exact ⟨by show (-2147483648 : Int) ≤ _; omega, by show _ ≤ (2147483647 : Int); omega⟩
    · exact ⟨by show (-9223372036854775808 : Int) ≤ _; omega, by show _ ≤ (9223372036854775807 : Int); omega⟩)
end Go.GH
