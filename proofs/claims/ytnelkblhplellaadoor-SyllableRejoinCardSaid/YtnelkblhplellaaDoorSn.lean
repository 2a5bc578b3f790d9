/-
  strings.ReplaceAll where a dash is struck. No conditions.
-/
import Derived.Test.YtnelkblhplellaaDoorSm
import Derived.Test.YtnelkblhplellaaDoorSg
import Derived.Lib.Replace
import Derived.Lib.ReplaceLaws
import Derived.Lib.SplitLaws
import Derived.Lib.IndexBytes
import Derived.Lib.IndexLaws
set_option linter.unusedVariables false
namespace Go.GH
open Go Go.Lib Go.Proofs Go.RowKit Go.Proofs.YtnelkblhplellaaDoor
theorem indexByte_cons_ne {b c : UInt8} (h : b ≠ c) (l : List UInt8) : indexByte (b :: l) c = if indexByte l c = -1 then -1 else indexByte l c + 1 := by
  have e : indexByte (b :: l) c = if b == c then 0 else if indexByte l c == -1 then -1 else indexByte l c + 1 := rfl
  rw [e, if_neg (by simpa using h)]
  by_cases hm : indexByte l c = -1
  · rw [if_pos hm, if_pos (by simpa using hm)]
  · rw [if_neg hm, if_neg (by simpa using hm)]
theorem replaceK_strike (c : UInt8) : ∀ (s : List UInt8) (k : Nat), s.count c ≤ k → replaceK [c] [] k s = s.filter (fun b => b != c)
  | [], k, _ => by
    cases k with
    | zero => rfl
    | succ k => rw [replaceK, index_one]; rfl
  | b :: l, k, h => by
    by_cases hb : b = c
    · subst hb
      rw [List.count_cons_self] at h
      obtain ⟨k, rfl⟩ : ∃ j, k = j + 1 := ⟨k - 1, by omega⟩
      rw [replaceK_hit [b] [] k (b :: l) 0 (by rw [index_one]; unfold indexByte; rw [if_pos (by simp)]; rfl)]
      simp only [List.take_zero, List.nil_append, List.length_singleton, Nat.zero_add, List.drop_succ_cons, List.drop_zero]
      rw [replaceK_strike b l k (by omega), List.filter_cons_of_neg (by simp)]
    · rw [List.count_cons_of_ne (by simpa using hb)] at h
      have ih := replaceK_strike c l k h
      rw [List.filter_cons_of_pos (by simpa using hb), ← ih]
      cases k with
      | zero => rfl
      | succ k =>
        by_cases hm : indexByte l c = -1
        · have h1 : index (b :: l) [c] = -1 := by rw [index_one, indexByte_cons_ne hb, if_pos hm]
          have h2 : index l [c] = -1 := by rw [index_one, hm]
          rw [replaceK, replaceK, h1, h2]; rfl
        · have hg := indexByte_ge l c
          obtain ⟨o, ho⟩ : ∃ o : Nat, indexByte l c = o := ⟨(indexByte l c).toNat, by omega⟩
          have h1 : index (b :: l) [c] = ((o + 1 : Nat) : Int) := by rw [index_one, indexByte_cons_ne hb, if_neg hm, ho]; omega
          rw [replaceK_hit _ _ _ _ _ h1, replaceK_hit _ _ _ _ o (by rw [index_one, ho])]
          simp
theorem replaceAll_strike (s : List UInt8) : replaceAll s [45] [] = s.filter (fun b => b != 45) := by
  unfold replaceAll replace
  rw [if_neg (by decide)]
  unfold replaceNum
  rw [if_pos (.inl (by decide)), count_one]
  exact replaceK_strike 45 s _ (Nat.le_refl _)
theorem GCall.env {P : Program} {E E' : Env} {f : FuncId} {ds : List DV} {H : DHeap} {R : DV → DHeap → Prop} (h : GCall P E f ds H R) (he : ∀ w F, E'.holds w F → E.holds w F) : GCall P E' f ds H R :=
  ⟨h.1, fun w F vs h1 => h.2 w F vs (he w F h1)⟩
/-- The library's tables, and a count that the code of bytes reads. -/
def E1 : Env where
  holds := fun w F => E0.holds w F ∧ (∃ m, w.cell? ⟨Tryd.laysRepl_ren.g 1, 0, none⟩ = some (.int .i64 m)) ∧ F (Tryd.laysRepl_ren.g 1)
  mono := fun {w w' F F'} hw hF h => by
    obtain ⟨h1, ⟨m, h2⟩, h3⟩ := h
    exact ⟨E0.mono hw hF h1, ⟨m, by rw [cell?_same (hw _ h3)]; exact h2⟩, hF _ h3⟩
theorem E1_E0 (w : World) (F : Nat → Prop) (h : E1.holds w F) : E0.holds w F := h.1
theorem vsE1 : VS E1 := fun s => (vsE0 s).env E1_E0
theorem awE1 : AW E1 := GCall.env awE0 E1_E0
theorem bldExtra : Builder.Extra Tryd.prog Tryd.laysRepl_ren :=
  { sizeBuilder := by kernel_rfl, liesBuilder := by kernel_rfl, t5 := Tryd.underlying5, a5 := Tryd.isAgg5, z5 := Tryd.sizeOf5, v5 := Tryd.zeroValue5, infoByte := by kernel_rfl, cellsByte := by kernel_rfl, sizeByte := by kernel_rfl, neB5 := by decide }
theorem arg3 {w : World} {F : Nat → Prop} {vs : Array Value} {x y z : Value} (hl : vs.size = 3) (hr : ∀ (j : Nat) (v : Value) (d : DV), vs[j]? = some v → [DV.v x, .v y, .v z][j]? = some d → Rep w F v d) : vs = #[x, y, z] := by
  have h0 := hr 0 vs[0] (.v x) (Array.getElem?_eq_getElem (by omega)) rfl
  have h1 := hr 1 vs[1] (.v y) (Array.getElem?_eq_getElem (by omega)) rfl
  have h2 := hr 2 vs[2] (.v z) (Array.getElem?_eq_getElem (by omega)) rfl
  apply Array.ext
  · simpa using hl
  · intro i h3 h4
    have : i = 0 ∨ i = 1 ∨ i = 2 := by omega
    rcases this with rfl | rfl | rfl
    · exact h0.inv_v.1
    · exact h1.inv_v.1
    · exact h2.inv_v.1
theorem raE1 : RA E1 := fun s hs =>
  GCall.ofCalls (by kernel_rfl) (by
    show (rejoin s).size ≤ 9223372036854775807
    have h1 : (rejoin s).size ≤ s.size := by
      show ((s.data.toList.filter (fun b => b != 45)).toArray).size ≤ s.size
      have := List.length_filter_le (fun b => b != (45 : UInt8)) s.data.toList
      have hz : s.data.toList.length = s.size := by simp
      rw [List.size_toArray]; omega
    omega) (fun w F vs hE hl hr => by
    obtain rfl := arg3 hl hr
    obtain ⟨m, hm⟩ := hE.2.1
    have h := Any.strings_ReplaceAll { Tryd.laysRepl with } bldExtra s { data := #[45] } { data := #[] } m w (by omega) hm (Nat.le_refl _) (by
      have : (ByteArray.mk #[]).size = 0 := rfl
      rw [this, Nat.mul_zero]; omega)
    rw [show (ByteArray.mk #[45]).data.toList = [45] from rfl, show (ByteArray.mk #[]).data.toList = [] from rfl, replaceAll_strike] at h
    exact h)
theorem laid_E1 (W : World) (h : laidMetH Tryd.prog Rows.syllableValidRow.laid W) (hS : W.ShapedOpen Tryd.prog) : E1.holds W (AllF W) := by
  obtain ⟨m, hm⟩ := Tryd.laysRepl.s1_3 W hS
  exact ⟨laid_E0 W h, ⟨m, hm⟩, (cell?_lt hm).1⟩
end Go.GH
