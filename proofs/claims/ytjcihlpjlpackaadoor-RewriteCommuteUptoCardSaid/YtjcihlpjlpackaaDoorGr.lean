/-
  Rules for append where nothing may be added. Proved here: each rule, from the model's own steps. No conditions.
-/
import Derived.Test.YtjcihlpjlpackaaDoorGq
set_option linter.unusedVariables false
set_option linter.unusedSimpArgs false
namespace Go.GH
open Go Go.RowKit
section
variable {C : Ctx} {E : Env} {base : Base} {F : Nat → Prop} {st : St} {a : Act} {w : World} {ops : Array Oper} {rest : List Oper} {R : St → Prop}
  {t : Tmp} {ty : TypeId} {pos : String} {aft : Array Edge} {g : Option (Nat × Bool)}

theorem intB_slice {P : Program} {T e : TypeId} (h : P.underlying T = some (.slice e)) : ((P.underlying T).map (fun d => match d with | .int _ => true | _ => false)) = some false := by rw [h]; rfl
theorem append_zero {P : Program} {w : World} {T e sz : Nat} (hT : sliceB P T e sz = true) (ty : TypeId) (A A' : Option Addr) (len cap c' : Nat) (hcap : len ≤ cap) :
    (Builtin.append_ #[T, T] ty #[.slice A len cap, .slice A' 0 c']).run P w = .ok (.slice A len cap) w := by
  obtain ⟨hu, i, hi, hs⟩ := sliceB_spec hT
  unfold Builtin.append_
  simp only [List.getElem?_toArray, List.getElem?_cons_zero, List.getElem?_cons_succ, Sem.run_bind, run_underlying hu, Result.andThen_ok, sizeOf, typeInfo, run_program, hi, Sem.run_pure, pure_bind, Builtin.lenOf, Bool.false_eq_true, if_false, Bool.not_false, if_true, Nat.add_zero, if_pos hcap]
  cases A' with
  | none => cases A <;> simp [Builtin.firstCells, storeCells]
  | some b => cases A <;> simp [Builtin.firstCells, loadCells, loadCellsFrom, storeCells]
/-- Nothing is appended. -/
theorem SOps.append0 {T e sz : Nat} {xo yo : Operand} {d dy : DV} (hT : sliceB C.P T e sz = true) (hx : st.val xo = some d) (hd : (∃ b n, d = .sl b sz 0 n) ∨ d = .v (.slice none 0 0)) (hy : st.val yo = some dy) (hs' : SrcD st dy sz [])
    (hrest : SOps C ops rest (st.put t d) R)
    (hg : st.wants ops g = some true := by rfl) (ht : Nat.blt t st.n = true := by rfl) :
    SOps C ops (⟨some t, .call { callee := .builtin .append, args := #[xo, yo], argTypes := #[T, T] }, ty, pos, aft, g⟩ :: rest) st R :=
  SOps.val rfl hg ht (fun base a w F hs => by
    have h1 := hs.val hx
    obtain ⟨A', m, c', news, h2, h3, _⟩ := hs.src (hs.val hy) hs'
    simp only [List.length_nil] at h3
    subst h3
    refine ⟨a.eval xo, ?_, h1⟩
    have key : ∃ A len cap, a.eval xo = .slice A len cap ∧ len ≤ cap := by
      generalize a.eval xo = v at h1
      rcases hd with ⟨b, n, rfl⟩ | rfl
      · cases h1 with
        | sl q1 q2 q3 q4 => exact ⟨_, _, _, rfl, q1⟩
      · exact ⟨none, 0, 0, h1.inv_v.1, Nat.le_refl _⟩
    obtain ⟨A, len, cap, h4, h5⟩ := key
    have := append_zero (P := C.P) (w := w) hT ty A A' len cap c' h5
    rw [exec_append a xo yo T (v := .slice A len cap) (w' := w) (by rw [h2, h4]; exact this), h4]) hrest
/-- append onto a slice that owns its row, of what may be nothing. -/
theorem SOps.appendOwnE (i : Nat) {T e sz by_ b n : Nat} {xo yo : Operand} {d : DV} {es ns : List (List DV)} (hT : sliceB C.P T e sz = true) (hE : elemB C.P e sz by_ = true) (hx : st.val xo = some (.sl b sz 0 n)) (hy : st.val yo = some d)
    (hi : st.heap[i]? = some (b, .row e sz es)) (hn : es.length = n) (hs' : SrcD st d sz ns) (hB : n + ns.length ≤ lenB) (hby : (n + ns.length) * by_ ≤ 140737488355328)
    (hrest : ∀ b', SOps C ops rest ⟨st.n, (t, .sl b' sz 0 (n + ns.length)) :: st.slots, st.heap.set i (b', .row e sz (es ++ ns))⟩ R)
    (hg : st.wants ops g = some true := by rfl) (ht : Nat.blt t st.n = true := by rfl) :
    SOps C ops (⟨some t, .call { callee := .builtin .append, args := #[xo, yo], argTypes := #[T, T] }, ty, pos, aft, g⟩ :: rest) st R := by
  cases ns with
  | nil =>
    refine SOps.append0 hT hx (.inl ⟨b, n, rfl⟩) hy hs' ?_ hg ht
    have h0 := hrest b
    have e1 : st.heap.set i (b, .row e sz (es ++ [])) = st.heap := by
      rw [List.append_nil]
      apply List.ext_getElem?
      intro j
      rw [List.getElem?_set]
      split
      · rename_i e; subst e
        rw [if_pos (List.getElem?_eq_some_iff.1 hi).1]; exact hi.symm
      · rfl
    rw [e1] at h0
    exact h0
  | cons x ns => exact SOps.appendOwn i hT hE hx hy hi hn hs' (by simp) hB hby (fun b' _ => hrest b') hg ht
/-- append onto an accumulator, of what may be nothing. -/
theorem SOps.appendAccE (H1 H2 : DHeap) {T e sz by_ b : Nat} {xo yo : Operand} {d : DV} {es ns : List (List DV)} (hT : sliceB C.P T e sz = true) (hE : elemB C.P e sz by_ = true) (hx : st.val xo = some (accD sz b es)) (hy : st.val yo = some d)
    (hh : st.heap = H1 ++ (accH e sz b es ++ H2)) (hs' : SrcD st d sz ns) (hB : es.length + ns.length ≤ lenB) (hby : (es.length + ns.length) * by_ ≤ 140737488355328)
    (hrest : ∀ b', SOps C ops rest ⟨st.n, (t, accD sz b' (es ++ ns)) :: st.slots, H1 ++ (accH e sz b' (es ++ ns) ++ H2)⟩ R)
    (hg : st.wants ops g = some true := by rfl) (ht : Nat.blt t st.n = true := by rfl) :
    SOps C ops (⟨some t, .call { callee := .builtin .append, args := #[xo, yo], argTypes := #[T, T] }, ty, pos, aft, g⟩ :: rest) st R := by
  cases ns with
  | nil =>
    have h0 := hrest b
    rw [List.append_nil, ← hh] at h0
    refine SOps.append0 hT hx ?_ hy hs' h0 hg ht
    cases es with
    | nil => exact .inr rfl
    | cons x es => exact .inl ⟨b, es.length + 1, rfl⟩
  | cons x ns => exact SOps.appendAcc H1 H2 hT hE hx hy hh hs' (by simp) hB hby hrest hg ht
theorem SOps.reSlot {l : List Oper} {d d' : DV} (hd : st.get t = some d) (he : d = d') (h : SOps C ops l ⟨st.n, (t, d') :: st.slots, st.heap⟩ R) : SOps C ops l st R := by
  subst he
  have key : ∀ u e, getL ((t, d) :: st.slots) u = some e → getL st.slots u = some e := fun u e hu => by
    rw [getL_cons] at hu
    split at hu
    · rename_i h1
      simp only at h1
      subst h1
      obtain rfl := Option.some.inj hu
      exact hd
    · exact hu
  exact SOps.weaken (st' := ⟨st.n, (t, d) :: st.slots, st.heap⟩) ⟨rfl, fun u e hu => .inl (key u e hu), st.heap, .refl _, List.Sublist.refl _⟩ h
end
end Go.GH
