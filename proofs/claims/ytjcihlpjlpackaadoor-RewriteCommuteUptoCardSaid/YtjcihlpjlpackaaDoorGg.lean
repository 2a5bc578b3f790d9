/-
  Rules for make, slice and struct literals, cuts, conversions and ranges over strings, over abstract states. Proved here: each rule, from the model's own steps. No conditions.
-/
import Derived.Test.YtjcihlpjlpackaaDoorGf
import Derived.Laws.RangeAny
set_option linter.unusedVariables false
set_option linter.unusedSimpArgs false
namespace Go.GH
open Go Go.RowKit

/-- The cells of a value. -/
def ecells : DV → List DV
  | .agg cs => cs
  | d => [d]

theorem Rep.ecells {w : World} {F : Nat → Prop} {x : Value} {d : DV} (h : Rep w F x d) (hd : ∀ c ∈ ecells d, c.one = true) :
    x.cells.size = (GH.ecells d).length ∧ ∀ (j : Nat) (y : Value) (c : DV), x.cells[j]? = some y → (GH.ecells d)[j]? = some c → Rep w F y c ∧ y.oneCell' = true := by
  have key : GH.ecells d = [d] → x.cells.size = (GH.ecells d).length ∧ ∀ (j : Nat) (y : Value) (c : DV), x.cells[j]? = some y → (GH.ecells d)[j]? = some c → Rep w F y c ∧ y.oneCell' = true := fun e => by
    have h1 := h.one (hd d (by rw [e]; exact List.mem_singleton.2 rfl))
    rw [e, cells_one h1]
    refine ⟨rfl, fun j y c hy hc => ?_⟩
    match j, hy, hc with
    | 0, hy, hc => simp at hy hc; subst hy; subst hc; exact ⟨h, h1⟩
    | j + 1, hy, hc => simp at hc
  cases d with
  | agg cs =>
    cases h with
    | agg hl hr =>
      refine ⟨hl, fun j y c hy hc => ?_⟩
      have := hr j y c hy hc
      exact ⟨this, this.one (hd c (List.mem_of_getElem? hc))⟩
  | _ => exact key rfl

/-! #### the model's 'fill' -/
theorem foldl_splice : ∀ (vs : List Value) (cs : Array Value) (off j0 : Nat), off + j0 + vs.length ≤ cs.size →
    ((vs.zipIdx j0).foldl (fun cs (p : Value × Nat) => cs.setIfInBounds (off + p.2) p.1) cs).size = cs.size ∧
    ∀ q, ((vs.zipIdx j0).foldl (fun cs (p : Value × Nat) => cs.setIfInBounds (off + p.2) p.1) cs)[q]? = if off + j0 ≤ q ∧ q < off + j0 + vs.length then vs[q - (off + j0)]? else cs[q]?
  | [], cs, off, j0, _ => by
    refine ⟨rfl, fun q => ?_⟩
    rw [if_neg (by simp only [List.length_nil]; omega)]
    rfl
  | v :: vs, cs, off, j0, h => by
    simp only [List.zipIdx_cons, List.foldl_cons, List.length_cons] at *
    obtain ⟨h1, h2⟩ := foldl_splice vs (cs.setIfInBounds (off + j0) v) off (j0 + 1) (by simp; omega)
    refine ⟨by rw [h1]; simp, fun q => ?_⟩
    rw [h2 q]
    by_cases hq : q = off + j0
    · subst hq
      rw [if_neg (by omega), if_pos (by omega)]
      simp [show off + j0 < cs.size by omega]
    · by_cases hr : off + (j0 + 1) ≤ q ∧ q < off + (j0 + 1) + vs.length
      · rw [if_pos hr, if_pos (by omega), show q - (off + j0) = (q - (off + (j0 + 1))) + 1 from by omega]
        simp
      · rw [if_neg hr, if_neg (by omega), Array.getElem?_setIfInBounds, if_neg (by omega)]

theorem zipIdx_foldl (x : Value) (cs : Array Value) (off : Nat) (h : off + x.cells.size ≤ cs.size) :
    (x.cells.zipIdx.foldl (fun cs (c, j) => cs.setIfInBounds (off + j) c) cs).size = cs.size ∧
    ∀ q : Nat, (x.cells.zipIdx.foldl (fun cs (c, j) => cs.setIfInBounds (off + j) c) cs)[q]? = if off ≤ q ∧ q < off + x.cells.size then x.cells[q - off]? else cs[q]? := by
  have := foldl_splice x.cells.toList cs off 0 (by simpa using h)
  rw [← Array.foldl_toList, Array.toList_zipIdx]
  simpa using this

/-- Parts laid over cells, told of plain data: where each part lies, of what size, and what it is. -/
def dfill : List DV → List (Nat × Nat × DV) → Option (List DV)
  | cs, [] => some cs
  | cs, (off, size, d) :: l => if (ecells d).length = size ∧ off + size ≤ cs.length then dfill (cs.take off ++ ecells d ++ cs.drop (off + size)) l else none

def CellsRep (w : World) (F : Nat → Prop) (us : Array Value) (ds : List DV) : Prop :=
  us.size = ds.length ∧ ∀ (j : Nat) (x : Value) (d : DV), us[j]? = some x → ds[j]? = some d → Rep w F x d ∧ x.oneCell' = true

theorem fill_rep {w : World} {F : Nat → Prop} (place : Nat → Option (Nat × Nat)) : ∀ (ps : List (Nat × Value)) (qs : List (Nat × Nat × DV)) (us : Array Value) (ds ds' : List DV), CellsRep w F us ds → dfill ds qs = some ds' →
    ps.length = qs.length → (∀ (k : Nat) p q, ps[k]? = some p → qs[k]? = some q → place p.1 = some (q.1, q.2.1) ∧ Rep w F p.2 q.2.2 ∧ ∀ c ∈ ecells q.2.2, c.one = true) →
    ∃ us', Instr.fill place us ps = some us' ∧ CellsRep w F us' ds'
  | [], [], us, ds, ds', h, hd, _, _ => by simp [dfill] at hd; subst hd; exact ⟨us, rfl, h⟩
  | [], _ :: _, _, _, _, _, _, hl, _ => by simp at hl
  | _ :: _, [], _, _, _, _, _, hl, _ => by simp at hl
  | (i, v) :: ps, (off, size, d) :: qs, us, ds, ds', h, hd, hl, hp => by
    obtain ⟨h1, h2, h3⟩ := hp 0 (i, v) (off, size, d) rfl rfl
    dsimp only at h1 h2 h3
    simp only [dfill] at hd
    split at hd
    · rename_i hsz
      obtain ⟨k1, k2⟩ := h2.ecells h3
      have hfit : off + v.cells.size ≤ us.size := by rw [k1, h.1]; omega
      obtain ⟨f1, f2⟩ := zipIdx_foldl v us off hfit
      have hnew : CellsRep w F (v.cells.zipIdx.foldl (fun cs (c, j) => cs.setIfInBounds (off + j) c) us) (ds.take off ++ ecells d ++ ds.drop (off + size)) := by
        refine ⟨by rw [f1, h.1]; simp; omega, fun j x e hj he => ?_⟩
        rw [f2 j] at hj
        have hdl : (ds.take off).length = off := by simp; omega
        rw [List.append_assoc, List.getElem?_append, hdl] at he
        by_cases hj1 : j < off
        · rw [if_pos hj1, List.getElem?_take, if_pos hj1] at he
          rw [if_neg (by omega)] at hj
          exact h.2 j x e hj he
        · rw [if_neg hj1, List.getElem?_append] at he
          by_cases hj2 : j - off < (ecells d).length
          · rw [if_pos hj2] at he
            rw [if_pos (by omega)] at hj
            exact k2 _ x e hj he
          · rw [if_neg hj2, List.getElem?_drop] at he
            rw [if_neg (by omega)] at hj
            rw [show off + size + (j - off - (ecells d).length) = j from by omega] at he
            exact h.2 j x e hj he
      obtain ⟨us', r1, r2⟩ := fill_rep place ps qs _ _ ds' hnew hd (by simpa using hl) (fun k p q hk hq => hp (k + 1) p q (by simpa using hk) (by simpa using hq))
      refine ⟨us', ?_, r2⟩
      simp only [Instr.fill, h1]
      rw [if_neg (by simp; omega)]
      exact r1
    · cases hd

/-- Where the fields of a struct type lie. -/
def placesB (P : Program) (T : TypeId) (ps : List (Nat × Nat)) : Bool := match P.underlying T with
  | some (.struct fs) => fs.toList.length == ps.length && (fs.toList.zip ps).all (fun p => p.1.offset == p.2.1 && ((P.info? p.1.type).map (·.size) == some p.2.2))
  | _ => false
theorem run_places {P : Program} (w : World) : ∀ (fs : List Field) (ps : List (Nat × Nat)), fs.length = ps.length → ((fs.zip ps).all (fun p => p.1.offset == p.2.1 && ((P.info? p.1.type).map (·.size) == some p.2.2))) = true →
    (fs.mapM (fun f => (do pure (f.offset, ← sizeOf f.type) : Sem (Nat × Nat)))).run P w = .ok ps w
  | [], [], _, _ => by simp
  | [], _ :: _, h, _ => by simp at h
  | _ :: _, [], h, _ => by simp at h
  | f :: fs, p :: ps, h, ha => by
    simp only [List.zip_cons_cons, List.all_cons, Bool.and_eq_true, beq_iff_eq] at ha
    obtain ⟨⟨h1, h2⟩, h3⟩ := ha
    obtain ⟨i, hi, hs⟩ := Option.map_eq_some_iff.1 h2
    have ih := run_places w fs ps (by simpa using h) h3
    have hsz : (sizeOf f.type).run P w = .ok p.2 w := by simp [sizeOf, typeInfo, hi, hs]
    simp only [List.mapM_cons, Sem.run_bind, hsz, ih, Result.andThen_ok, Sem.run_pure, h1]
theorem zcells_rep {z : Value} (h : zcellsB z = true) (w : World) (F : Nat → Prop) : CellsRep w F z.cells (z.cells.toList.map DV.v) :=
  ⟨by simp, fun j x d hx hd => by
    simp at hd
    obtain ⟨y, hy, rfl⟩ := hd
    rw [hy] at hx
    obtain rfl := Option.some.inj hx
    exact ⟨.v (zcells_spec h j y hy).1, (zcells_spec h j y hy).2⟩⟩

section
variable {C : Ctx} {E : Env} {base : Base} {F : Nat → Prop} {st : St} {a : Act} {w : World} {ops : Array Oper} {rest : List Oper} {R : St → Prop}
  {t : Tmp} {ty : TypeId} {pos : String} {aft : Array Edge} {g : Option (Nat × Bool)}

def St.parts (st : St) (ps : List (Nat × Nat)) : List (Nat × Operand) → Option (List (Nat × Nat × DV))
  | [] => some []
  | (i, x) :: l => match ps[i]?, st.val x, st.parts ps l with
    | some p, some d, some r => some ((p.1, p.2, d) :: r)
    | _, _, _ => none
theorem SimF.parts (hs : SimF E base F st a w) (ps : List (Nat × Nat)) : ∀ (l : List (Nat × Operand)) (qs : List (Nat × Nat × DV)), st.parts ps l = some qs →
    l.length = qs.length ∧ ∀ (k : Nat) p q, l[k]? = some p → qs[k]? = some q → ps[p.1]? = some (q.1, q.2.1) ∧ Rep w F (a.eval p.2) q.2.2
  | [], qs, h => by obtain rfl := Option.some.inj h; exact ⟨rfl, fun k p q hk _ => by simp at hk⟩
  | (i, x) :: l, qs, h => by
    simp only [St.parts] at h
    split at h
    · rename_i p d r hp hd hr
      obtain rfl := Option.some.inj h
      obtain ⟨h1, h2⟩ := SimF.parts hs ps l r hr
      refine ⟨by simp [h1], fun k p' q hk hq => ?_⟩
      cases k with
      | zero => simp at hk hq; subst hk; subst hq; exact ⟨hp, hs.val hd⟩
      | succ k => simp at hk hq; exact h2 k p' q hk hq
    · cases h

/-- A struct literal. -/
theorem SOps.build {T : TypeId} {z : Value} {ps : List (Nat × Nat)} {parts : Array (Nat × Operand)} {qs : List (Nat × Nat × DV)} {ds : List DV} (hT : placesB C.P T ps = true) (hz : zeroIs C.P T z) (hq : st.parts ps parts.toList = some qs)
    (hf : dfill (z.cells.toList.map DV.v) qs = some ds) (h1 : ∀ q ∈ qs, ∀ c ∈ ecells q.2.2, c.one = true) (hrest : SOps C ops rest (st.put t (.agg ds)) R) (hb : zcellsB z = true := by rfl)
    (hg : st.wants ops g = some true := by rfl) (ht : Nat.blt t st.n = true := by rfl) : SOps C ops (⟨some t, .build T parts, ty, pos, aft, g⟩ :: rest) st R :=
  SOps.val rfl hg ht (fun base a w F hs => by
    obtain ⟨k1, k2⟩ := hs.parts ps parts.toList qs hq
    obtain ⟨us', r1, r2⟩ := fill_rep (w := w) (F := F) (ps[·]?) (parts.toList.map (fun p => (p.1, a.eval p.2))) qs z.cells _ ds (zcells_rep hb w F) hf (by simpa using k1) (fun k p q hp hq' => by
      rw [List.getElem?_map] at hp
      obtain ⟨p', hp', rfl⟩ := Option.map_eq_some_iff.1 hp
      exact ⟨(k2 k p' q hp' hq').1, (k2 k p' q hp' hq').2, h1 q (List.mem_of_getElem? hq')⟩)
    refine ⟨.agg us', ?_, .agg r2.1 (fun j x d hx hd => (r2.2 j x d hx hd).1)⟩
    unfold placesB at hT
    split at hT
    · rename_i fs hu
      simp only [Bool.and_eq_true, beq_iff_eq] at hT
      have hpl := run_places (P := C.P) w fs.toList ps hT.1 hT.2
      have hpl' : (fs.mapM (fun f => (do pure (f.offset, ← sizeOf f.type) : Sem (Nat × Nat)))).run C.P w = .ok ps.toArray w := by
        rw [Array.mapM_eq_mapM_toList, Sem.run_map, hpl]; rfl
      have hfill : Instr.fill (fun x => ps.toArray[x]?) z.cells (parts.map (fun p => (p.1, a.eval p.2))).toList = some us' := by
        simpa using r1
      rw [show execOp a.eval ⟨some t, .build T parts, ty, pos, aft, g⟩ = (do pure (.value (← Instr.build T (parts.map fun (i, x) => (i, a.eval x))))) from rfl]
      simp only [Instr.build, Sem.run_bind, run_zeroValue hz, Result.andThen_ok, run_underlying hu, hpl', hfill, Sem.run_pure]
    · cases hT) hrest

def arrayB (P : Program) (T n e sz : Nat) : Bool := match P.underlying T with
  | some (.array n' e') => n' == n && e' == e && ((P.info? e).map (·.size) == some sz)
  | _ => false
/-- An array literal. -/
theorem SOps.buildArr {T n e sz : TypeId} {z : Value} {parts : Array (Nat × Operand)} {qs : List (Nat × Nat × DV)} {ds : List DV} (hT : arrayB C.P T n e sz = true) (hz : zeroIs C.P T z) (hq : st.parts ((List.range n).map (fun i => (i * sz, sz))) parts.toList = some qs)
    (hf : dfill (z.cells.toList.map DV.v) qs = some ds) (h1 : ∀ q ∈ qs, ∀ c ∈ ecells q.2.2, c.one = true) (hrest : SOps C ops rest (st.put t (.agg ds)) R) (hb : zcellsB z = true := by rfl)
    (hg : st.wants ops g = some true := by rfl) (ht : Nat.blt t st.n = true := by rfl) : SOps C ops (⟨some t, .build T parts, ty, pos, aft, g⟩ :: rest) st R :=
  SOps.val rfl hg ht (fun base a w F hs => by
    obtain ⟨k1, k2⟩ := hs.parts _ parts.toList qs hq
    obtain ⟨us', r1, r2⟩ := fill_rep (w := w) (F := F) (fun i => some (i * sz, sz)) (parts.toList.map (fun p => (p.1, a.eval p.2))) qs z.cells _ ds (zcells_rep hb w F) hf (by simpa using k1) (fun k p q hp hq' => by
      rw [List.getElem?_map] at hp
      obtain ⟨p', hp', rfl⟩ := Option.map_eq_some_iff.1 hp
      obtain ⟨e1, e2⟩ := k2 k p' q hp' hq'
      refine ⟨?_, e2, h1 q (List.mem_of_getElem? hq')⟩
      rw [List.getElem?_map] at e1
      obtain ⟨m, hm, e3⟩ := Option.map_eq_some_iff.1 e1
      have hlt : p'.1 < n := by have := (List.getElem?_eq_some_iff.1 hm).1; simpa using this
      rw [List.getElem?_range hlt] at hm
      obtain rfl := Option.some.inj hm
      simp only [e3])
    refine ⟨.agg us', ?_, .agg r2.1 (fun j x d hx hd => (r2.2 j x d hx hd).1)⟩
    unfold arrayB at hT
    split at hT
    · rename_i n' e' hu
      simp only [Bool.and_eq_true, beq_iff_eq] at hT
      obtain ⟨⟨rfl, rfl⟩, h3⟩ := hT
      obtain ⟨i, hi, hsz⟩ := Option.map_eq_some_iff.1 h3
      have hfill : Instr.fill (fun i => some (i * sz, sz)) z.cells (parts.map (fun p => (p.1, a.eval p.2))).toList = some us' := by simpa using r1
      rw [show execOp a.eval ⟨some t, .build T parts, ty, pos, aft, g⟩ = (do pure (.value (← Instr.build T (parts.map fun (i, x) => (i, a.eval x))))) from rfl]
      simp only [Instr.build, Sem.run_bind, run_zeroValue hz, Result.andThen_ok, run_underlying hu, sizeOf, typeInfo, run_program, hi, hsz, hfill, Sem.run_pure]
    · cases hT) hrest
end
end Go.GH
