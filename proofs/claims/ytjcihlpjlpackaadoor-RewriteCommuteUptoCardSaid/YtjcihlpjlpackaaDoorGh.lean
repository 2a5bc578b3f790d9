/-
  Rules for slice literals, make, cuts, conversions and ranges over strings, over abstract states. Proved here: each rule, from the model's own steps. No conditions.
-/
import Derived.Test.YtjcihlpjlpackaaDoorGg
set_option linter.unusedVariables false
set_option linter.unusedSimpArgs false
namespace Go.GH
open Go Go.RowKit

theorem shape_new (w : World) (us : Array Value) (e : TypeId) : (w.alloc (.cells us e)).shape? w.heap.size = some (e, us.size) := by
  unfold World.shape?; rw [heap_new']
theorem flatten_get {α : Type} {sz : Nat} : ∀ (es : List (List α)), (∀ e ∈ es, e.length = sz) → ∀ (i j : Nat) (e : List α), es[i]? = some e → j < sz → es.flatten[i * sz + j]? = e[j]?
  | [], _, i, _, _, h, _ => by simp at h
  | e0 :: es, hl, 0, j, e, h, hj => by
    simp at h; subst h
    have := hl _ (List.mem_cons_self ..)
    rw [List.flatten_cons, List.getElem?_append, if_pos (by omega)]
    congr 1; omega
  | e0 :: es, hl, i + 1, j, e, h, hj => by
    simp at h
    have h0 := hl _ (List.mem_cons_self ..)
    rw [List.flatten_cons, List.getElem?_append, if_neg (by rw [h0, Nat.add_mul]; omega), h0, ← flatten_get es (fun e he => hl e (List.mem_cons_of_mem _ he)) i j e h hj]
    congr 1; rw [Nat.add_mul]; omega
theorem flatten_len {α : Type} {sz : Nat} : ∀ (es : List (List α)), (∀ e ∈ es, e.length = sz) → es.flatten.length = es.length * sz
  | [], _ => by simp
  | e :: es, h => by
    rw [List.flatten_cons, List.length_append, h _ (List.mem_cons_self ..), flatten_len es (fun e he => h e (List.mem_cons_of_mem _ he)), List.length_cons, Nat.add_mul]; omega

theorem row_flat {w w' : World} {F : Nat → Prop} {elem sz : Nat} {us : Array Value} {es : List (List DV)} {b : Nat} (hh : w'.heap[b]? = some (.cells us elem (0, 0))) (hc : CellsRep w' F us es.flatten) (hl : ∀ e ∈ es, e.length = sz) (hB : es.length ≤ lenB) :
    ObjRep w' F b (.row elem sz es) := by
  refine ⟨us, hh, by rw [hc.1, flatten_len es hl]; exact Nat.le_refl _, hB, fun i e hi => ⟨hl e (List.mem_of_getElem? hi), fun j d hj => ?_⟩⟩
  have hjl : j < sz := by rw [← hl e (List.mem_of_getElem? hi)]; exact (List.getElem?_eq_some_iff.1 hj).1
  have h1 := flatten_get es hl i j e hi hjl
  rw [hj] at h1
  have hlt : i * sz + j < us.size := by rw [hc.1]; exact (List.getElem?_eq_some_iff.1 h1).1
  have := hc.2 _ us[i * sz + j] d (Array.getElem?_eq_getElem hlt) h1
  exact ⟨_, Array.getElem?_eq_getElem hlt, this.2, this.1⟩
theorem CellsRep.mono {w w' : World} {F : Nat → Prop} {us : Array Value} {ds : List DV} (h : CellsRep w F us ds) (hr : ∀ u d, Rep w F u d → Rep w' F u d) : CellsRep w' F us ds :=
  ⟨h.1, fun j x d hx hd => ⟨hr _ _ (h.2 j x d hx hd).1, (h.2 j x d hx hd).2⟩⟩

/-- n elements' cells, each as z has them. -/
def zrow (z : Value) (sz n : Nat) : List DV := (List.range (n * sz)).map (fun q => .v (z.cells.getD (q % sz) undef))
theorem zrow_rep {z : Value} (h : zcellsB z = true) {sz : Nat} (hz : z.cells.size = sz) (n : Nat) (w : World) (F : Nat → Prop) :
    CellsRep w F ((Array.range (n * sz)).map (z.cells[· % z.cells.size]!)) (zrow z sz n) := by
  refine ⟨by simp [zrow], fun j x d hx hd => ?_⟩
  unfold zrow at hd
  rw [List.getElem?_map] at hd
  obtain ⟨q, hq, rfl⟩ := Option.map_eq_some_iff.1 hd
  have hlt : j < n * sz := by have := (List.getElem?_eq_some_iff.1 hq).1; simpa using this
  rw [List.getElem?_range hlt] at hq
  obtain rfl := Option.some.inj hq
  have hm : j % sz < z.cells.size := by rw [hz]; exact Nat.mod_lt _ (by rcases Nat.eq_zero_or_pos sz with h | h; (subst h; simp at hlt); exact h)
  have e1 : z.cells.getD (j % sz) undef = z.cells[j % sz] := by simp [Array.getD, hm]
  have e2 : x = z.cells[j % sz] := by
    have hx' := hx
    rw [Array.getElem?_map] at hx'
    obtain ⟨q, hq, rfl⟩ := Option.map_eq_some_iff.1 hx'
    have hqj : q = j := by
      have := (Array.getElem?_eq_some_iff.1 hq).2
      simpa using this.symm
    subst hqj
    rw [hz]
    exact getElem!_pos z.cells (q % sz) hm
  rw [e1, e2]
  have := zcells_spec h _ _ (Array.getElem?_eq_getElem hm)
  exact ⟨.v this.1, this.2⟩

section
variable {C : Ctx} {E : Env} {base : Base} {F : Nat → Prop} {st : St} {a : Act} {w : World} {ops : Array Oper} {rest : List Oper} {R : St → Prop}
  {t : Tmp} {ty : TypeId} {pos : String} {aft : Array Edge} {g : Option (Nat × Bool)}

/-- A slice literal. -/
theorem SOps.buildSlice {T e sz n : Nat} {z : Value} {parts : Array (Nat × Operand)} {qs : List (Nat × Nat × DV)} {ds : List DV} {es : List (List DV)} (hT : sliceB C.P T e sz = true) (hz : zeroIs C.P e z) (hq : st.parts ((List.range n).map (fun i => (i * sz, sz))) parts.toList = some qs)
    (hf : dfill (zrow z sz n) qs = some ds) (he : es.flatten = ds) (hl : ∀ e ∈ es, e.length = sz) (h1 : ∀ q ∈ qs, ∀ c ∈ ecells q.2.2, c.one = true) (hrest : ∀ b, st.fresh b → SOps C ops rest ⟨st.n, (t, .sl b sz 0 n) :: st.slots, (b, .row e sz es) :: st.heap⟩ R)
    (hn : Nat.ble (n * sz) 16777216 = true := by rfl) (hel : es.length = n := by rfl) (hnl : Nat.ble n 16777216 = true := by rfl) (hzs : z.cells.size = sz := by rfl) (hb : zcellsB z = true := by rfl)
    (hg : st.wants ops g = some true := by rfl) (ht : Nat.blt t st.n = true := by rfl) : SOps C ops (⟨some t, .buildSlice T n parts, ty, pos, aft, g⟩ :: rest) st R := by
  have hnB : n ≤ lenB := by have := Nat.le_of_ble_eq_true hnl; unfold lenB; omega
  refine SOps.new (d := fun b => .sl b sz 0 n) (ob := fun _ => .row e sz es) rfl hg ht (fun base a w F hs => ?_) hrest
  obtain ⟨k1, k2⟩ := hs.parts _ parts.toList qs hq
  obtain ⟨us', r1, r2⟩ := fill_rep (w := w) (F := F) (fun i => some (i * sz, sz)) (parts.toList.map (fun p => (p.1, a.eval p.2))) qs _ _ ds (zrow_rep hb hzs n w F) hf (by simpa using k1) (fun k p q hp hq' => by
    rw [List.getElem?_map] at hp
    obtain ⟨p', hp', rfl⟩ := Option.map_eq_some_iff.1 hp
    obtain ⟨e1, e2⟩ := k2 k p' q hp' hq'
    refine ⟨?_, e2, h1 q (List.mem_of_getElem? hq')⟩
    rw [List.getElem?_map] at e1
    obtain ⟨m, hm, e3⟩ := Option.map_eq_some_iff.1 e1
    have hlt : p'.1 < n := by have := (List.getElem?_eq_some_iff.1 hm).1; simpa using this
    rw [List.getElem?_range hlt] at hm
    obtain rfl := Option.some.inj hm
    simp only [e3])
  have hsize : us'.size = n * sz := by rw [r2.1, ← he, flatten_len es hl, hel]
  have k := Step.alloc (fun _ => False) w (.cells us' e)
  obtain ⟨hu, i, hi, hsz⟩ := sliceB_spec hT
  have hfill : Instr.fill (fun i => some (i * sz, sz)) ((Array.range (n * sz)).map (z.cells[· % z.cells.size]!)) (parts.map (fun p => (p.1, a.eval p.2))).toList = some us' := by simpa using r1
  have hn' := Nat.le_of_ble_eq_true hn
  refine ⟨w, .slice (some ⟨w.heap.size, 0, none⟩) n n, .cells us' e, Step.refl _ _, rfl, ?_, ?_, ?_⟩
  · rw [show execOp a.eval ⟨some t, .buildSlice T n parts, ty, pos, aft, g⟩ = (do pure (.value (← Instr.buildSlice T n (parts.map fun (i, x) => (i, a.eval x))))) from rfl]
    have hsz' : (sizeOf e).run C.P w = .ok sz w := by simp [sizeOf, typeInfo, hi, hsz]
    have hn2 : ¬ (n * sz > 2 ^ 24) := by
      have : (2 : Nat) ^ 24 = 16777216 := by decide
      omega
    by_cases h0 : n * sz = 0
    · have hfill0 : Instr.fill (fun i => some (i * sz, sz)) ((Array.range (n * sz)).map ((#[] : Array Value)[· % (#[] : Array Value).size]!)) (parts.map (fun p => (p.1, a.eval p.2))).toList = some us' := by
        have : ((Array.range (n * sz)).map ((#[] : Array Value)[· % (#[] : Array Value).size]!)) = ((Array.range (n * sz)).map (z.cells[· % z.cells.size]!)) := by rw [h0]; apply Array.ext <;> simp
        rw [this]; exact hfill
      simp only [Instr.buildSlice, Sem.run_bind, run_underlying hu, Result.andThen_ok, hsz', hn2, if_false, h0, if_true, Sem.run_pure, pure_bind]
      rw [h0] at hfill0
      simp only [hfill0, newRow, Sem.run_bind, run_newObj, Result.andThen_ok, Sem.run_pure]
      rfl
    · simp only [Instr.buildSlice, Sem.run_bind, run_underlying hu, Result.andThen_ok, hsz', hn2, if_false, h0, Sem.run_pure, run_zeroValue hz, hfill, newRow, run_newObj, pure_bind]
      rfl
  · have := Rep.sl (w := w.alloc (.cells us' e)) (F := F) (b := w.heap.size) (sz := sz) (off := 0) (len := n) (cap := n) (e := e) (n := us'.size) (Nat.le_refl _) (shape_new ..) (by rw [hsize]; simp) hnB
    simpa using this
  · exact row_flat (w := w) (heap_new' w _) (by rw [he]; exact r2.mono (fun u d hr => hr.mono (fun c hc => k.block c (hs.lt c hc).1 (fun x => x)) k.shape (fun _ h => h))) hl (by rw [hel]; exact hnB)

/-- make([]T, n). -/
theorem SOps.makeSlice {T e sz by_ : Nat} {z : Value} {lo co : Operand} {kl kc : IntKind} (n : Nat) (hT : sliceB C.P T e sz = true) (hE : elemB C.P e sz by_ = true) (hz : zeroIs C.P e z) (hlo : st.val lo = some (.v (.int kl n))) (hco : st.val co = some (.v (.int kc n)))
    (hby : n * by_ ≤ 281474976710656) (hB : n ≤ lenB) (hrest : ∀ b, st.fresh b → SOps C ops rest ⟨st.n, (t, .sl b sz 0 n) :: st.slots, (b, .row e sz (List.replicate n (z.cells.toList.map DV.v))) :: st.heap⟩ R) (hb : zcellsB z = true := by rfl)
    (hg : st.wants ops g = some true := by rfl) (ht : Nat.blt t st.n = true := by rfl) : SOps C ops (⟨some t, .makeSlice T lo co, ty, pos, aft, g⟩ :: rest) st R := by
  refine SOps.new (d := fun b => .sl b sz 0 n) (ob := fun _ => .row e sz (List.replicate n (z.cells.toList.map DV.v))) rfl hg ht (fun base a w F hs => ?_) hrest
  obtain ⟨hu, i0, hi0, hs0⟩ := sliceB_spec hT
  obtain ⟨i, z', hi, hz', hzs, hsz, hbs, hpos⟩ := elemB_spec hE
  obtain rfl : i0 = i := Option.some.inj (hi0.symm.trans hi)
  obtain rfl : z' = z := by unfold zeroIs at hz; rw [hi] at hz; simp at hz; rw [hz'] at hz; exact Option.some.inj hz
  have k := Step.alloc (fun _ => False) w (.cells (madeCells z'.cells (n * i0.size)) e)
  have hc : ((i0.bytes : Int)) * (n : Int) ≤ 281474976710656 := by
    rw [hbs]
    have : ((n * by_ : Nat) : Int) ≤ 281474976710656 := by omega
    rw [Int.natCast_mul, Int.mul_comm] at this
    exact this
  have hr := run_make (P := C.P) w T e i0 z' hu hi hz' kl kc n n (by omega) (Int.le_refl _) hc (by unfold lenB at hB; omega)
  simp only [Int.toNat_natCast] at hr
  have hmade : madeCells z'.cells (n * i0.size) = (Array.range (n * sz)).map (z'.cells[· % z'.cells.size]!) := by rw [hsz]; rfl
  rw [hmade] at hr k
  have hzr := zrow_rep hb hzs n w F
  have hflat : (List.replicate n (z'.cells.toList.map DV.v)).flatten = zrow z' sz n := by
    have hl : ∀ e ∈ List.replicate n (z'.cells.toList.map DV.v), e.length = sz := fun e he => by rw [(List.mem_replicate.1 he).2]; simpa using hzs
    apply List.ext_getElem?
    intro q
    by_cases hq : q < n * sz
    · obtain ⟨q1, q2, q3⟩ := split_idx hq
      have h1 := flatten_get _ hl (q / sz) (q % sz) (z'.cells.toList.map DV.v) (by simp [q1]) q2
      rw [q3] at h1
      rw [h1]
      have h2 : (zrow z' sz n)[q]? = some (.v (z'.cells.getD (q % sz) undef)) := by unfold zrow; rw [List.getElem?_map, List.getElem?_range hq]; rfl
      rw [h2]
      have hm : q % sz < z'.cells.size := by rw [hzs]; exact q2
      simp [Array.getD, hm]
    · rw [List.getElem?_eq_none (by rw [flatten_len _ hl]; simp; omega), List.getElem?_eq_none (by simp [zrow]; omega)]
  refine ⟨w, .slice (some ⟨w.heap.size, 0, none⟩) n n, .cells ((Array.range (n * sz)).map (z'.cells[· % z'.cells.size]!)) e, Step.refl _ _, rfl, ?_, ?_, ?_⟩
  · rw [show execOp a.eval ⟨some t, .makeSlice T lo co, ty, pos, aft, g⟩ = (do pure (.value (← Instr.makeSlice T (a.eval lo) (a.eval co)))) from rfl, (hs.val hlo).inv_v.1, (hs.val hco).inv_v.1, Sem.run_bind, hr]
    rfl
  · have := Rep.sl (w := w.alloc (.cells ((Array.range (n * sz)).map (z'.cells[· % z'.cells.size]!)) e)) (F := F) (b := w.heap.size) (sz := sz) (off := 0) (len := n) (cap := n) (e := e) (n := n * sz) (Nat.le_refl _) (by rw [shape_new]; simp) (by simp) hB
    simpa using this
  · refine row_flat (w := w) (heap_new' w _) ?_ (fun e he => by rw [(List.mem_replicate.1 he).2]; simpa using hzs) (by simpa using hB)
    rw [hflat]
    exact hzr.mono (fun u d hr => hr.mono (fun c hc => k.block c (hs.lt c hc).1 (fun x => x)) k.shape (fun _ h => h))
end
end Go.GH
