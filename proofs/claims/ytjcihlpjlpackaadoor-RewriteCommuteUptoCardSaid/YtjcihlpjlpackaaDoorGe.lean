/-
  Rules by which operations on the call's own memory are walked over abstract states: loads, stores, new variables, literals, make, append, cuts. Proved here: each rule, from the model's own steps. No conditions.
-/
import Derived.Test.YtjcihlpjlpackaaDoorGd
set_option linter.unusedVariables false
set_option linter.unusedSimpArgs false
namespace Go.GH
open Go Go.RowKit

theorem pair_inj {sz i q k j : Nat} (h : i * sz + q = k * sz + j) (hq : q < sz) (hj : j < sz) : i = k ∧ q = j := by
  have h1 : (i * sz + q) / sz = i := by rw [Nat.mul_comm, Nat.mul_add_div (by omega), Nat.div_eq_of_lt hq]; omega
  have h2 : (k * sz + j) / sz = k := by rw [Nat.mul_comm, Nat.mul_add_div (by omega), Nat.div_eq_of_lt hj]; omega
  have : i = k := by rw [← h1, ← h2, h]
  subst this
  exact ⟨rfl, by omega⟩

def oneB (P : Program) (t : TypeId) : Bool := flatB P t && ((P.info? t).map (·.size) == some 1)
theorem oneB_spec {P : Program} {t : TypeId} (h : oneB P t = true) (w : World) : (sizeOf t).run P w = .ok 1 w := by
  unfold oneB at h
  rw [Bool.and_eq_true] at h
  cases hi : P.info? t with
  | none => rw [hi] at h; simp at h
  | some i => rw [hi] at h; simp at h; simp [sizeOf, typeInfo, hi, h.2]
theorem oneB_flat {P : Program} {t : TypeId} (h : oneB P t = true) : flatB P t = true := by
  unfold oneB at h
  rw [Bool.and_eq_true] at h
  exact h.1
theorem cells_one {x : Value} (h : x.oneCell' = true) : x.cells = #[x] := by
  cases x <;> first | rfl | cases h

section
variable {C : Ctx} {E : Env} {base : Base} {F : Nat → Prop} {st : St} {a : Act} {w : World} {ops : Array Oper} {rest : List Oper} {R : St → Prop}
  {t : Tmp} {ty : TypeId} {pos : String} {aft : Array Edge} {g : Option (Nat × Bool)}

/-! #### loads from own rows -/
theorem SOps.loadRef (i k j : Nat) {T b o elem sz : Nat} {xo : Operand} {es : List (List DV)} {e : List DV} {d : DV} (hx : st.val xo = some (.ref b o)) (hT : flatB C.P T = true)
    (hi : st.heap[i]? = some (b, .row elem sz es)) (ho : o = k * sz + j) (hk : es[k]? = some e) (hj : e[j]? = some d) (hrest : SOps C ops rest (st.put t d) R)
    (hg : st.wants ops g = some true := by rfl) (ht : Nat.blt t st.n = true := by rfl) : SOps C ops (⟨some t, .load T xo, ty, pos, aft, g⟩ :: rest) st R :=
  SOps.val rfl hg ht (fun base a w F hs => by
    have h1 := hs.val hx
    generalize hv : a.eval xo = v at h1
    cases h1 with
    | ref =>
      subst ho
      obtain ⟨x, hc, hr⟩ := row_cell (hs.heap _ (List.mem_of_getElem? hi)).2.2 hk hj
      exact ⟨x, by simp [execOp, hv, run_loadFlat hT hc], hr⟩) hrest
theorem SOps.loadRefA (i k j : Nat) {T b o elem sz n : Nat} {xo : Operand} {es : List (List DV)} {e : List DV} (hx : st.val xo = some (.ref b o)) (hT : aggB C.P T n = true)
    (hi : st.heap[i]? = some (b, .row elem sz es)) (ho : o = k * sz + j) (hk : es[k]? = some e) (hj : j + n ≤ e.length) (hrest : SOps C ops rest (st.put t (.agg ((e.drop j).take n))) R)
    (hg : st.wants ops g = some true := by rfl) (ht : Nat.blt t st.n = true := by rfl) : SOps C ops (⟨some t, .load T xo, ty, pos, aft, g⟩ :: rest) st R :=
  SOps.val rfl hg ht (fun base a w F hs => by
    have h1 := hs.val hx
    generalize hv : a.eval xo = v at h1
    cases h1 with
    | ref =>
      subst ho
      have h2 := (hs.heap _ (List.mem_of_getElem? hi)).2.2
      have key : ∀ q, ∃ x, q < n → w.cell? ⟨b, k * sz + j + q, none⟩ = some x ∧ ∀ d, e[j + q]? = some d → Rep w F x d := fun q => by
        by_cases hq : q < n
        · have hlt : j + q < e.length := by omega
          obtain ⟨x, hx, hr⟩ := row_cell h2 hk (List.getElem?_eq_getElem hlt)
          refine ⟨x, fun _ => ⟨by rw [Nat.add_assoc]; exact hx, fun d hd => ?_⟩⟩
          rw [List.getElem?_eq_getElem hlt] at hd
          obtain rfl := Option.some.inj hd
          exact hr
        · exact ⟨undef, fun h => absurd h hq⟩
      refine ⟨.agg ((List.range n).map (fun q => (key q).choose)).toArray, ?_, .agg (by simp; omega) (fun q x d hx hd => ?_)⟩
      · have := run_loadAgg (P := C.P) (w := w) hT (b := b) (o := k * sz + j) (fun q => (key q).choose) (fun q hq => ((key q).choose_spec hq).1)
        rw [show execOp a.eval ⟨some t, .load T xo, ty, pos, aft, g⟩ = (do pure (.value (← Instr.loadAt T (a.eval xo)))) from rfl, hv, Sem.run_bind, this]
        rfl
      · rw [List.getElem?_take] at hd
        split at hd
        · rename_i hlt
          have e1 : (List.range n)[q]? = some q := List.getElem?_range hlt
          simp only [List.getElem?_toArray, List.getElem?_map, e1, Option.map_some, Option.some.injEq] at hx
          subst hx
          rw [List.getElem?_drop] at hd
          exact ((key q).choose_spec hlt).2 d hd
        · cases hd) hrest

/-! #### stores -/
/-- One cell of a row is written. -/
theorem row_set {w : World} {F : Nat → Prop} {b elem sz : Nat} {es : List (List DV)} (hF : ¬ F b) (h : ObjRep w F b (.row elem sz es)) {k j : Nat} {e : List DV} {x : Value} {d : DV}
    (hk : es[k]? = some e) (hj : j < sz) (hx : x.oneCell' = true) (hr : Rep w F x d) : ObjRep (w.setCell ⟨b, k * sz + j, none⟩ x) F b (.row elem sz (es.set k (e.set j d))) := by
  obtain ⟨cs, h1, h2, h3, h4⟩ := h
  have hmono : ∀ {y : Value} {d : DV}, Rep w F y d → Rep (w.setCell ⟨b, k * sz + j, none⟩ x) F y d := fun hy =>
    hy.mono (fun c hc => heap_setCell_other w ⟨b, k * sz + j, none⟩ c x (fun e => hF ((show c = b from e) ▸ hc))) (fun c s hs => by rw [shape?_setCell]; exact hs) (fun _ h => h)
  have hkl : k < es.length := (List.getElem?_eq_some_iff.1 hk).1
  have hin : k * sz + j < cs.size := by
    have : (k + 1) * sz ≤ es.length * sz := Nat.mul_le_mul_right _ (by omega)
    rw [Nat.add_mul] at this; omega
  refine ⟨cs.setIfInBounds (k * sz + j) x, heap_setCell_same w b _ cs elem x h1, by simpa using h2, by simpa using h3, fun i e' hi => ?_⟩
  rw [List.getElem?_set] at hi
  split at hi
  · rename_i hki
    subst hki
    obtain rfl := Option.some.inj hi
    refine ⟨by rw [List.length_set]; exact (h4 _ _ hk).1, fun q d' hq => ?_⟩
    rw [List.getElem?_set] at hq
    split at hq
    · rename_i hjq
      subst hjq
      split at hq
      · obtain rfl := Option.some.inj hq
        exact ⟨x, by simp [hin], hx, hmono hr⟩
      · cases hq
    · rename_i hjq
      obtain ⟨y, hy, ho, hry⟩ := (h4 _ _ hk).2 q d' hq
      refine ⟨y, ?_, ho, hmono hry⟩
      rw [Array.getElem?_setIfInBounds, if_neg (by omega)]
      exact hy
  · rename_i hki
    refine ⟨(h4 _ _ hi).1, fun q d' hq => ?_⟩
    obtain ⟨y, hy, ho, hry⟩ := (h4 _ _ hi).2 q d' hq
    refine ⟨y, ?_, ho, hmono hry⟩
    have hql : q < sz := (h4 _ _ hi).1 ▸ (List.getElem?_eq_some_iff.1 hq).1
    rw [Array.getElem?_setIfInBounds, if_neg (fun e => hki (pair_inj e.symm hql hj).1.symm)]
    exact hy

theorem run_storeOne {P : Program} {w : World} {T : TypeId} (hT : oneB P T = true) {b o : Nat} {x : Value} (hx : x.oneCell' = true) {y : Value} (hc : w.cell? ⟨b, o, none⟩ = some y) (hf : w.frozen? ⟨b, o, none⟩ = false) :
    (Instr.storeAt T (.pointer (some ⟨b, o, none⟩)) x).run P w = .ok () (w.setCell ⟨b, o, none⟩ x) := by
  have h1 := oneB_spec hT w
  simp [Instr.storeAt, Instr.sureAddr, storeVar, cells_one hx, h1, storeCells, run_store P w _ _ _ hx, hc, hf, Addr.add]

theorem row_lt {w : World} {F : Nat → Prop} {b elem sz : Nat} {es : List (List DV)} (h : ObjRep w F b (.row elem sz es)) {k j : Nat} {e : List DV} (hk : es[k]? = some e) (hj : j < sz) :
    (∃ y, w.cell? ⟨b, k * sz + j, none⟩ = some y) ∧ w.frozen? ⟨b, k * sz + j, none⟩ = false := by
  obtain ⟨cs, h1, h2, h3, h4⟩ := h
  have hkl : k < es.length := (List.getElem?_eq_some_iff.1 hk).1
  have hin : k * sz + j < cs.size := by
    have : (k + 1) * sz ≤ es.length * sz := Nat.mul_le_mul_right _ (by omega)
    rw [Nat.add_mul] at this; omega
  exact ⟨⟨cs[k * sz + j], by rw [cell_of_row w b _ cs _ _ h1]; exact Array.getElem?_eq_getElem hin⟩, frozen_of_row w b _ cs elem h1⟩

theorem SOps.store (i k j : Nat) {T b o elem sz : Nat} {xo yo : Operand} {es : List (List DV)} {e : List DV} {d : DV} (hx : st.val xo = some (.ref b o)) (hy : st.val yo = some d) (hT : oneB C.P T = true)
    (hi : st.heap[i]? = some (b, .row elem sz es)) (ho : o = k * sz + j) (hk : es[k]? = some e) (hj : j < sz) (hd : d.one = true)
    (hrest : SOps C ops rest ⟨st.n, st.slots, st.heap.set i (b, .row elem sz (es.set k (e.set j d)))⟩ R)
    (hg : st.wants ops g = some true := by rfl) : SOps C ops (⟨none, .store T xo yo, ty, pos, aft, g⟩ :: rest) st R := by
  refine SOps.op (R1 := (· = ⟨st.n, st.slots, st.heap.set i (b, .row elem sz (es.set k (e.set j d)))⟩)) hg ?_ (fun st' e => e ▸ hrest)
  intro base ok a w F hs K Q hK
  have h1 := hs.val hx
  have h2 := hs.val hy
  generalize hv : a.eval xo = v at h1
  cases h1 with
  | ref =>
    subst ho
    obtain ⟨k1, k2, k3⟩ := hs.heap _ (List.mem_of_getElem? hi)
    obtain ⟨⟨y, hc⟩, hf⟩ := row_lt k3 hk hj
    have hone := h2.one hd
    have hrun : (execOp a.eval ⟨none, .store T xo yo, ty, pos, aft, g⟩).run C.P w = .ok .skip (w.setCell ⟨b, k * sz + j, none⟩ (a.eval yo)) := by
      rw [show execOp a.eval ⟨none, .store T xo yo, ty, pos, aft, g⟩ = (do Instr.storeAt T (a.eval xo) (a.eval yo); pure .skip) from rfl, hv, Sem.run_bind, run_storeOne hT hone hc hf]
      rfl
    unfold Oper.wp
    rw [hrun, Oper.upon_skip]
    exact hK _ _ _ rfl ⟨F, hs.write hi (show Step (· = b) w _ from Step.setCell w ⟨b, k * sz + j, none⟩ _) (row_set k2 k3 hk hj hone h2)⟩

/-! #### new variables -/
theorem heap_new' (w : World) (o : Obj) : (w.alloc o).heap[w.heap.size]? = some o := by
  show (w.heap.push o)[w.heap.size]? = _
  simp
theorem row_new {w : World} {F : Nat → Prop} {elem sz : Nat} {us : Array Value} {ds : List DV} (hl : us.size = ds.length) (hsz : ds.length = sz) (h1 : ∀ (j : Nat) (x : Value), us[j]? = some x → x.oneCell' = true)
    (hF : ∀ b, F b → b < w.heap.size)
    (hr : ∀ (j : Nat) (x : Value) (d : DV), us[j]? = some x → ds[j]? = some d → Rep w F x d) : ObjRep (w.alloc (.cells us elem)) F w.heap.size (.row elem sz [ds]) := by
  have k := Step.alloc (fun _ => False) w (.cells us elem)
  refine ⟨us, heap_new' w _, by simp [hl, hsz], by simp [lenB], fun i e hi => ?_⟩
  match i, hi with
  | 0, hi =>
    simp at hi
    subst hi
    refine ⟨hsz, fun j d hj => ?_⟩
    have hlt : j < us.size := by rw [hl]; exact (List.getElem?_eq_some_iff.1 hj).1
    refine ⟨us[j], by simp [hlt], h1 j _ (Array.getElem?_eq_getElem hlt), (hr j _ d (Array.getElem?_eq_getElem hlt) hj).mono (fun c hc => k.block c (hF c hc) (fun x => x)) k.shape (fun _ h => h)⟩
  | i + 1, hi => simp at hi

/-- A block that no entry of the heap names. -/
def St.fresh (st : St) (b : Nat) : Prop := ∀ p ∈ st.heap, p.1 ≠ b

/-- An operation that lays one new block and yields a value. -/
theorem SOps.new {o : Oper} {d : Nat → DV} {ob : Nat → DO} (hd : o.dst = some t) (hg : st.wants ops o.guard = some true) (ht : Nat.blt t st.n = true)
    (hv : ∀ base a w F, SimF C.E base F st a w → ∃ (w0 : World) (x : Value) (obj : Obj), Step (fun _ => False) w w0 ∧ w0.heap.size = w.heap.size ∧ (execOp a.eval o).run C.P w = .ok (.value x) (w0.alloc obj) ∧ Rep (w0.alloc obj) F x (d w.heap.size) ∧ ObjRep (w0.alloc obj) F w.heap.size (ob w.heap.size))
    (hrest : ∀ b, st.fresh b → SOps C ops rest ⟨st.n, (t, d b) :: st.slots, (b, ob b) :: st.heap⟩ R) : SOps C ops (o :: rest) st R := by
  refine SOps.op (R1 := fun st' => ∃ b, st.fresh b ∧ st' = ⟨st.n, (t, d b) :: st.slots, (b, ob b) :: st.heap⟩) hg ?_ (fun st' ⟨b, hb, e⟩ => e ▸ hrest b hb)
  intro base ok a w F hs K Q hK
  obtain ⟨w0, x, obj, h0, hsz, hx, hr, ho⟩ := hv base a w F hs
  unfold Oper.wp
  rw [hx, Oper.upon_value, hd]
  refine hK _ _ _ ⟨w.heap.size, fun p hp e => ?_, rfl⟩ ⟨F, ?_⟩
  · exact Nat.lt_irrefl _ (e ▸ (hs.heap p hp).2.2.lt)
  · have h1 := hs.world h0
    have h2 := h1.newObj (ob := obj) (o := ob w.heap.size) (by rw [hsz]; exact ho)
    rw [hsz] at h2
    exact SimF.put (st := ⟨st.n, st.slots, (w.heap.size, ob w.heap.size) :: st.heap⟩) h2 (by simpa using ht) hr

def zeroIs (P : Program) (T : TypeId) (z : Value) : Prop := (P.info? T).bind (·.zero) = some z
theorem run_zeroValue {P : Program} {T : TypeId} {z : Value} (h : zeroIs P T z) (w : World) : (zeroValue T).run P w = .ok z w := by
  unfold zeroIs at h
  cases hi : P.info? T with
  | none => rw [hi] at h; cases h
  | some i => rw [hi] at h; simp at h; simp [zeroValue, typeInfo, hi, h]
def zcellsB (z : Value) : Bool := z.cells.toList.all (fun x => scalB x && x.oneCell')
theorem zcells_spec {z : Value} (h : zcellsB z = true) : ∀ (j : Nat) (x : Value), z.cells[j]? = some x → scal x ∧ x.oneCell' = true := fun j x hx => by
  have := List.all_eq_true.1 h x (by simpa using Array.mem_of_getElem? hx)
  rw [Bool.and_eq_true] at this
  exact ⟨scal_of this.1, this.2⟩

theorem SOps.alloc {T sz : Nat} {z : Value} {cs : List DV} (hz : zeroIs C.P T z) (hrest : ∀ b, st.fresh b → SOps C ops rest ⟨st.n, (t, .ref b 0) :: st.slots, (b, .row T sz [cs]) :: st.heap⟩ R)
    (hcs : z.cells.toList.map DV.v = cs := by rfl) (hsz : cs.length = sz := by rfl) (hb : zcellsB z = true := by rfl)
    (hg : st.wants ops g = some true := by rfl) (ht : Nat.blt t st.n = true := by rfl) : SOps C ops (⟨some t, .alloc T, ty, pos, aft, g⟩ :: rest) st R :=
  SOps.new (d := fun b => .ref b 0) (ob := fun _ => .row T sz [cs]) rfl hg ht (fun base a w F hs => by
    refine ⟨w, .pointer (some ⟨w.heap.size, 0, none⟩), .cells z.cells T, Step.refl _ _, rfl, ?_, .ref _ _, row_new (by rw [← hcs]; simp) hsz (fun j x hx => (zcells_spec hb j x hx).2) (fun b hb => (hs.lt b hb).1) (fun j x d hx hd => ?_)⟩
    · simp [execOp, Instr.alloc, run_zeroValue hz, newVar, newRow]
    · rw [← hcs] at hd
      simp at hd
      obtain ⟨y, hy, rfl⟩ := hd
      rw [hy] at hx
      obtain rfl := Option.some.inj hx
      exact .v (zcells_spec hb j y hy).1) hrest
theorem SOps.box {T : Nat} {xo : Operand} {d : DV} (hx : st.val xo = some d) (hd : d.one = true) (hrest : ∀ b, st.fresh b → SOps C ops rest ⟨st.n, (t, .ref b 0) :: st.slots, (b, .row T 1 [[d]]) :: st.heap⟩ R)
    (hg : st.wants ops g = some true := by rfl) (ht : Nat.blt t st.n = true := by rfl) : SOps C ops (⟨some t, .box T xo, ty, pos, aft, g⟩ :: rest) st R :=
  SOps.new (d := fun b => .ref b 0) (ob := fun _ => .row T 1 [[d]]) rfl hg ht (fun base a w F hs => by
    have h1 := hs.val hx
    have h2 := h1.one hd
    refine ⟨w, .pointer (some ⟨w.heap.size, 0, none⟩), .cells #[a.eval xo] T, Step.refl _ _, rfl, ?_, .ref _ _, row_new rfl rfl (fun j x hx => ?_) (fun b hb => (hs.lt b hb).1) (fun j x e hx he => ?_)⟩
    · simp [execOp, Instr.box, newVar, newRow, cells_one h2]
    · match j, hx with
      | 0, hx => simp at hx; subst hx; exact h2
      | j + 1, hx => simp at hx
    · match j, hx, he with
      | 0, hx, he => simp at hx he; subst hx; subst he; exact h1
      | j + 1, hx, he => simp at he) hrest
theorem SOps.boxA {T sz : Nat} {xo : Operand} {ds : List DV} (hx : st.val xo = some (.agg ds)) (hsz : ds.length = sz) (hd : ∀ d ∈ ds, d.one = true) (hrest : ∀ b, st.fresh b → SOps C ops rest ⟨st.n, (t, .ref b 0) :: st.slots, (b, .row T sz [ds]) :: st.heap⟩ R)
    (hg : st.wants ops g = some true := by rfl) (ht : Nat.blt t st.n = true := by rfl) : SOps C ops (⟨some t, .box T xo, ty, pos, aft, g⟩ :: rest) st R :=
  SOps.new (d := fun b => .ref b 0) (ob := fun _ => .row T sz [ds]) rfl hg ht (fun base a w F hs => by
    have h1 := hs.val hx
    generalize hv : a.eval xo = v at h1
    cases h1 with
    | @agg us ds hl hr =>
      refine ⟨w, .pointer (some ⟨w.heap.size, 0, none⟩), .cells us T, Step.refl _ _, rfl, ?_, .ref _ _, row_new hl hsz (fun j x hx => ?_) (fun b hb => (hs.lt b hb).1) hr⟩
      · simp [execOp, hv, Instr.box, newVar, newRow, Value.cells]
      · have hlt : j < ds.length := hl ▸ (Array.getElem?_eq_some_iff.1 hx).1
        exact (hr j x _ hx (List.getElem?_eq_getElem hlt)).one (hd _ (List.getElem_mem hlt))) hrest

/-! #### parts of values -/
theorem SOps.extract {xo : Operand} {ds : List DV} {n : Nat} {d : DV} (hx : st.val xo = some (.tup ds)) (hd : ds[n]? = some d) (hrest : SOps C ops rest (st.put t d) R)
    (hg : st.wants ops g = some true := by rfl) (ht : Nat.blt t st.n = true := by rfl) : SOps C ops (⟨some t, .extract xo n, ty, pos, aft, g⟩ :: rest) st R :=
  SOps.val rfl hg ht (fun base a w F hs => by
    have h1 := hs.val hx
    generalize hv : a.eval xo = v at h1
    cases h1 with
    | @tup us ds hl hr =>
      have hlt : n < us.size := by rw [hl]; exact (List.getElem?_eq_some_iff.1 hd).1
      exact ⟨us[n], by simp [execOp, hv, Instr.extract, hlt], hr n _ d (Array.getElem?_eq_getElem hlt) hd⟩) hrest
def fieldVB (P : Program) (s f off : Nat) : Bool := match P.underlying s with
  | some (.struct fs) => match fs[f]? with
    | some fl => fl.offset == off && flatB P fl.type
    | none => false
  | _ => false
theorem SOps.field {s f off : Nat} {xo : Operand} {ds : List DV} {d : DV} (hx : st.val xo = some (.agg ds)) (hs' : fieldVB C.P s f off = true) (hd : ds[off]? = some d) (hrest : SOps C ops rest (st.put t d) R)
    (hg : st.wants ops g = some true := by rfl) (ht : Nat.blt t st.n = true := by rfl) : SOps C ops (⟨some t, .field s xo f, ty, pos, aft, g⟩ :: rest) st R :=
  SOps.val rfl hg ht (fun base a w F hs => by
    have h1 := hs.val hx
    generalize hv : a.eval xo = v at h1
    cases h1 with
    | @agg us ds hl hr =>
      have hlt : off < us.size := by rw [hl]; exact (List.getElem?_eq_some_iff.1 hd).1
      refine ⟨us[off], ?_, hr off _ d (Array.getElem?_eq_getElem hlt) hd⟩
      unfold fieldVB at hs'
      split at hs'
      · rename_i fs hu
        split at hs'
        · rename_i fl hf
          rw [Bool.and_eq_true] at hs'
          obtain ⟨h1, h2⟩ := hs'
          have h1 := beq_iff_eq.1 h1
          subst h1
          simp [execOp, hv, Instr.field, run_underlying hu, hf, part, asAgg, isAgg_flat h2, hlt]
        · cases hs'
      · cases hs') hrest
theorem SOps.strIndex {T : TypeId} {xo io : Operand} {s : ByteArray} {k : IntKind} (i : Nat) (hx : st.val xo = some (.v (.string s))) (hi : st.val io = some (.v (.int k i))) (hT : strB C.P T = true) (hlt : i < s.size)
    (hrest : SOps C ops rest (st.put t (.v (.int .u8 (s[i]'hlt).toNat))) R)
    (hg : st.wants ops g = some true := by rfl) (ht : Nat.blt t st.n = true := by rfl) : SOps C ops (⟨some t, .index T xo io, ty, pos, aft, g⟩ :: rest) st R :=
  SOps.val rfl hg ht (fun base a w F hs => by
    have h1 := (hs.val hx).inv_v.1
    have h2 := (hs.val hi).inv_v.1
    refine ⟨.int .u8 (s[i]'hlt).toNat, ?_, .v ?_⟩
    · simp [execOp, h1, h2, Instr.index, asIntOf, run_underlying (strB_spec hT), hlt]
    · have := (s[i]'hlt).toNat_lt
      simp only [scal, IntKind.has, IntKind.min, IntKind.max, IntKind.signed, IntKind.bits]
      have e : (2 : Int) ^ 8 = 256 := by decide
      simp only [Bool.false_eq_true, if_false, e]
      omega) hrest

/-! #### letting go -/
/-- An own row that is written no more: a slice of it is from here on a slice of memory that never turns. -/
theorem SOps.freeze {l : List Oper} (i : Nat) {b elem sz off len : Nat} {es : List (List DV)} (hp : C.pu = true) (hi : st.heap[i]? = some (b, .row elem sz es)) (hd : st.get t = some (.sl b sz off len)) (hle : off + len ≤ es.length)
    (h : SOps C ops l ⟨st.n, (t, .isl true sz ((es.drop off).take len)) :: st.slots, st.heap.eraseIdx i⟩ R) : SOps C ops l st R := by
  intro base ok a w ⟨F, hs⟩
  have hmem := hs.heap _ (List.mem_of_getElem? hi)
  have hnew : base.w.heap.size ≤ b := hmem.1.resolve_left (ok hp b)
  have h2 := hs.letGo hi hnew
  refine h base ok a w ⟨_, SimF.relabel (st := ⟨st.n, st.slots, st.heap.eraseIdx i⟩) h2 hd (fun _ => ?_)⟩
  have h1 := (hs.slots t _ hd).2
  obtain ⟨cs, k1, k2, k3, k4⟩ := hmem.2.2
  generalize a.tmps.getD t undef = v at h1
  cases h1 with
  | @sl b sz off len cap e n q1 q2 q3 q4 =>
    have hget : ∀ (i : Nat) e, ((es.drop off).take len)[i]? = some e → i < len ∧ es[off + i]? = some e := fun i e he => by
      rw [List.getElem?_take] at he
      split at he
      · rename_i hlt; rw [List.getElem?_drop] at he; exact ⟨hlt, he⟩
      · cases he
    refine .isl (b := b) (o := off * sz) (fun i j => cs.getD ((off + i) * sz + j) undef) (by simp; omega) q1 (by simp; omega) (fun _ => by simp) (fun _ => ⟨rfl, .inr rfl⟩) (fun i e he => (k4 _ _ (hget i e he).2).1) (fun i e j d he hj => ?_) (fun i e j d he hj => ?_)
    · obtain ⟨x, hx, ho, hr⟩ := (k4 _ _ (hget i e he).2).2 j d hj
      have e1 : cs.getD ((off + i) * sz + j) undef = x := by simp [Array.getD_eq_getD_getElem?, hx]
      rw [e1]
      exact ⟨by rw [cell_of_row w b _ cs _ _ k1, ← hx, Nat.add_mul, Nat.add_assoc], ho⟩
    · obtain ⟨x, hx, ho, hr⟩ := (k4 _ _ (hget i e he).2).2 j d hj
      have e1 : cs.getD ((off + i) * sz + j) undef = x := by simp [Array.getD_eq_getD_getElem?, hx]
      rw [e1]
      exact hr.mono (fun _ _ => rfl) (fun _ _ h => h) (fun _ h => .inl h)
end
end Go.GH
