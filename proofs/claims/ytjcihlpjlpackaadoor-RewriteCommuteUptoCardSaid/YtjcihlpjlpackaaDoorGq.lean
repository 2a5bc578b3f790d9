/-
  Rules for pointers that bear their block's shape, for regions of open order whose last operations act, and for strings.Builder's parts, over abstract states. Proved here: each rule, from the model's own steps. No conditions.
-/
import Derived.Test.YtjcihlpjlpackaaDoorGn
import Derived.Lib.Builder
import Derived.Lib.UnsafeStr
import Derived.Laws.Externs
set_option linter.unusedVariables false
set_option linter.unusedSimpArgs false
namespace Go.GH
open Go Go.RowKit

section
variable {C : Ctx} {E : Env} {base : Base} {F : Nat → Prop} {st : St} {a : Act} {w : World} {ops : Array Oper} {rest : List Oper} {R : St → Prop}
  {t : Tmp} {ty : TypeId} {pos : String} {aft : Array Edge} {g : Option (Nat × Bool)}

theorem accD_one (sz b : Nat) (es : List (List DV)) : (accD sz b es).one = true := by cases es <;> rfl

/-! #### a pointer that is not nil -/
def DV.isPtr : DV → Bool
  | .ref _ _ | .vref _ _ _ | .ipin _ => true
  | _ => false
theorem SOps.nilCheck {xo : Operand} {d : DV} (hx : st.val xo = some d) (hp : d.isPtr = true) (hrest : SOps C ops rest (st.put t d) R)
    (hg : st.wants ops g = some true := by rfl) (ht : Nat.blt t st.n = true := by rfl) : SOps C ops (⟨some t, .nilCheck xo, ty, pos, aft, g⟩ :: rest) st R :=
  SOps.val rfl hg ht (fun base a w F hs => by
    have h1 := hs.val hx
    refine ⟨a.eval xo, ?_, h1⟩
    generalize hv : a.eval xo = v at h1
    cases h1 <;> first | (simp [DV.isPtr] at hp; done) | (simp [execOp, hv])) hrest
theorem SOps.fieldV {s f off b e n : Nat} {xo : Operand} (hx : st.val xo = some (.vref b e n)) (hs : fieldB C.P s f off = true) (hrest : SOps C ops rest (st.put t (.ref b (0 + off))) R)
    (hg : st.wants ops g = some true := by rfl) (ht : Nat.blt t st.n = true := by rfl) : SOps C ops (⟨some t, .fieldAddr s xo f, ty, pos, aft, g⟩ :: rest) st R :=
  SOps.val rfl hg ht (fun base a w F hsim => by
    have h1 := hsim.val hx
    generalize hv : a.eval xo = v at h1
    cases h1 with
    | vref => exact ⟨_, by simp [execOp, hv, run_field hs, add_plain'], .ref _ _⟩) hrest
theorem SOps.allocV {T sz : Nat} {z : Value} {cs : List DV} (hz : zeroIs C.P T z) (hrest : ∀ b, st.fresh b → SOps C ops rest ⟨st.n, (t, .vref b T sz) :: st.slots, (b, .row T sz [cs]) :: st.heap⟩ R)
    (hcs : z.cells.toList.map DV.v = cs := by rfl) (hsz : cs.length = sz := by rfl) (hb : zcellsB z = true := by rfl)
    (hg : st.wants ops g = some true := by rfl) (ht : Nat.blt t st.n = true := by rfl) : SOps C ops (⟨some t, .alloc T, ty, pos, aft, g⟩ :: rest) st R :=
  SOps.new (d := fun b => .vref b T sz) (ob := fun _ => .row T sz [cs]) rfl hg ht (fun base a w F hs => by
    have hl : z.cells.size = sz := by rw [← hsz, ← hcs]; simp
    refine ⟨w, .pointer (some ⟨w.heap.size, 0, none⟩), .cells z.cells T, Step.refl _ _, rfl, ?_, .vref (by rw [shape_new, hl]), row_new (by rw [← hcs]; simp) hsz (fun j x hx => (zcells_spec hb j x hx).2) (fun b hb => (hs.lt b hb).1) (fun j x d hx hd => ?_)⟩
    · simp [execOp, Instr.alloc, run_zeroValue hz, newVar, newRow]
    · rw [← hcs] at hd
      simp at hd
      obtain ⟨y, hy, rfl⟩ := hd
      rw [hy] at hx
      obtain rfl := Option.some.inj hx
      exact .v (zcells_spec hb j y hy).1) hrest

def ptrB (P : Program) (tp te : Nat) : Prop := P.underlying tp = some (.pointer te) ∧ ∃ j, P.info? te = some j ∧ j.size ≠ 0
theorem SOps.eqPtr {T T2 te : TypeId} {xo yo : Operand} {b e n e' n' : Nat} (hT : ptrB C.P T te) (hx : st.val xo = some (.vref b e n)) (hy : st.val yo = some (.vref b e' n')) (hrest : SOps C ops rest (st.put t (.v (.bool false))) R)
    (hg : st.wants ops g = some true := by rfl) (ht : Nat.blt t st.n = true := by rfl) : SOps C ops (⟨some t, .binOp .neq T xo yo T2, ty, pos, aft, g⟩ :: rest) st R :=
  SOps.val rfl hg ht (fun base a w F hs => by
    have h1 := hs.val hx
    have h2 := hs.val hy
    generalize hv : a.eval xo = v at h1
    generalize hv' : a.eval yo = v' at h2
    obtain ⟨hp, j, hj, hjs⟩ := hT
    cases h1; cases h2
    refine ⟨.bool false, ?_, .v trivial⟩
    simp only [execOp, hv, hv']
    exact run_binNext (by simp only [eqGuard, Sem.run_bind]; simp [Lib.run_neq_ptr_same w _ hp hj])) hrest
/-- Against nil. -/
theorem SOps.eqNil {T T2 te : TypeId} {xo yo : Operand} {d : DV} (c : Bool) (hT : ptrB C.P T te) (hx : st.val xo = some d) (hd : (d.isPtr = true ∧ c = false) ∨ (d = .v (.pointer none) ∧ c = true)) (hy : st.val yo = some (.v (.pointer none))) (hrest : SOps C ops rest (st.put t (.v (.bool c))) R)
    (hg : st.wants ops g = some true := by rfl) (ht : Nat.blt t st.n = true := by rfl) : SOps C ops (⟨some t, .binOp .eql T xo yo T2, ty, pos, aft, g⟩ :: rest) st R :=
  SOps.val rfl hg ht (fun base a w F hs => by
    have h1 := hs.val hx
    have h2 := (hs.val hy).inv_v.1
    generalize hv : a.eval xo = v at h1
    obtain ⟨hp, j, hj, hjs⟩ := hT
    refine ⟨.bool c, ?_, .v trivial⟩
    simp only [execOp, hv, h2]
    have key : ∀ (d : Nat) (q : Option Addr), q.isNone = c → (Op.equalIn (d + 1) T (.pointer q) (.pointer none)).run C.P w = .ok c w := fun d q hq => by
      cases q <;> (simp only [Option.isNone] at hq; subst hq; simp [Op.equalIn, run_underlying hp])
    have fin : ∀ (q : Option Addr), q.isNone = c → (do let v ← (do eqGuard .eql T xo yo (.pointer q) (.pointer none); binOp .eql T (.pointer q) (.pointer none) : Sem Value); pure (Next.value v) : Sem Next).run C.P w = .ok (.value (.bool c)) w := fun q hq =>
      run_binNext (by simp only [eqGuard, binOp, Op.equal, Op.maxDepth, Sem.run_bind]; simp [key 9999 q hq])
    rcases hd with ⟨hd, rfl⟩ | ⟨rfl, rfl⟩
    · cases h1 <;> first | (simp [DV.isPtr] at hd; done) | exact fin _ rfl
    · rw [h1.inv_v.1]; exact fin _ rfl) hrest

/-! #### the road of copyCheck: to unsafe.Pointer, through NoEscape, and back -/
theorem SOps.toUnsafe {src dst u : TypeId} {xo : Operand} {b e n : Nat} (hx : st.val xo = some (.vref b e n)) (hS : ptrB C.P src u) (hD : C.P.underlying dst = some .unsafePointer) (hn : 0 < n) (hrest : SOps C ops rest (st.put t (.vref b e n)) R)
    (hg : st.wants ops g = some true := by rfl) (ht : Nat.blt t st.n = true := by rfl) : SOps C ops (⟨some t, .convert src dst xo, ty, pos, aft, g⟩ :: rest) st R :=
  SOps.val rfl hg ht (fun base a w F hs => by
    have h1 := hs.val hx
    obtain ⟨hp, j, hj, hjs⟩ := hS
    generalize hv : a.eval xo = v at h1
    cases h1 with
    | vref h =>
      refine ⟨_, ?_, .vref h⟩
      rw [show execOp a.eval ⟨some t, .convert src dst xo, ty, pos, aft, g⟩ = (do pure (.value (← convert src dst (a.eval xo)))) from rfl, hv, Sem.run_bind, Lib.run_to_unsafe w ⟨b, 0, none⟩ hp hD hj hjs h hn]
      rfl) hrest
theorem SOps.fromUnsafe {src dst u : TypeId} {xo : Operand} {b e n : Nat} (hx : st.val xo = some (.vref b e n)) (hS : C.P.underlying src = some .unsafePointer) (hD : ptrB C.P dst u) (hl : liesAt C.P C.P.depth e (n / C.P.cellsOf e) 0 u 1 = true) (hrest : SOps C ops rest (st.put t (.vref b e n)) R)
    (hg : st.wants ops g = some true := by rfl) (ht : Nat.blt t st.n = true := by rfl) : SOps C ops (⟨some t, .convert src dst xo, ty, pos, aft, g⟩ :: rest) st R :=
  SOps.val rfl hg ht (fun base a w F hs => by
    have h1 := hs.val hx
    obtain ⟨hp, j, hj, hjs⟩ := hD
    generalize hv : a.eval xo = v at h1
    cases h1 with
    | vref h =>
      refine ⟨_, ?_, .vref h⟩
      rw [show execOp a.eval ⟨some t, .convert src dst xo, ty, pos, aft, g⟩ = (do pure (.value (← convert src dst (a.eval xo)))) from rfl, hv, Sem.run_bind, Lib.run_from_unsafe w ⟨b, 0, none⟩ hS hp hj h hl]
      rfl) hrest
def noEscB (P : Program) (f : FuncId) : Prop := ∃ fn, P.funcs[f]? = some fn ∧ (fn.name == "runtime.NumGoroutine") = false ∧ fn.body.isNone = true ∧ Extern.findNext fn = none ∧ Extern.find fn = some Extern.AbiNoEscape.same
theorem SOps.noEscape {f : FuncId} {xo : Operand} {ats : Array TypeId} {d : DV} (hf : noEscB C.P f) (hx : st.val xo = some d) (hrest : SOps C ops rest (st.put t d) R)
    (hg : st.wants ops g = some true := by rfl) (ht : Nat.blt t st.n = true := by rfl) : SOps C ops (⟨some t, .call { callee := .value (.func f), args := #[xo], argTypes := ats }, ty, pos, aft, g⟩ :: rest) st R :=
  SOps.val rfl hg ht (fun base a w F hs => by
    obtain ⟨fn, h1, h2, h3, h4, h5⟩ := hf
    refine ⟨a.eval xo, ?_, hs.val hx⟩
    have e1 : execOp a.eval ⟨some t, .call { callee := .value (.func f), args := #[xo], argTypes := ats }, ty, pos, aft, g⟩ = callFunc f #[a.eval xo] := by
      rw [show execOp a.eval ⟨some t, .call { callee := .value (.func f), args := #[xo], argTypes := ats }, ty, pos, aft, g⟩ = callFunc f (#[] ++ #[xo].map a.eval ++ #[]) from rfl]; simp
    rw [e1, run_callFunc_extern h1 h2 h3 h4 h5]
    simp only [Lib.run_noEscape]
    rfl) hrest

/-! #### unsafe.String over an own row of bytes -/
def dataD (gb : Nat) : List UInt8 → DV
  | [] => .v (.pointer none)
  | _ :: _ => .ref gb 0
theorem SOps.sliceData {ats : Array TypeId} {xo : Operand} {gb : Nat} {bs : List UInt8} (hx : st.val xo = some (accD 1 gb (bs.map encY))) (hrest : SOps C ops rest (st.put t (dataD gb bs)) R)
    (hg : st.wants ops g = some true := by rfl) (ht : Nat.blt t st.n = true := by rfl) : SOps C ops (⟨some t, .call { callee := .builtin .unsafeSliceData, args := #[xo], argTypes := ats }, ty, pos, aft, g⟩ :: rest) st R :=
  SOps.val rfl hg ht (fun base a w F hs => by
    have h1 := hs.val hx
    have hrun : ∀ v, a.eval xo = v → execOp a.eval ⟨some t, .call { callee := .builtin .unsafeSliceData, args := #[xo], argTypes := ats }, ty, pos, aft, g⟩ = (do pure (.value (← Builtin.unsafeSliceData_ ats ty #[v]))) := fun v hv => by
      subst hv; simp [execOp, resolve, invoke, builtin]
    cases bs with
    | nil =>
      refine ⟨_, ?_, .v trivial⟩
      rw [hrun _ h1.inv_v.1, Sem.run_bind, Lib.run_unsafeSliceData_nil]; rfl
    | cons b bs =>
      generalize hv : a.eval xo = v at h1
      simp only [List.map_cons, accD] at h1
      cases h1 with
      | @sl b' sz off len cap e n q1 q2 q3 q4 =>
        refine ⟨_, ?_, .ref _ _⟩
        rw [hrun _ hv, Sem.run_bind, Lib.run_unsafeSliceData_row (w := w) ats ty _ _ _ (by omega)]; simp) hrest
end

theorem freeze_other (w : World) (g n b : Nat) (h : b ≠ g) : (w.freeze ⟨g, 0, none⟩ n).heap[b]? = w.heap[b]? := by
  unfold World.freeze
  split
  · rfl
  · simp only [Array.getElem?_modify]; rw [if_neg (fun e => h e.symm)]
theorem shape?_freeze (w : World) (a : Addr) (n b : Nat) : (w.freeze a n).shape? b = w.shape? b := by
  unfold World.freeze
  split
  · rfl
  · unfold World.shape?
    by_cases h : a.block = b
    · subst h
      simp only [Array.getElem?_modify, if_true]
      cases hh : w.heap[a.block]? with
      | none => simp
      | some o => cases o <;> simp
    · simp only [Array.getElem?_modify]; rw [if_neg h]
theorem Step.freeze (w : World) (g n : Nat) : Step (· = g) w (w.freeze ⟨g, 0, none⟩ n) :=
  ⟨by unfold World.freeze; split <;> rfl, by unfold World.freeze; split <;> rfl, by unfold World.freeze; split <;> rfl, by unfold World.freeze; split <;> simp, fun b _ hb => freeze_other w g n b hb, fun b s h => by rw [shape?_freeze]; exact h⟩

section
variable {C : Ctx} {E : Env} {base : Base} {F : Nat → Prop} {st : St} {a : Act} {w : World} {ops : Array Oper} {rest : List Oper} {R : St → Prop}
  {t : Tmp} {ty : TypeId} {pos : String} {aft : Array Edge} {g : Option (Nat × Bool)}

/-- unsafe.String: the own row, if there is one, is let go. -/
theorem SOps.unsafeStr {pt it e gb : TypeId} {po no : Operand} {bs : List UInt8} (H1 H2 : DHeap) (hp : C.P.underlying pt = some (.pointer e)) (hc : C.P.cellsOf e = 1) (hx : st.val po = some (dataD gb bs))
    (hn : st.val no = some (.v (.int .i64 bs.length))) (hh : st.heap = H1 ++ (accH e 1 gb (bs.map encY) ++ H2)) (hrest : SOps C ops rest ⟨st.n, (t, .v (.string ⟨bs.toArray⟩)) :: st.slots, H1 ++ H2⟩ R)
    (hg : st.wants ops g = some true := by rfl) (ht : Nat.blt t st.n = true := by rfl) : SOps C ops (⟨some t, .call { callee := .builtin .unsafeString, args := #[po, no], argTypes := #[pt, it] }, ty, pos, aft, g⟩ :: rest) st R := by
  have hrun : ∀ (a : Act) v u, a.eval po = v → a.eval no = u → execOp a.eval ⟨some t, .call { callee := .builtin .unsafeString, args := #[po, no], argTypes := #[pt, it] }, ty, pos, aft, g⟩ = (do pure (.value (← Builtin.unsafeString_ #[pt, it] ty #[v, u]))) := fun a v u hv hu => by
    subst hv; subst hu; simp [execOp, resolve, invoke, builtin]
  cases bs with
  | nil =>
    have e1 : H1 ++ H2 = st.heap := by rw [hh]; rfl
    rw [e1] at hrest
    refine SOps.val rfl hg ht (fun base a w F hs => ⟨.string .empty, ?_, .v (by simp [scal, lenB])⟩) hrest
    rw [hrun a _ _ (hs.val hx).inv_v.1 (hs.val hn).inv_v.1, Sem.run_bind]
    have := Lib.run_unsafeString_none (P := C.P) w pt it ty none
    simp only [List.length_nil]
    rw [show ((0 : Nat) : Int) = 0 from rfl, this]; rfl
  | cons y bs =>
    refine SOps.op (R1 := (· = ⟨st.n, (t, .v (.string ⟨(y :: bs).toArray⟩)) :: st.slots, H1 ++ H2⟩)) hg ?_ (fun st' e => e ▸ hrest)
    intro base ok a w F hs K Q hK
    have h1 := hs.val hx
    have h2 := (hs.val hn).inv_v
    generalize hv : a.eval po = v at h1
    have hi : st.heap[H1.length]? = some (gb, .row e 1 ((y :: bs).map encY)) := by rw [hh]; simp [accH]
    obtain ⟨k1, k2, cs, c1, c2, c3, c4⟩ := hs.heap _ (List.mem_of_getElem? hi)
    simp only at c1
    cases h1 with
    | ref =>
      have hcell : ∀ (j : Nat) x, (y :: bs)[j]? = some x → w.cell? ((⟨gb, 0, none⟩ : Addr).add j) = some (.int .u8 x.toNat) := fun j x hj => by
        have hj' : ((y :: bs).map encY)[j]? = some (encY x) := by rw [List.getElem?_map, hj]; rfl
        obtain ⟨z, hz, _, hr⟩ := (c4 j _ hj').2 0 _ rfl
        have hz' := hr.inv_v.1
        rw [add_plain', cell_of_row w gb _ cs _ _ c1]
        simp only [Nat.mul_one, Nat.add_zero, Nat.zero_add] at hz ⊢
        rw [hz, hz']
      have hlen : (y :: bs).length ≤ cs.size := by simpa using c2
      have hmx : (y :: bs).length ≤ 9223372036854775807 := by
        have e0 : ((y :: bs).map encY).length = (y :: bs).length := by simp
        rw [e0] at c3; exact c3
      have hr := Lib.run_unsafeString_row (P := C.P) w pt it ty e hp hc gb cs.size (by simp [World.shape?, c1]) (y :: bs) (by simp) hlen hmx hcell
      unfold Oper.wp
      rw [hrun a _ _ hv h2.1, Sem.run_bind, hr]
      simp only [Result.andThen_ok, Sem.run_pure]
      rw [Oper.upon_value]
      refine hK _ _ _ rfl ⟨F, ?_⟩
      have hst := Step.freeze w gb (y :: bs).length
      have hw : SimF C.E base F ⟨st.n, st.slots, H1 ++ H2⟩ a (w.freeze ⟨gb, 0, none⟩ (y :: bs).length) := by
        have hF : ∀ c, F c → (w.freeze ⟨gb, 0, none⟩ (y :: bs).length).heap[c]? = w.heap[c]? := fun c hc => freeze_other w gb _ c (fun e => k2 (e ▸ hc))
        have hk := hs.keys
        rw [hh] at hk
        exact {
          keep := hs.keep.then hst (fun c hc e => by
            subst e
            rcases k1 with h | h
            · exact h
            · exact absurd hc (Nat.not_lt.2 h))
          base_lt := hs.base_lt
          sub := hs.sub
          lt := fun c hc => ⟨Nat.lt_of_lt_of_le (hs.lt c hc).1 hst.size, (hs.lt c hc).2⟩
          env := C.E.mono hF (fun _ x => x) hs.env
          size := hs.size
          slots := fun t d ht => ⟨(hs.slots t d ht).1, (hs.slots t d ht).2.mono hF hst.shape (fun _ x => x)⟩
          heap := fun p hp => by
            have hmem : p ∈ st.heap := by rw [hh]; simp only [List.mem_append] at hp ⊢; exact hp.elim .inl (fun h => .inr (.inr h))
            obtain ⟨h1, h2, h3⟩ := hs.heap p hmem
            refine ⟨h1, h2, h3.mono (freeze_other w gb _ _ (fun e => ?_)) hF hst.shape (fun _ x => x)⟩
            simp only [accH, List.map_cons, List.map_append, List.singleton_append] at hk
            rw [List.nodup_append] at hk
            obtain ⟨_, k5, k6⟩ := hk
            rw [List.nodup_cons] at k5
            rcases List.mem_append.1 hp with h | h
            · exact k6 _ (List.mem_map.2 ⟨p, h, rfl⟩) gb (List.mem_cons_self ..) e
            · exact k5.1 (List.mem_map.2 ⟨p, h, e⟩)
          keys := by
            simp only [accH, List.map_cons, List.map_append, List.singleton_append] at hk ⊢
            rw [List.nodup_append] at hk ⊢
            obtain ⟨k4, k5, k6⟩ := hk
            exact ⟨k4, (List.nodup_cons.1 k5).2, fun x hx y hy => k6 x hx y (List.mem_cons_of_mem _ hy)⟩
          defers := hs.defers }
      exact SimF.put (st := ⟨st.n, st.slots, H1 ++ H2⟩) hw (by simpa using ht) (.v (by
        show (y :: bs).toArray.size ≤ lenB
        rw [List.size_toArray]; exact hmx))
end

/-! ### regions of open order whose last operations act -/
def reqF (l : List Oper) : Nat → Nat → List Nat
  | 0, _ => []
  | f + 1, k => match l[k]? with
    | none => []
    | some o => (List.range k).filter (fun j => afterB o j) ++ (((List.range k).filter (fun j => afterB o j)).map (reqF l f)).flatten
theorem reqF_spec {l : List Oper} {L : Nat → Bool} (hc : ∀ (k : Nat) o j, l[k]? = some o → L k = true → afterB o j = true → L j = true) : ∀ (f k : Nat), L k = true → ∀ j ∈ reqF l f k, L j = true
  | 0, _, _, _, h => by simp [reqF] at h
  | f + 1, k, hk, j, h => by
    simp only [reqF] at h
    split at h
    · simp at h
    · rename_i o ho
      rcases List.mem_append.1 h with h | h
      · exact hc k o j ho hk (by simpa using (List.mem_filter.1 h).2)
      · obtain ⟨js, hjs, hj⟩ := List.mem_flatten.1 h
        obtain ⟨i, hi, rfl⟩ := List.mem_map.1 hjs
        exact reqF_spec hc f i (hc k o i ho hk (by simpa using (List.mem_filter.1 hi).2)) j hj
/-- From place m on, each operation waits for all that is listed before it. -/
def seqB (l : List Oper) (m f : Nat) : Bool := (List.range l.length).all (fun k => Nat.blt k m || (List.range k).all (fun j => (reqF l f k).any (fun x => Nat.beq x j)))
inductive SeqOk (C : Ctx) (ops : Array Oper) : (St → Prop) → List Oper → (St → Prop) → Prop
  | nil {R : St → Prop} : SeqOk C ops R [] R
  | cons {R R1 R2 : St → Prop} {o : Oper} {os : List Oper} (h : ∀ st, R st → SOps C ops [o] st R1) (k : SeqOk C ops R1 os R2) : SeqOk C ops R (o :: os) R2
theorem OpsOk.atDraw {C : Ctx} {l : List Oper} {n : Nat} {s : List (Nat × DV)} {H : DHeap} {D : List (Nat × DV)} {ts : List Nat} {srcs : List (List (Nat ⊕ Nat))} {nds : List (List (Nat × DV))} {l1 : List Oper}
    (hts : D.map (·.1) = ts) (hnodup : (D.map (·.1)).Nodup) (hsrc : ∀ i o, l1[i]? = some o → ∀ ss, srcs[i]? = some ss → ∀ x ∈ ss, srcB l1 ts i o x = true) (hnd : srcs.map (needOf D s) = nds) (hops : OpsOk C l.toArray n H l1 nds D)
    {L : Nat → Bool} {st' : St} {i : Nat} {o : Oper} (hi : l1[i]? = some o) (hLi : L i = false) (hle : (⟨n, pick2 L 0 D s, H⟩ : St).Le st') (haft : ∀ j, afterB o j = true → L j = true) (hbef : ∀ k o', l1[k]? = some o' → afterB o' i = true → L k = false) :
    SOps C l.toArray [o] st' (fun st2 => (⟨n, pick2 (fun k => if k = i then true else L k) 0 D s, H⟩ : St).Le st2) := by
  obtain ⟨nd, p, h1, h2, h3⟩ := hops.at i o hi
  refine SOps.weaken hle ?_
  have hneed : ∀ t d, getL nd t = some d → getL (pick2 L 0 D s) t = some d := by
    rw [← hnd] at h1
    obtain ⟨ss, hss, e⟩ := Option.map_eq_some_iff.1 (by simpa using h1)
    have hchk := hsrc i o hi ss hss
    subst e
    have key : ∀ (ss : List (Nat ⊕ Nat)), (∀ x ∈ ss, srcB l1 ts i o x = true) → ∀ t d, getL (needOf D s ss) t = some d → getL (pick2 L 0 D s) t = some d := by
      intro ss
      induction ss with
      | nil => intro _ t d h; simp [needOf, getL] at h
      | cons x ss ih =>
        intro hx t d h
        have ih' := ih (fun y hy => hx y (List.mem_cons_of_mem _ hy)) t d
        have hx0 := hx x (List.mem_cons_self ..)
        cases x with
        | inl j =>
          simp only [srcB, Bool.and_eq_true] at hx0
          simp only [needOf] at h
          split at h
          · rename_i q hq
            rw [getL_cons] at h
            split at h
            · rename_i e
              subst e
              obtain rfl := Option.some.inj h
              exact pick2_some D 0 j s q hnodup hq (by simpa using haft j hx0.1)
            · exact ih' h
          · exact ih' h
        | inr u =>
          simp only [srcB, List.all_eq_true] at hx0
          simp only [needOf] at h
          split at h
          · rename_i q hq
            rw [getL_cons] at h
            split at h
            · rename_i e
              simp only at e
              subst e
              obtain rfl := Option.some.inj h
              rw [pick2_none D 0 s (fun k p hk hp => ?_)]
              · exact hq
              · have h4 := hx0 (p.1, k) (by rw [List.mem_iff_getElem?]; exact ⟨k, by rw [← hts]; simp [List.getElem?_zipIdx, hk]⟩)
                simp only [hp, Nat.beq_refl, Bool.not_true, Bool.false_or, Bool.or_eq_true] at h4
                rw [Nat.zero_add]
                rcases h4 with h4 | h4
                · rw [Nat.eq_of_beq_eq_true h4]; exact hLi
                · unfold nthB at h4
                  split at h4
                  · rename_i o' ho'
                    exact hbef k o' ho' h4
                  · cases h4
            · exact ih' h
          · exact ih' h
    exact key ss hchk
  have hnl : ∀ t, getL (nd ++ pick2 L 0 D s) t = getL (pick2 L 0 D s) t := by
    intro t
    have : ∀ (nd : List (Nat × DV)), (∀ d, getL nd t = some d → getL (pick2 L 0 D s) t = some d) → getL (nd ++ pick2 L 0 D s) t = getL (pick2 L 0 D s) t := by
      intro nd
      induction nd with
      | nil => intro _; rfl
      | cons q nd ih =>
        intro h
        rw [List.cons_append, getL_cons]
        split
        · rename_i e
          exact (h q.2 (by rw [getL_cons, if_pos e])).symm
        · rename_i e
          exact ih (fun d hd => h d (by rw [getL_cons, if_neg e]; exact hd))
    exact this nd (hneed t)
  refine SOps.weaken (st' := ⟨n, nd ++ pick2 L 0 D s, H⟩) ⟨rfl, fun t d ht => .inl ((hnl t).symm.trans ht), H, .refl _, .refl _⟩ ((h3 (pick2 L 0 D s)).mono ?_)
  rintro st2 rfl
  refine ⟨rfl, fun t d ht => .inl ?_, H, .refl _, .refl _⟩
  show getL (p :: (nd ++ pick2 L 0 D s)) t = some d
  rw [getL_cons, hnl]
  have ht : getL (pick2 (fun k => if k = i then true else L k) 0 D s) t = some d := ht
  by_cases hpt : p.1 = t
  · rw [if_pos hpt]
    subst hpt
    rw [pick2_some D 0 i s p hnodup h2 (by simp)] at ht
    exact ht
  · rw [if_neg hpt, ← ht]
    have : ∀ (D : List (Nat × DV)) (b : Nat), (∀ k q, D[k]? = some q → b + k = i → q.1 ≠ t) → getL (pick2 L b D s) t = getL (pick2 (fun k => if k = i then true else L k) b D s) t := by
      intro D
      induction D with
      | nil => intro b _; rfl
      | cons q D ih =>
        intro b h
        have ih' := ih (b + 1) (fun k q' hk hb => h (k + 1) q' (by simpa using hk) (by omega))
        simp only [pick2]
        by_cases hbi : b = i
        · have hq := h 0 q rfl (by omega)
          simp only [if_pos hbi, if_true]
          rw [getL_cons, if_neg hq]
          split
          · rw [getL_cons, if_neg hq]; exact ih'
          · exact ih'
        · simp only [if_neg hbi]
          split
          · rw [getL_cons, getL_cons]
            split
            · rfl
            · exact ih'
          · exact ih'
    exact this D 0 (fun k q hk hb => by
      have : k = i := by omega
      subst this
      rw [h2] at hk
      obtain rfl := Option.some.inj hk
      exact hpt)
theorem pick2_all {L : Nat → Bool} {s : List (Nat × DV)} : ∀ (D : List (Nat × DV)) (b : Nat), (∀ k, b ≤ k → k < b + D.length → L k = true) → pick2 L b D s = D ++ s
  | [], _, _ => rfl
  | q :: D, b, h => by
    simp only [pick2, h b (Nat.le_refl _) (by simp), if_true, pick2_all D (b + 1) (fun k h1 h2 => h k (by omega) (by simp only [List.length_cons]; omega)), List.cons_append]
theorem pick2_eq {L L' : Nat → Bool} {s : List (Nat × DV)} : ∀ (D : List (Nat × DV)) (b : Nat), (∀ k, b ≤ k → k < b + D.length → L k = L' k) → pick2 L b D s = pick2 L' b D s
  | [], _, _ => rfl
  | q :: D, b, h => by
    simp only [pick2, h b (Nat.le_refl _) (by simp), pick2_eq D (b + 1) (fun k h1 h2 => h k (by omega) (by simp only [List.length_cons]; omega))]

theorem SCode.drawSeq {C : Ctx} {id : Nat} (l1 l2 : List Oper) {n : Nat} {s : List (Nat × DV)} {H : DHeap} {Q : Exit → St → Prop} {Rend : St → Prop} (f : Nat) (hm : C.P.follows .mixedOrders = true) (D : List (Nat × DV)) (ts : List Nat) (srcs : List (List (Nat ⊕ Nat))) (nds : List (List (Nat × DV)))
    (hts : D.map (·.1) = ts) (hB : drawB l1 ts srcs = true) (hd : distB ts = true) (hord : ordB (l1 ++ l2) = true) (hseq : seqB (l1 ++ l2) l1.length f = true) (hnd : srcs.map (needOf D s) = nds) (hops : OpsOk C (l1 ++ l2).toArray n H l1 nds D)
    (hl2 : SeqOk C (l1 ++ l2).toArray (fun st => (⟨n, D ++ s, H⟩ : St).Le st) l2 Rend) (hQ : ∀ st, Rend st → ∃ s2 : St, s2.Le st ∧ Q .normal s2) : SCode C (.region id (l1 ++ l2).toArray true) ⟨n, s, H⟩ Q := by
  simp only [drawB, Bool.and_eq_true, List.all_eq_true] at hB
  obtain ⟨⟨_, hlen⟩, hsrc⟩ := hB
  have hlen := Nat.eq_of_beq_eq_true hlen
  have hnodup : (D.map (·.1)).Nodup := hts ▸ distB_spec ts hd
  have hDl : D.length = l1.length := by rw [hlen, ← hts]; simp
  have hsrc' : ∀ i o, l1[i]? = some o → ∀ ss, srcs[i]? = some ss → ∀ x ∈ ss, srcB l1 ts i o x = true := fun i o hi ss hss => by
    have hchk := hsrc (o, i) (by rw [List.mem_iff_getElem?]; exact ⟨i, by simp [List.getElem?_zipIdx, hi]⟩)
    simp only [hss, List.all_eq_true] at hchk
    exact hchk
  have hwait : ∀ (L : Nat → Bool), (∀ (k : Nat) o j, (l1 ++ l2)[k]? = some o → L k = true → afterB o j = true → L j = true) → ∀ k, l1.length ≤ k → k < (l1 ++ l2).length → (∀ o, (l1 ++ l2)[k]? = some o → ∀ j, afterB o j = true → L j = true) → ∀ j, j < k → L j = true := by
    intro L hcl k hk1 hk2 ho j hj
    have h1 := List.all_eq_true.1 hseq k (List.mem_range.2 hk2)
    simp only [Bool.or_eq_true] at h1
    rcases h1 with h1 | h1
    · exact absurd (by simpa using h1) (Nat.not_lt.2 hk1)
    · have h2 := List.all_eq_true.1 h1 j (List.mem_range.2 hj)
      obtain ⟨x, hx, hxj⟩ := List.any_eq_true.1 h2
      have := Nat.eq_of_beq_eq_true hxj
      subst this
      cases f with
      | zero => simp [reqF] at hx
      | succ f =>
        simp only [reqF, List.getElem?_eq_getElem hk2] at hx
        have ho' := ho _ (List.getElem?_eq_getElem hk2)
        rcases List.mem_append.1 hx with hx | hx
        · exact ho' x (by simpa using (List.mem_filter.1 hx).2)
        · obtain ⟨js, hjs, hjx⟩ := List.mem_flatten.1 hx
          obtain ⟨i, hi, rfl⟩ := List.mem_map.1 hjs
          exact reqF_spec hcl f i (ho' i (by simpa using (List.mem_filter.1 hi).2)) x hjx
  refine SCode.drawAny hm hord (fun L st' => ((∀ k, l1.length ≤ k → L k = false) ∧ (⟨n, pick2 L 0 D s, H⟩ : St).Le st') ∨ ∃ (j : Nat) (R : St → Prop), l1.length ≤ j ∧ (∀ k, k < j → L k = true) ∧ (∀ k, j ≤ k → L k = false) ∧ SeqOk C (l1 ++ l2).toArray R (l2.drop (j - l1.length)) Rend ∧ R st') ?_ ?_ ?_
  · refine .inl ⟨fun _ _ => rfl, ?_⟩
    have : ∀ (D : List (Nat × DV)) i, pick2 (fun _ => false) i D s = s := fun D => by
      induction D with
      | nil => intro i; rfl
      | cons p D ih => intro i; simp [pick2, ih]
    rw [this D 0]
    exact ⟨rfl, fun t d h => .inl h, H, .refl _, .refl _⟩
  · intro L st' i o hi hLi hinv haft hbef hcl
    have hil := (List.getElem?_eq_some_iff.1 hi).1
    by_cases him : i < l1.length
    · have hi1 : l1[i]? = some o := by rw [List.getElem?_append_left him] at hi; exact hi
      rcases hinv with ⟨h1, h2⟩ | ⟨j, R, hj, h1, _⟩
      · refine (OpsOk.atDraw hts hnodup hsrc' hnd hops hi1 hLi h2 haft (fun k o' hk hka => hbef k o' (by rw [List.getElem?_append_left (List.getElem?_eq_some_iff.1 hk).1]; exact hk) hka)).mono (fun st2 h3 => .inl ⟨fun k hk => ?_, h3⟩)
        show (if k = i then true else L k) = false
        rw [if_neg (by omega)]; exact h1 k hk
      · rw [h1 i (by omega)] at hLi; cases hLi
    · have him : l1.length ≤ i := Nat.not_lt.1 him
      have hall := hwait L hcl i him hil (fun o' ho' => by rw [hi] at ho'; obtain rfl := Option.some.inj ho'; exact haft)
      have hR : ∃ R : St → Prop, SeqOk C (l1 ++ l2).toArray R (l2.drop (i - l1.length)) Rend ∧ R st' ∧ ∀ k, i ≤ k → L k = false := by
        rcases hinv with ⟨h1, h2⟩ | ⟨j, R, hj, h1, h2, h3, h4⟩
        · have hi0 : i = l1.length := by
            rcases Nat.lt_or_ge l1.length i with h | h
            · have := h1 _ (Nat.le_refl _); rw [hall _ h] at this; cases this
            · omega
          subst hi0
          refine ⟨_, by rw [Nat.sub_self]; exact hl2, ?_, h1⟩
          rw [pick2_all D 0 (fun k _ hk => hall k (by omega))] at h2
          exact h2
        · have hij : i = j := by
            rcases Nat.lt_trichotomy i j with h | h | h
            · rw [h1 i h] at hLi; cases hLi
            · exact h
            · have := h2 j (Nat.le_refl _); rw [hall j h] at this; cases this
          subst hij
          exact ⟨R, h3, h4, h2⟩
      obtain ⟨R, h3, h4, h5⟩ := hR
      have hi2 : l2[i - l1.length]? = some o := by rw [List.getElem?_append_right him] at hi; exact hi
      rw [List.drop_eq_getElem_cons (List.getElem?_eq_some_iff.1 hi2).1] at h3
      have ho : l2[i - l1.length]'(List.getElem?_eq_some_iff.1 hi2).1 = o := (List.getElem?_eq_some_iff.1 hi2).2
      rw [ho] at h3
      cases h3 with
      | @cons _ R1 _ _ _ h k =>
        refine (h st' h4).mono (fun st2 h6 => .inr ⟨i + 1, R1, by omega, fun k hk => ?_, fun k hk => ?_, by rw [show i + 1 - l1.length = i - l1.length + 1 from by omega]; exact k, h6⟩)
        · show (if k = i then true else L k) = true
          by_cases hki : k = i
          · rw [if_pos hki]
          · rw [if_neg hki]; exact hall k (by omega)
        · show (if k = i then true else L k) = false
          rw [if_neg (by omega)]; exact h5 k (by omega)
  · intro L st' hall hinv
    rcases hinv with ⟨h1, h2⟩ | ⟨j, R, hj, h1, h2, h3, h4⟩
    · cases l2 with
      | nil =>
        cases hl2
        rw [pick2_all D 0 (fun k _ hk => hall k (by simp; omega))] at h2
        exact hQ _ h2
      | cons o os =>
        have := h1 l1.length (Nat.le_refl _)
        rw [hall _ (by simp)] at this; cases this
    · have hj2 : (l1 ++ l2).length ≤ j := by
        rcases Nat.lt_or_ge j (l1 ++ l2).length with h | h
        · have := h2 j (Nat.le_refl _); rw [hall j h] at this; cases this
        · exact h
      rw [List.length_append] at hj2
      rw [List.drop_eq_nil_of_le (by omega)] at h3
      cases h3
      exact hQ _ h4
theorem SCode.drawSeqAt {C : Ctx} {id : Nat} {l : List Oper} (m : Nat) {n : Nat} {s : List (Nat × DV)} {H : DHeap} {Q : Exit → St → Prop} (Rend : St → Prop) (f : Nat) (hm : C.P.follows .mixedOrders = true) (D : List (Nat × DV)) (ts : List Nat) (srcs : List (List (Nat ⊕ Nat))) (nds : List (List (Nat × DV)))
    (hts : D.map (·.1) = ts) (hB : drawB (l.take m) ts srcs = true) (hd : distB ts = true) (hord : ordB l = true) (hseq : seqB l m f = true) (hml : (l.take m).length = m) (hnd : srcs.map (needOf D s) = nds) (hops : OpsOk C l.toArray n H (l.take m) nds D)
    (hl2 : SeqOk C l.toArray (fun st => (⟨n, D ++ s, H⟩ : St).Le st) (l.drop m) Rend) (hQ : ∀ st, Rend st → ∃ s2 : St, s2.Le st ∧ Q .normal s2) : SCode C (.region id l.toArray true) ⟨n, s, H⟩ Q := by
  have e := List.take_append_drop m l
  have := SCode.drawSeq (C := C) (id := id) (l.take m) (l.drop m) (n := n) (s := s) (H := H) (Q := Q) (Rend := Rend) f hm D ts srcs nds hts hB hd (by rw [e]; exact hord) (by rw [e, hml]; exact hseq) hnd (by rw [e]; exact hops) (by rw [e]; exact hl2) hQ
  rwa [e] at this
/-- A call that is handed the last own blocks. -/
theorem SOps.callR {C : Ctx} {st : St} {ops : Array Oper} {rest : List Oper} {R : St → Prop} {t : Tmp} {ty : TypeId} {pos : String} {aft : Array Edge} {g : Option (Nat × Bool)} {f : FuncId} {xs : Array Operand} {ats : Array TypeId} {ds : List DV} (H G : DHeap) {Rr : DV → DHeap → Prop} (hf : GCall C.P C.E f ds H Rr) (hxs : st.vals xs.toList = some ds)
    (hH : st.heap = G ++ H) (hrest : ∀ d H', Rr d H' → SOps C ops rest ⟨st.n, (t, d) :: st.slots, G ++ H'⟩ R)
    (hg : st.wants ops g = some true := by rfl) (ht : Nat.blt t st.n = true := by rfl) :
    SOps C ops (⟨some t, .call { callee := .value (.func f), args := xs, argTypes := ats }, ty, pos, aft, g⟩ :: rest) st R := by
  have hv : ∀ (l : List Operand) (ds : List DV), st.vals l = some ds → (⟨st.n, st.slots, H ++ G⟩ : St).vals l = some ds := fun l => by
    induction l with
    | nil => exact fun ds h => h
    | cons x l ih =>
      intro ds h
      simp only [St.vals] at h ⊢
      split at h
      · rename_i d ds' h1 h2
        have e1 : (⟨st.n, st.slots, H ++ G⟩ : St).val x = some d := by cases x <;> exact h1
        rw [e1, ih ds' h2]; exact h
      · cases h
  have hgw : ∀ g, st.wants ops g = some true → (⟨st.n, st.slots, H ++ G⟩ : St).wants ops g = some true := fun g h => h
  refine SOps.weaken (st' := ⟨st.n, st.slots, H ++ G⟩) ⟨rfl, fun t d h => .inl h, G ++ H, List.perm_append_comm, by rw [hH]; exact List.Sublist.refl _⟩ ?_
  refine SOps.call (H := H) (G := G) hf (hv _ _ hxs) rfl (fun d H' h => ?_) (hgw _ hg) ht
  exact SOps.weaken (st' := ⟨st.n, (t, d) :: st.slots, G ++ H'⟩) ⟨rfl, fun t d h => .inl h, H' ++ G, List.perm_append_comm, List.Sublist.refl _⟩ (hrest d H' h)
/-! #### maps, told by what is found in them -/
theorem lookupL_upd {d0 : TypeDesc} {k k' : Value} (hk : isKey d0 k = true) (hk' : isKey d0 k' = true) (d : DV) : ∀ (es : List (Value × DV)), (∀ p ∈ es, isKey d0 p.1 = true) → lookupL (updL es k d) k' = if sameKey k' k then some d else lookupL es k'
  | [], _ => by simp only [updL, lookupL]
  | p :: es, h => by
    have hp := h p (List.mem_cons_self ..)
    simp only [updL]
    by_cases e : sameKey k p.1 = true
    · have e1 := (sameKey_iff hk hp).1 e
      rw [if_pos e]
      simp only [lookupL, ← e1]
      by_cases e2 : sameKey k' k = true
      · simp [e2]
      · simp [e2]
    · rw [if_neg e]
      simp only [lookupL]
      rw [lookupL_upd hk hk' d es (fun q hq => h q (List.mem_cons_of_mem _ hq))]
      by_cases e2 : sameKey k' p.1 = true
      · rw [if_pos e2]
        by_cases e3 : sameKey k' k = true
        · exact absurd ((sameKey_iff hk hp).2 (((sameKey_iff hk' hk).1 e3).symm.trans ((sameKey_iff hk' hp).1 e2))) e
        · simp [e2, e3]
      · simp [e2]
theorem updL_keys {d0 : TypeDesc} {k : Value} (hk : isKey d0 k = true) (d : DV) : ∀ (es : List (Value × DV)), (∀ p ∈ es, isKey d0 p.1 = true) → ∀ p ∈ updL es k d, isKey d0 p.1 = true
  | [], _, p, hp => by simp [updL] at hp; subst hp; exact hk
  | q :: es, h, p, hp => by
    simp only [updL] at hp
    split at hp
    · rcases List.mem_cons.1 hp with rfl | hp
      · exact hk
      · exact h p (List.mem_cons_of_mem _ hp)
    · rcases List.mem_cons.1 hp with rfl | hp
      · exact h _ (List.mem_cons_self ..)
      · exact updL_keys hk d es (fun q hq => h q (List.mem_cons_of_mem _ hq)) p hp
end Go.GH
