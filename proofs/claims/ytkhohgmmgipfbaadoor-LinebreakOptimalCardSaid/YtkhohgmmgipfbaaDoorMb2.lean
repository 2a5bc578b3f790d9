/-
  Part 2 of the texts behind the walks of this claim: an own layer over the kit's wp, plain laws, and walks. No conditions.
-/
import Derived.Test.YtkhohgmmgipfbaaDoorMb1
import Derived.Lib.Builder
import Derived.Lib.UnsafeStr
import Derived.Laws.Externs
import Derived.Lib.SpaceUEq
import Derived.Scope
import Derived.DeepKeys3
import Derived.Test.YtkhohgmmgipfbaaDoorRows
import Derived.Lib.AppendStr
import Derived.Test.YtkhohgmmgipfbaaDoorProg
import Derived.KernelRfl
set_option linter.unusedVariables false
set_option linter.unusedSimpArgs false
set_option linter.deprecated false
namespace Go.GH
open Go Go.RowKit

section
variable {C : Ctx} {E : Env} {base : Base} {F : Nat → Prop} {st : St} {a : Act} {w : World} {ops : Array Oper} {rest : List Oper} {R : St → Prop}
  {t : Tmp} {ty : TypeId} {pos : String} {aft : Array Edge} {g : Option (Nat × Bool)}

theorem accD_one (sz b : Nat) (es : List (List DV)) : (accD sz b es).one = true := by cases es <;> rfl

/-! #### a pointer that is not nil -/
def DV.isPtr : DV → Bool
  | .ref _ _ | .vref _ _ _ | .ipin _ => true
  | _ => false
theorem SOps.nilCheck {xo : Operand} {d : DV} (hx : st.val xo = some d) (hp : d.isPtr = true) (hrest : SOps C ops rest (st.put t d) R)
    (hg : st.wants ops g = some true := by rfl) (ht : Nat.blt t st.n = true := by rfl) : SOps C ops (⟨some t, .nilCheck xo, ty, pos, aft, g⟩ :: rest) st R :=
  SOps.val rfl hg ht (fun base a w F hs => by
    have h1 := hs.val hx
    refine ⟨a.eval xo, ?_, h1⟩
    generalize hv : a.eval xo = v at h1
    cases h1 <;> first | (simp [DV.isPtr] at hp; done) | (simp [execOp, hv])) hrest
theorem SOps.fieldV {s f off b e n : Nat} {xo : Operand} (hx : st.val xo = some (.vref b e n)) (hs : fieldB C.P s f off = true) (hrest : SOps C ops rest (st.put t (.ref b (0 + off))) R)
    (hg : st.wants ops g = some true := by rfl) (ht : Nat.blt t st.n = true := by rfl) : SOps C ops (⟨some t, .fieldAddr s xo f, ty, pos, aft, g⟩ :: rest) st R :=
  SOps.val rfl hg ht (fun base a w F hsim => by
    have h1 := hsim.val hx
    generalize hv : a.eval xo = v at h1
    cases h1 with
    | vref => exact ⟨_, by simp [execOp, hv, run_field hs, add_plain'], .ref _ _⟩) hrest
theorem SOps.allocV {T sz : Nat} {z : Value} {cs : List DV} (hz : zeroIs C.P T z) (hrest : ∀ b, st.fresh b → SOps C ops rest ⟨st.n, (t, .vref b T sz) :: st.slots, (b, .row T sz [cs]) :: st.heap⟩ R)
    (hcs : z.cells.toList.map DV.v = cs := by rfl) (hsz : cs.length = sz := by rfl) (hb : zcellsB z = true := by rfl)
    (hg : st.wants ops g = some true := by rfl) (ht : Nat.blt t st.n = true := by rfl) : SOps C ops (⟨some t, .alloc T, ty, pos, aft, g⟩ :: rest) st R :=
  SOps.new (d := fun b => .vref b T sz) (ob := fun _ => .row T sz [cs]) rfl hg ht (fun base a w F hs => by
    have hl : z.cells.size = sz := by rw [← hsz, ← hcs]; simp
    refine ⟨w, .pointer (some ⟨w.heap.size, 0, none⟩), .cells z.cells T, Step.refl _ _, rfl, ?_, .vref (by rw [shape_new, hl]), row_new (by rw [← hcs]; simp) hsz (fun j x hx => (zcells_spec hb j x hx).2) (fun b hb => (hs.lt b hb).1) (fun j x d hx hd => ?_)⟩
    · simp [execOp, Instr.alloc, run_zeroValue hz, newVar, newRow]
    · rw [← hcs] at hd
      simp at hd
      obtain ⟨y, hy, rfl⟩ := hd
      rw [hy] at hx
      obtain rfl := Option.some.inj hx
      exact .v (zcells_spec hb j y hy).1) hrest

def ptrB (P : Program) (tp te : Nat) : Prop := P.underlying tp = some (.pointer te) ∧ ∃ j, P.info? te = some j ∧ j.size ≠ 0
theorem SOps.eqPtr {T T2 te : TypeId} {xo yo : Operand} {b e n e' n' : Nat} (hT : ptrB C.P T te) (hx : st.val xo = some (.vref b e n)) (hy : st.val yo = some (.vref b e' n')) (hrest : SOps C ops rest (st.put t (.v (.bool false))) R)
    (hg : st.wants ops g = some true := by rfl) (ht : Nat.blt t st.n = true := by rfl) : SOps C ops (⟨some t, .binOp .neq T xo yo T2, ty, pos, aft, g⟩ :: rest) st R :=
  SOps.val rfl hg ht (fun base a w F hs => by
    have h1 := hs.val hx
    have h2 := hs.val hy
    generalize hv : a.eval xo = v at h1
    generalize hv' : a.eval yo = v' at h2
    obtain ⟨hp, j, hj, hjs⟩ := hT
    cases h1; cases h2
    refine ⟨.bool false, ?_, .v trivial⟩
    simp only [execOp, hv, hv']
    exact run_binNext (by simp only [eqGuard, Sem.run_bind]; simp [Lib.run_neq_ptr_same w _ hp hj])) hrest
/-- Against nil. -/
theorem SOps.eqNil {T T2 te : TypeId} {xo yo : Operand} {d : DV} (c : Bool) (hT : ptrB C.P T te) (hx : st.val xo = some d) (hd : (d.isPtr = true ∧ c = false) ∨ (d = .v (.pointer none) ∧ c = true)) (hy : st.val yo = some (.v (.pointer none))) (hrest : SOps C ops rest (st.put t (.v (.bool c))) R)
    (hg : st.wants ops g = some true := by rfl) (ht : Nat.blt t st.n = true := by rfl) : SOps C ops (⟨some t, .binOp .eql T xo yo T2, ty, pos, aft, g⟩ :: rest) st R :=
  SOps.val rfl hg ht (fun base a w F hs => by
    have h1 := hs.val hx
    have h2 := (hs.val hy).inv_v.1
    generalize hv : a.eval xo = v at h1
    obtain ⟨hp, j, hj, hjs⟩ := hT
    refine ⟨.bool c, ?_, .v trivial⟩
    simp only [execOp, hv, h2]
    have key : ∀ (d : Nat) (q : Option Addr), q.isNone = c → (Op.equalIn (d + 1) T (.pointer q) (.pointer none)).run C.P w = .ok c w := fun d q hq => by
      cases q <;> (simp only [Option.isNone] at hq; subst hq; simp [Op.equalIn, run_underlying hp])
    have fin : ∀ (q : Option Addr), q.isNone = c → (do let v ← (do eqGuard .eql T xo yo (.pointer q) (.pointer none); binOp .eql T (.pointer q) (.pointer none) : Sem Value); pure (Next.value v) : Sem Next).run C.P w = .ok (.value (.bool c)) w := fun q hq =>
      run_binNext (by simp only [eqGuard, binOp, Op.equal, Op.maxDepth, Sem.run_bind]; simp [key 9999 q hq])
    rcases hd with ⟨hd, rfl⟩ | ⟨rfl, rfl⟩
    · cases h1 <;> first | (simp [DV.isPtr] at hd; done) | exact fin _ rfl
    · rw [h1.inv_v.1]; exact fin _ rfl) hrest

/-! #### the road of copyCheck: to unsafe.Pointer, through NoEscape, and back -/
theorem SOps.toUnsafe {src dst u : TypeId} {xo : Operand} {b e n : Nat} (hx : st.val xo = some (.vref b e n)) (hS : ptrB C.P src u) (hD : C.P.underlying dst = some .unsafePointer) (hn : 0 < n) (hrest : SOps C ops rest (st.put t (.vref b e n)) R)
    (hg : st.wants ops g = some true := by rfl) (ht : Nat.blt t st.n = true := by rfl) : SOps C ops (⟨some t, .convert src dst xo, ty, pos, aft, g⟩ :: rest) st R :=
  SOps.val rfl hg ht (fun base a w F hs => by
    have h1 := hs.val hx
    obtain ⟨hp, j, hj, hjs⟩ := hS
    generalize hv : a.eval xo = v at h1
    cases h1 with
    | vref h =>
      refine ⟨_, ?_, .vref h⟩
      rw [show execOp a.eval ⟨some t, .convert src dst xo, ty, pos, aft, g⟩ = (do pure (.value (← convert src dst (a.eval xo)))) from rfl, hv, Sem.run_bind, Lib.run_to_unsafe w ⟨b, 0, none⟩ hp hD hj hjs h hn]
      rfl) hrest
theorem SOps.fromUnsafe {src dst u : TypeId} {xo : Operand} {b e n : Nat} (hx : st.val xo = some (.vref b e n)) (hS : C.P.underlying src = some .unsafePointer) (hD : ptrB C.P dst u) (hl : liesAt C.P C.P.depth e (n / C.P.cellsOf e) 0 u 1 = true) (hrest : SOps C ops rest (st.put t (.vref b e n)) R)
    (hg : st.wants ops g = some true := by rfl) (ht : Nat.blt t st.n = true := by rfl) : SOps C ops (⟨some t, .convert src dst xo, ty, pos, aft, g⟩ :: rest) st R :=
  SOps.val rfl hg ht (fun base a w F hs => by
    have h1 := hs.val hx
    obtain ⟨hp, j, hj, hjs⟩ := hD
    generalize hv : a.eval xo = v at h1
    cases h1 with
    | vref h =>
      refine ⟨_, ?_, .vref h⟩
      rw [show execOp a.eval ⟨some t, .convert src dst xo, ty, pos, aft, g⟩ = (do pure (.value (← convert src dst (a.eval xo)))) from rfl, hv, Sem.run_bind, Lib.run_from_unsafe w ⟨b, 0, none⟩ hS hp hj h hl]
      rfl) hrest
def noEscB (P : Program) (f : FuncId) : Prop := ∃ fn, P.funcs[f]? = some fn ∧ (fn.name == "runtime.NumGoroutine") = false ∧ fn.body.isNone = true ∧ Extern.findNext fn = none ∧ Extern.find fn = some Extern.AbiNoEscape.same
theorem SOps.noEscape {f : FuncId} {xo : Operand} {ats : Array TypeId} {d : DV} (hf : noEscB C.P f) (hx : st.val xo = some d) (hrest : SOps C ops rest (st.put t d) R)
    (hg : st.wants ops g = some true := by rfl) (ht : Nat.blt t st.n = true := by rfl) : SOps C ops (⟨some t, .call { callee := .value (.func f), args := #[xo], argTypes := ats }, ty, pos, aft, g⟩ :: rest) st R :=
  SOps.val rfl hg ht (fun base a w F hs => by
    obtain ⟨fn, h1, h2, h3, h4, h5⟩ := hf
    refine ⟨a.eval xo, ?_, hs.val hx⟩
    have e1 : execOp a.eval ⟨some t, .call { callee := .value (.func f), args := #[xo], argTypes := ats }, ty, pos, aft, g⟩ = callFunc f #[a.eval xo] := by
      rw [show execOp a.eval ⟨some t, .call { callee := .value (.func f), args := #[xo], argTypes := ats }, ty, pos, aft, g⟩ = callFunc f (#[] ++ #[xo].map a.eval ++ #[]) from rfl]; simp
    rw [e1, run_callFunc_extern h1 h2 h3 h4 h5]
    simp only [Lib.run_noEscape]
    rfl) hrest

/-! #### unsafe.String over an own row of bytes -/
def dataD (gb : Nat) : List UInt8 → DV
  | [] => .v (.pointer none)
  | _ :: _ => .ref gb 0
theorem SOps.sliceData {ats : Array TypeId} {xo : Operand} {gb : Nat} {bs : List UInt8} (hx : st.val xo = some (accD 1 gb (bs.map encY))) (hrest : SOps C ops rest (st.put t (dataD gb bs)) R)
    (hg : st.wants ops g = some true := by rfl) (ht : Nat.blt t st.n = true := by rfl) : SOps C ops (⟨some t, .call { callee := .builtin .unsafeSliceData, args := #[xo], argTypes := ats }, ty, pos, aft, g⟩ :: rest) st R :=
  SOps.val rfl hg ht (fun base a w F hs => by
    have h1 := hs.val hx
    have hrun : ∀ v, a.eval xo = v → execOp a.eval ⟨some t, .call { callee := .builtin .unsafeSliceData, args := #[xo], argTypes := ats }, ty, pos, aft, g⟩ = (do pure (.value (← Builtin.unsafeSliceData_ ats ty #[v]))) := fun v hv => by
      subst hv; simp [execOp, resolve, invoke, builtin]
    cases bs with
    | nil =>
      refine ⟨_, ?_, .v trivial⟩
      rw [hrun _ h1.inv_v.1, Sem.run_bind, Lib.run_unsafeSliceData_nil]; rfl
    | cons b bs =>
      generalize hv : a.eval xo = v at h1
      simp only [List.map_cons, accD] at h1
      cases h1 with
      | @sl b' sz off len cap e n q1 q2 q3 q4 =>
        refine ⟨_, ?_, .ref _ _⟩
        rw [hrun _ hv, Sem.run_bind, Lib.run_unsafeSliceData_row (w := w) ats ty _ _ _ (by omega)]; simp) hrest
end

theorem freeze_other (w : World) (g n b : Nat) (h : b ≠ g) : (w.freeze ⟨g, 0, none⟩ n).heap[b]? = w.heap[b]? := by
  unfold World.freeze
  split
  · rfl
  · simp only [Array.getElem?_modify]; rw [if_neg (fun e => h e.symm)]
theorem shape?_freeze (w : World) (a : Addr) (n b : Nat) : (w.freeze a n).shape? b = w.shape? b := by
  unfold World.freeze
  split
  · rfl
  · unfold World.shape?
    by_cases h : a.block = b
    · subst h
      simp only [Array.getElem?_modify, if_true]
      cases hh : w.heap[a.block]? with
      | none => simp
      | some o => cases o <;> simp
    · simp only [Array.getElem?_modify]; rw [if_neg h]
theorem Step.freeze (w : World) (g n : Nat) : Step (· = g) w (w.freeze ⟨g, 0, none⟩ n) :=
  ⟨by unfold World.freeze; split <;> rfl, by unfold World.freeze; split <;> rfl, by unfold World.freeze; split <;> rfl, by unfold World.freeze; split <;> simp, fun b _ hb => freeze_other w g n b hb, fun b s h => by rw [shape?_freeze]; exact h⟩

section
variable {C : Ctx} {E : Env} {base : Base} {F : Nat → Prop} {st : St} {a : Act} {w : World} {ops : Array Oper} {rest : List Oper} {R : St → Prop}
  {t : Tmp} {ty : TypeId} {pos : String} {aft : Array Edge} {g : Option (Nat × Bool)}

/-- unsafe.String: the own row, if there is one, is let go. -/
theorem SOps.unsafeStr {pt it e gb : TypeId} {po no : Operand} {bs : List UInt8} (H1 H2 : DHeap) (hp : C.P.underlying pt = some (.pointer e)) (hc : C.P.cellsOf e = 1) (hx : st.val po = some (dataD gb bs))
    (hn : st.val no = some (.v (.int .i64 bs.length))) (hh : st.heap = H1 ++ (accH e 1 gb (bs.map encY) ++ H2)) (hrest : SOps C ops rest ⟨st.n, (t, .v (.string ⟨bs.toArray⟩)) :: st.slots, H1 ++ H2⟩ R)
    (hg : st.wants ops g = some true := by rfl) (ht : Nat.blt t st.n = true := by rfl) : SOps C ops (⟨some t, .call { callee := .builtin .unsafeString, args := #[po, no], argTypes := #[pt, it] }, ty, pos, aft, g⟩ :: rest) st R := by
  have hrun : ∀ (a : Act) v u, a.eval po = v → a.eval no = u → execOp a.eval ⟨some t, .call { callee := .builtin .unsafeString, args := #[po, no], argTypes := #[pt, it] }, ty, pos, aft, g⟩ = (do pure (.value (← Builtin.unsafeString_ #[pt, it] ty #[v, u]))) := fun a v u hv hu => by
    subst hv; subst hu; simp [execOp, resolve, invoke, builtin]
  cases bs with
  | nil =>
    have e1 : H1 ++ H2 = st.heap := by rw [hh]; rfl
    rw [e1] at hrest
    refine SOps.val rfl hg ht (fun base a w F hs => ⟨.string .empty, ?_, .v (by simp [scal, lenB])⟩) hrest
    rw [hrun a _ _ (hs.val hx).inv_v.1 (hs.val hn).inv_v.1, Sem.run_bind]
    have := Lib.run_unsafeString_none (P := C.P) w pt it ty none
    simp only [List.length_nil]
    rw [show ((0 : Nat) : Int) = 0 from rfl, this]; rfl
  | cons y bs =>
    refine SOps.op (R1 := (· = ⟨st.n, (t, .v (.string ⟨(y :: bs).toArray⟩)) :: st.slots, H1 ++ H2⟩)) hg ?_ (fun st' e => e ▸ hrest)
    intro base ok a w F hs K Q hK
    have h1 := hs.val hx
    have h2 := (hs.val hn).inv_v
    generalize hv : a.eval po = v at h1
    have hi : st.heap[H1.length]? = some (gb, .row e 1 ((y :: bs).map encY)) := by rw [hh]; simp [accH]
    obtain ⟨k1, k2, cs, c1, c2, c3, c4⟩ := hs.heap _ (List.mem_of_getElem? hi)
    simp only at c1
    cases h1 with
    | ref =>
      have hcell : ∀ (j : Nat) x, (y :: bs)[j]? = some x → w.cell? ((⟨gb, 0, none⟩ : Addr).add j) = some (.int .u8 x.toNat) := fun j x hj => by
        have hj' : ((y :: bs).map encY)[j]? = some (encY x) := by rw [List.getElem?_map, hj]; rfl
        obtain ⟨z, hz, _, hr⟩ := (c4 j _ hj').2 0 _ rfl
        have hz' := hr.inv_v.1
        rw [add_plain', cell_of_row w gb _ cs _ _ c1]
        simp only [Nat.mul_one, Nat.add_zero, Nat.zero_add] at hz ⊢
        rw [hz, hz']
      have hlen : (y :: bs).length ≤ cs.size := by simpa using c2
      have hmx : (y :: bs).length ≤ 9223372036854775807 := by
        have e0 : ((y :: bs).map encY).length = (y :: bs).length := by simp
        rw [e0] at c3; exact c3
      have hr := Lib.run_unsafeString_row (P := C.P) w pt it ty e hp hc gb cs.size (by simp [World.shape?, c1]) (y :: bs) (by simp) hlen hmx hcell
      unfold Oper.wp
      rw [hrun a _ _ hv h2.1, Sem.run_bind, hr]
      simp only [Result.andThen_ok, Sem.run_pure]
      rw [Oper.upon_value]
      refine hK _ _ _ rfl ⟨F, ?_⟩
      have hst := Step.freeze w gb (y :: bs).length
      have hw : SimF C.E base F ⟨st.n, st.slots, H1 ++ H2⟩ a (w.freeze ⟨gb, 0, none⟩ (y :: bs).length) := by
        have hF : ∀ c, F c → (w.freeze ⟨gb, 0, none⟩ (y :: bs).length).heap[c]? = w.heap[c]? := fun c hc => freeze_other w gb _ c (fun e => k2 (e ▸ hc))
        have hk := hs.keys
        rw [hh] at hk
        exact {
          keep := hs.keep.then hst (fun c hc e => by
            subst e
            rcases k1 with h | h
            · exact h
            · exact absurd hc (Nat.not_lt.2 h))
          base_lt := hs.base_lt
          sub := hs.sub
          lt := fun c hc => ⟨Nat.lt_of_lt_of_le (hs.lt c hc).1 hst.size, (hs.lt c hc).2⟩
          env := C.E.mono hF (fun _ x => x) hs.env
          size := hs.size
          slots := fun t d ht => ⟨(hs.slots t d ht).1, (hs.slots t d ht).2.mono hF hst.shape (fun _ x => x)⟩
          heap := fun p hp => by
            have hmem : p ∈ st.heap := by rw [hh]; simp only [List.mem_append] at hp ⊢; exact hp.elim .inl (fun h => .inr (.inr h))
            obtain ⟨h1, h2, h3⟩ := hs.heap p hmem
            refine ⟨h1, h2, h3.mono (freeze_other w gb _ _ (fun e => ?_)) hF hst.shape (fun _ x => x)⟩
            simp only [accH, List.map_cons, List.map_append, List.singleton_append] at hk
            rw [List.nodup_append] at hk
            obtain ⟨_, k5, k6⟩ := hk
            rw [List.nodup_cons] at k5
            rcases List.mem_append.1 hp with h | h
            · exact k6 _ (List.mem_map.2 ⟨p, h, rfl⟩) gb (List.mem_cons_self ..) e
            · exact k5.1 (List.mem_map.2 ⟨p, h, e⟩)
          keys := by
            simp only [accH, List.map_cons, List.map_append, List.singleton_append] at hk ⊢
            rw [List.nodup_append] at hk ⊢
            obtain ⟨k4, k5, k6⟩ := hk
            exact ⟨k4, (List.nodup_cons.1 k5).2, fun x hx y hy => k6 x hx y (List.mem_cons_of_mem _ hy)⟩
          defers := hs.defers }
      exact SimF.put (st := ⟨st.n, st.slots, H1 ++ H2⟩) hw (by simpa using ht) (.v (by
        show (y :: bs).toArray.size ≤ lenB
        rw [List.size_toArray]; exact hmx))
end

/-! ### regions of open order whose last operations act -/
def reqF (l : List Oper) : Nat → Nat → List Nat
  | 0, _ => []
  | f + 1, k => match l[k]? with
    | none => []
    | some o => (List.range k).filter (fun j => afterB o j) ++ (((List.range k).filter (fun j => afterB o j)).map (reqF l f)).flatten
theorem reqF_spec {l : List Oper} {L : Nat → Bool} (hc : ∀ (k : Nat) o j, l[k]? = some o → L k = true → afterB o j = true → L j = true) : ∀ (f k : Nat), L k = true → ∀ j ∈ reqF l f k, L j = true
  | 0, _, _, _, h => by simp [reqF] at h
  | f + 1, k, hk, j, h => by
    simp only [reqF] at h
    split at h
    · simp at h
    · rename_i o ho
      rcases List.mem_append.1 h with h | h
      · exact hc k o j ho hk (by simpa using (List.mem_filter.1 h).2)
      · obtain ⟨js, hjs, hj⟩ := List.mem_flatten.1 h
        obtain ⟨i, hi, rfl⟩ := List.mem_map.1 hjs
        exact reqF_spec hc f i (hc k o i ho hk (by simpa using (List.mem_filter.1 hi).2)) j hj
/-- From place m on, each operation waits for all that is listed before it. -/
def seqB (l : List Oper) (m f : Nat) : Bool := (List.range l.length).all (fun k => Nat.blt k m || (List.range k).all (fun j => (reqF l f k).any (fun x => Nat.beq x j)))
inductive SeqOk (C : Ctx) (ops : Array Oper) : (St → Prop) → List Oper → (St → Prop) → Prop
  | nil {R : St → Prop} : SeqOk C ops R [] R
  | cons {R R1 R2 : St → Prop} {o : Oper} {os : List Oper} (h : ∀ st, R st → SOps C ops [o] st R1) (k : SeqOk C ops R1 os R2) : SeqOk C ops R (o :: os) R2
theorem OpsOk.atDraw {C : Ctx} {l : List Oper} {n : Nat} {s : List (Nat × DV)} {H : DHeap} {D : List (Nat × DV)} {ts : List Nat} {srcs : List (List (Nat ⊕ Nat))} {nds : List (List (Nat × DV))} {l1 : List Oper}
    (hts : D.map (·.1) = ts) (hnodup : (D.map (·.1)).Nodup) (hsrc : ∀ i o, l1[i]? = some o → ∀ ss, srcs[i]? = some ss → ∀ x ∈ ss, srcB l1 ts i o x = true) (hnd : srcs.map (needOf D s) = nds) (hops : OpsOk C l.toArray n H l1 nds D)
    {L : Nat → Bool} {st' : St} {i : Nat} {o : Oper} (hi : l1[i]? = some o) (hLi : L i = false) (hle : (⟨n, pick2 L 0 D s, H⟩ : St).Le st') (haft : ∀ j, afterB o j = true → L j = true) (hbef : ∀ k o', l1[k]? = some o' → afterB o' i = true → L k = false) :
    SOps C l.toArray [o] st' (fun st2 => (⟨n, pick2 (fun k => if k = i then true else L k) 0 D s, H⟩ : St).Le st2) := by
  obtain ⟨nd, p, h1, h2, h3⟩ := hops.at i o hi
  refine SOps.weaken hle ?_
  have hneed : ∀ t d, getL nd t = some d → getL (pick2 L 0 D s) t = some d := by
    rw [← hnd] at h1
    obtain ⟨ss, hss, e⟩ := Option.map_eq_some_iff.1 (by simpa using h1)
    have hchk := hsrc i o hi ss hss
    subst e
    have key : ∀ (ss : List (Nat ⊕ Nat)), (∀ x ∈ ss, srcB l1 ts i o x = true) → ∀ t d, getL (needOf D s ss) t = some d → getL (pick2 L 0 D s) t = some d := by
      intro ss
      induction ss with
      | nil => intro _ t d h; simp [needOf, getL] at h
      | cons x ss ih =>
        intro hx t d h
        have ih' := ih (fun y hy => hx y (List.mem_cons_of_mem _ hy)) t d
        have hx0 := hx x (List.mem_cons_self ..)
        cases x with
        | inl j =>
          simp only [srcB, Bool.and_eq_true] at hx0
          simp only [needOf] at h
          split at h
          · rename_i q hq
            rw [getL_cons] at h
            split at h
            · rename_i e
              subst e
              obtain rfl := Option.some.inj h
              exact pick2_some D 0 j s q hnodup hq (by simpa using haft j hx0.1)
            · exact ih' h
          · exact ih' h
        | inr u =>
          simp only [srcB, List.all_eq_true] at hx0
          simp only [needOf] at h
          split at h
          · rename_i q hq
            rw [getL_cons] at h
            split at h
            · rename_i e
              simp only at e
              subst e
              obtain rfl := Option.some.inj h
              rw [pick2_none D 0 s (fun k p hk hp => ?_)]
              · exact hq
              · have h4 := hx0 (p.1, k) (by rw [List.mem_iff_getElem?]; exact ⟨k, by rw [← hts]; simp [List.getElem?_zipIdx, hk]⟩)
                simp only [hp, Nat.beq_refl, Bool.not_true, Bool.false_or, Bool.or_eq_true] at h4
                rw [Nat.zero_add]
                rcases h4 with h4 | h4
                · rw [Nat.eq_of_beq_eq_true h4]; exact hLi
                · unfold nthB at h4
                  split at h4
                  · rename_i o' ho'
                    exact hbef k o' ho' h4
                  · cases h4
            · exact ih' h
          · exact ih' h
    exact key ss hchk
  have hnl : ∀ t, getL (nd ++ pick2 L 0 D s) t = getL (pick2 L 0 D s) t := by
    intro t
    have : ∀ (nd : List (Nat × DV)), (∀ d, getL nd t = some d → getL (pick2 L 0 D s) t = some d) → getL (nd ++ pick2 L 0 D s) t = getL (pick2 L 0 D s) t := by
      intro nd
      induction nd with
      | nil => intro _; rfl
      | cons q nd ih =>
        intro h
        rw [List.cons_append, getL_cons]
        split
        · rename_i e
          exact (h q.2 (by rw [getL_cons, if_pos e])).symm
        · rename_i e
          exact ih (fun d hd => h d (by rw [getL_cons, if_neg e]; exact hd))
    exact this nd (hneed t)
  refine SOps.weaken (st' := ⟨n, nd ++ pick2 L 0 D s, H⟩) ⟨rfl, fun t d ht => .inl ((hnl t).symm.trans ht), H, .refl _, .refl _⟩ ((h3 (pick2 L 0 D s)).mono ?_)
  rintro st2 rfl
  refine ⟨rfl, fun t d ht => .inl ?_, H, .refl _, .refl _⟩
  show getL (p :: (nd ++ pick2 L 0 D s)) t = some d
  rw [getL_cons, hnl]
  have ht : getL (pick2 (fun k => if k = i then true else L k) 0 D s) t = some d := ht
  by_cases hpt : p.1 = t
  · rw [if_pos hpt]
    subst hpt
    rw [pick2_some D 0 i s p hnodup h2 (by simp)] at ht
    exact ht
  · rw [if_neg hpt, ← ht]
    have : ∀ (D : List (Nat × DV)) (b : Nat), (∀ k q, D[k]? = some q → b + k = i → q.1 ≠ t) → getL (pick2 L b D s) t = getL (pick2 (fun k => if k = i then true else L k) b D s) t := by
      intro D
      induction D with
      | nil => intro b _; rfl
      | cons q D ih =>
        intro b h
        have ih' := ih (b + 1) (fun k q' hk hb => h (k + 1) q' (by simpa using hk) (by omega))
        simp only [pick2]
        by_cases hbi : b = i
        · have hq := h 0 q rfl (by omega)
          simp only [if_pos hbi, if_true]
          rw [getL_cons, if_neg hq]
          split
          · rw [getL_cons, if_neg hq]; exact ih'
          · exact ih'
        · simp only [if_neg hbi]
          split
          · rw [getL_cons, getL_cons]
            split
            · rfl
            · exact ih'
          · exact ih'
    exact this D 0 (fun k q hk hb => by
      have : k = i := by omega
      subst this
      rw [h2] at hk
      obtain rfl := Option.some.inj hk
      exact hpt)
theorem pick2_all {L : Nat → Bool} {s : List (Nat × DV)} : ∀ (D : List (Nat × DV)) (b : Nat), (∀ k, b ≤ k → k < b + D.length → L k = true) → pick2 L b D s = D ++ s
  | [], _, _ => rfl
  | q :: D, b, h => by
    simp only [pick2, h b (Nat.le_refl _) (by simp), if_true, pick2_all D (b + 1) (fun k h1 h2 => h k (by omega) (by simp only [List.length_cons]; omega)), List.cons_append]
theorem SCode.drawSeq {C : Ctx} {id : Nat} (l1 l2 : List Oper) {n : Nat} {s : List (Nat × DV)} {H : DHeap} {Q : Exit → St → Prop} {Rend : St → Prop} (f : Nat) (hm : C.P.follows .mixedOrders = true) (D : List (Nat × DV)) (ts : List Nat) (srcs : List (List (Nat ⊕ Nat))) (nds : List (List (Nat × DV)))
    (hts : D.map (·.1) = ts) (hB : drawB l1 ts srcs = true) (hd : distB ts = true) (hord : ordB (l1 ++ l2) = true) (hseq : seqB (l1 ++ l2) l1.length f = true) (hnd : srcs.map (needOf D s) = nds) (hops : OpsOk C (l1 ++ l2).toArray n H l1 nds D)
    (hl2 : SeqOk C (l1 ++ l2).toArray (fun st => (⟨n, D ++ s, H⟩ : St).Le st) l2 Rend) (hQ : ∀ st, Rend st → ∃ s2 : St, s2.Le st ∧ Q .normal s2) : SCode C (.region id (l1 ++ l2).toArray true) ⟨n, s, H⟩ Q := by
  simp only [drawB, Bool.and_eq_true, List.all_eq_true] at hB
  obtain ⟨⟨_, hlen⟩, hsrc⟩ := hB
  have hlen := Nat.eq_of_beq_eq_true hlen
  have hnodup : (D.map (·.1)).Nodup := hts ▸ distB_spec ts hd
  have hDl : D.length = l1.length := by rw [hlen, ← hts]; simp
  have hsrc' : ∀ i o, l1[i]? = some o → ∀ ss, srcs[i]? = some ss → ∀ x ∈ ss, srcB l1 ts i o x = true := fun i o hi ss hss => by
    have hchk := hsrc (o, i) (by rw [List.mem_iff_getElem?]; exact ⟨i, by simp [List.getElem?_zipIdx, hi]⟩)
    simp only [hss, List.all_eq_true] at hchk
    exact hchk
  have hwait : ∀ (L : Nat → Bool), (∀ (k : Nat) o j, (l1 ++ l2)[k]? = some o → L k = true → afterB o j = true → L j = true) → ∀ k, l1.length ≤ k → k < (l1 ++ l2).length → (∀ o, (l1 ++ l2)[k]? = some o → ∀ j, afterB o j = true → L j = true) → ∀ j, j < k → L j = true := by
    intro L hcl k hk1 hk2 ho j hj
    have h1 := List.all_eq_true.1 hseq k (List.mem_range.2 hk2)
    simp only [Bool.or_eq_true] at h1
    rcases h1 with h1 | h1
    · exact absurd (by simpa using h1) (Nat.not_lt.2 hk1)
    · have h2 := List.all_eq_true.1 h1 j (List.mem_range.2 hj)
      obtain ⟨x, hx, hxj⟩ := List.any_eq_true.1 h2
      have := Nat.eq_of_beq_eq_true hxj
      subst this
      cases f with
      | zero => simp [reqF] at hx
      | succ f =>
        simp only [reqF, List.getElem?_eq_getElem hk2] at hx
        have ho' := ho _ (List.getElem?_eq_getElem hk2)
        rcases List.mem_append.1 hx with hx | hx
        · exact ho' x (by simpa using (List.mem_filter.1 hx).2)
        · obtain ⟨js, hjs, hjx⟩ := List.mem_flatten.1 hx
          obtain ⟨i, hi, rfl⟩ := List.mem_map.1 hjs
          exact reqF_spec hcl f i (ho' i (by simpa using (List.mem_filter.1 hi).2)) x hjx
  refine SCode.drawAny hm hord (fun L st' => ((∀ k, l1.length ≤ k → L k = false) ∧ (⟨n, pick2 L 0 D s, H⟩ : St).Le st') ∨ ∃ (j : Nat) (R : St → Prop), l1.length ≤ j ∧ (∀ k, k < j → L k = true) ∧ (∀ k, j ≤ k → L k = false) ∧ SeqOk C (l1 ++ l2).toArray R (l2.drop (j - l1.length)) Rend ∧ R st') ?_ ?_ ?_
  · refine .inl ⟨fun _ _ => rfl, ?_⟩
    have : ∀ (D : List (Nat × DV)) i, pick2 (fun _ => false) i D s = s := fun D => by
      induction D with
      | nil => intro i; rfl
      | cons p D ih => intro i; simp [pick2, ih]
    rw [this D 0]
    exact ⟨rfl, fun t d h => .inl h, H, .refl _, .refl _⟩
  · intro L st' i o hi hLi hinv haft hbef hcl
    have hil := (List.getElem?_eq_some_iff.1 hi).1
    by_cases him : i < l1.length
    · have hi1 : l1[i]? = some o := by rw [List.getElem?_append_left him] at hi; exact hi
      rcases hinv with ⟨h1, h2⟩ | ⟨j, R, hj, h1, _⟩
      · refine (OpsOk.atDraw hts hnodup hsrc' hnd hops hi1 hLi h2 haft (fun k o' hk hka => hbef k o' (by rw [List.getElem?_append_left (List.getElem?_eq_some_iff.1 hk).1]; exact hk) hka)).mono (fun st2 h3 => .inl ⟨fun k hk => ?_, h3⟩)
        show (if k = i then true else L k) = false
        rw [if_neg (by omega)]; exact h1 k hk
      · rw [h1 i (by omega)] at hLi; cases hLi
    · have him : l1.length ≤ i := Nat.not_lt.1 him
      have hall := hwait L hcl i him hil (fun o' ho' => by rw [hi] at ho'; obtain rfl := Option.some.inj ho'; exact haft)
      have hR : ∃ R : St → Prop, SeqOk C (l1 ++ l2).toArray R (l2.drop (i - l1.length)) Rend ∧ R st' ∧ ∀ k, i ≤ k → L k = false := by
        rcases hinv with ⟨h1, h2⟩ | ⟨j, R, hj, h1, h2, h3, h4⟩
        · have hi0 : i = l1.length := by
            rcases Nat.lt_or_ge l1.length i with h | h
            · have := h1 _ (Nat.le_refl _); rw [hall _ h] at this; cases this
            · omega
          subst hi0
          refine ⟨_, by rw [Nat.sub_self]; exact hl2, ?_, h1⟩
          rw [pick2_all D 0 (fun k _ hk => hall k (by omega))] at h2
          exact h2
        · have hij : i = j := by
            rcases Nat.lt_trichotomy i j with h | h | h
            · rw [h1 i h] at hLi; cases hLi
            · exact h
            · have := h2 j (Nat.le_refl _); rw [hall j h] at this; cases this
          subst hij
          exact ⟨R, h3, h4, h2⟩
      obtain ⟨R, h3, h4, h5⟩ := hR
      have hi2 : l2[i - l1.length]? = some o := by rw [List.getElem?_append_right him] at hi; exact hi
      rw [List.drop_eq_getElem_cons (List.getElem?_eq_some_iff.1 hi2).1] at h3
      have ho : l2[i - l1.length]'(List.getElem?_eq_some_iff.1 hi2).1 = o := (List.getElem?_eq_some_iff.1 hi2).2
      rw [ho] at h3
      cases h3 with
      | @cons _ R1 _ _ _ h k =>
        refine (h st' h4).mono (fun st2 h6 => .inr ⟨i + 1, R1, by omega, fun k hk => ?_, fun k hk => ?_, by rw [show i + 1 - l1.length = i - l1.length + 1 from by omega]; exact k, h6⟩)
        · show (if k = i then true else L k) = true
          by_cases hki : k = i
          · rw [if_pos hki]
          · rw [if_neg hki]; exact hall k (by omega)
        · show (if k = i then true else L k) = false
          rw [if_neg (by omega)]; exact h5 k (by omega)
  · intro L st' hall hinv
    rcases hinv with ⟨h1, h2⟩ | ⟨j, R, hj, h1, h2, h3, h4⟩
    · cases l2 with
      | nil =>
        cases hl2
        rw [pick2_all D 0 (fun k _ hk => hall k (by simp; omega))] at h2
        exact hQ _ h2
      | cons o os =>
        have := h1 l1.length (Nat.le_refl _)
        rw [hall _ (by simp)] at this; cases this
    · have hj2 : (l1 ++ l2).length ≤ j := by
        rcases Nat.lt_or_ge j (l1 ++ l2).length with h | h
        · have := h2 j (Nat.le_refl _); rw [hall j h] at this; cases this
        · exact h
      rw [List.length_append] at hj2
      rw [List.drop_eq_nil_of_le (by omega)] at h3
      cases h3
      exact hQ _ h4
theorem SCode.drawSeqAt {C : Ctx} {id : Nat} {l : List Oper} (m : Nat) {n : Nat} {s : List (Nat × DV)} {H : DHeap} {Q : Exit → St → Prop} (Rend : St → Prop) (f : Nat) (hm : C.P.follows .mixedOrders = true) (D : List (Nat × DV)) (ts : List Nat) (srcs : List (List (Nat ⊕ Nat))) (nds : List (List (Nat × DV)))
    (hts : D.map (·.1) = ts) (hB : drawB (l.take m) ts srcs = true) (hd : distB ts = true) (hord : ordB l = true) (hseq : seqB l m f = true) (hml : (l.take m).length = m) (hnd : srcs.map (needOf D s) = nds) (hops : OpsOk C l.toArray n H (l.take m) nds D)
    (hl2 : SeqOk C l.toArray (fun st => (⟨n, D ++ s, H⟩ : St).Le st) (l.drop m) Rend) (hQ : ∀ st, Rend st → ∃ s2 : St, s2.Le st ∧ Q .normal s2) : SCode C (.region id l.toArray true) ⟨n, s, H⟩ Q := by
  have e := List.take_append_drop m l
  have := SCode.drawSeq (C := C) (id := id) (l.take m) (l.drop m) (n := n) (s := s) (H := H) (Q := Q) (Rend := Rend) f hm D ts srcs nds hts hB hd (by rw [e]; exact hord) (by rw [e, hml]; exact hseq) hnd (by rw [e]; exact hops) (by rw [e]; exact hl2) hQ
  rwa [e] at this
/-- A call that is handed the last own blocks. -/
theorem SOps.callR {C : Ctx} {st : St} {ops : Array Oper} {rest : List Oper} {R : St → Prop} {t : Tmp} {ty : TypeId} {pos : String} {aft : Array Edge} {g : Option (Nat × Bool)} {f : FuncId} {xs : Array Operand} {ats : Array TypeId} {ds : List DV} (H G : DHeap) {Rr : DV → DHeap → Prop} (hf : GCall C.P C.E f ds H Rr) (hxs : st.vals xs.toList = some ds)
    (hH : st.heap = G ++ H) (hrest : ∀ d H', Rr d H' → SOps C ops rest ⟨st.n, (t, d) :: st.slots, G ++ H'⟩ R)
    (hg : st.wants ops g = some true := by rfl) (ht : Nat.blt t st.n = true := by rfl) :
    SOps C ops (⟨some t, .call { callee := .value (.func f), args := xs, argTypes := ats }, ty, pos, aft, g⟩ :: rest) st R := by
  have hv : ∀ (l : List Operand) (ds : List DV), st.vals l = some ds → (⟨st.n, st.slots, H ++ G⟩ : St).vals l = some ds := fun l => by
    induction l with
    | nil => exact fun ds h => h
    | cons x l ih =>
      intro ds h
      simp only [St.vals] at h ⊢
      split at h
      · rename_i d ds' h1 h2
        have e1 : (⟨st.n, st.slots, H ++ G⟩ : St).val x = some d := by cases x <;> exact h1
        rw [e1, ih ds' h2]; exact h
      · cases h
  have hgw : ∀ g, st.wants ops g = some true → (⟨st.n, st.slots, H ++ G⟩ : St).wants ops g = some true := fun g h => h
  refine SOps.weaken (st' := ⟨st.n, st.slots, H ++ G⟩) ⟨rfl, fun t d h => .inl h, G ++ H, List.perm_append_comm, by rw [hH]; exact List.Sublist.refl _⟩ ?_
  refine SOps.call (H := H) (G := G) hf (hv _ _ hxs) rfl (fun d H' h => ?_) (hgw _ hg) ht
  exact SOps.weaken (st' := ⟨st.n, (t, d) :: st.slots, G ++ H'⟩) ⟨rfl, fun t d h => .inl h, H' ++ G, List.perm_append_comm, List.Sublist.refl _⟩ (hrest d H' h)
/-! #### maps, told by what is found in them -/
end Go.GH
namespace Go.GH
open Go

def encBy (r : Int) : List UInt8 := (Utf8.encode r).data.toList
theorem valid_cases {r : Int} (h : Utf8.valid r = true) : ∃ c : Nat, r = (c : Int) ∧ (c < 55296 ∨ (57344 ≤ c ∧ c ≤ 1114111)) := by
  simp only [Utf8.valid, Bool.or_eq_true, Bool.and_eq_true, decide_eq_true_eq] at h
  exact ⟨r.toNat, by omega, by omega⟩
theorem enc_1 {c : Nat} (hv : Utf8.valid (c : Int) = true) (h : c < 128) : Utf8.encode (c : Int) = ⟨#[UInt8.ofNat c]⟩ := by
  unfold Utf8.encode
  rw [if_pos hv]
  exact if_pos h
theorem enc_2 {c : Nat} (hv : Utf8.valid (c : Int) = true) (h0 : 128 ≤ c) (h : c < 2048) : Utf8.encode (c : Int) = ⟨#[UInt8.ofNat (192 + c / 64), UInt8.ofNat (128 + c % 64)]⟩ := by
  unfold Utf8.encode
  rw [if_pos hv]
  exact (if_neg (show ¬ c < 128 by omega)).trans (if_pos h)
theorem enc_3 {c : Nat} (hv : Utf8.valid (c : Int) = true) (h0 : 2048 ≤ c) (h : c < 65536) : Utf8.encode (c : Int) = ⟨#[UInt8.ofNat (224 + c / 4096), UInt8.ofNat (128 + c / 64 % 64), UInt8.ofNat (128 + c % 64)]⟩ := by
  unfold Utf8.encode
  rw [if_pos hv]
  exact (if_neg (show ¬ c < 128 by omega)).trans ((if_neg (show ¬ c < 2048 by omega)).trans (if_pos h))
theorem enc_4 {c : Nat} (hv : Utf8.valid (c : Int) = true) (h0 : 65536 ≤ c) : Utf8.encode (c : Int) = ⟨#[UInt8.ofNat (240 + c / 262144), UInt8.ofNat (128 + c / 4096 % 64), UInt8.ofNat (128 + c / 64 % 64), UInt8.ofNat (128 + c % 64)]⟩ := by
  unfold Utf8.encode
  rw [if_pos hv]
  exact (if_neg (show ¬ c < 128 by omega)).trans ((if_neg (show ¬ c < 2048 by omega)).trans (if_neg (show ¬ c < 65536 by omega)))
end Go.GH
namespace Go.GH
open Go Go.Lib

/-! #### a word is the bytes of its runes -/
theorem encBy_lib (c : Nat) (hv : Utf8.valid (c : Int) = true) : encBy (c : Int) = encodeRune (c : Int) := by
  obtain ⟨c', h1, hc⟩ := valid_cases hv
  have hcc : c' = c := by omega
  subst hcc
  have u : ∀ n : Nat, n < 256 → UInt8.ofNat n = (n : Int).toNat.toUInt8 := fun n _ => rfl
  unfold encodeRune
  by_cases h1 : c' < 128
  · rw [encBy, enc_1 hv h1, encodeRuneZ_one (by omega) (by omega)]; rfl
  · by_cases h2 : c' < 2048
    · rw [encBy, enc_2 hv (by omega) h2, encodeRuneZ_two (by omega) (by omega)]
      show [UInt8.ofNat (192 + c' / 64), UInt8.ofNat (128 + c' % 64)] = [(192 + (c' : Int) / 64).toNat.toUInt8, (128 + (c' : Int) % 64).toNat.toUInt8]
      rw [show (192 + (c' : Int) / 64).toNat = 192 + c' / 64 from by omega, show (128 + (c' : Int) % 64).toNat = 128 + c' % 64 from by omega]
    · by_cases h3 : c' < 65536
      · rw [encBy, enc_3 hv (by omega) h3, encodeRuneZ_three (by omega)]
        show [UInt8.ofNat (224 + c' / 4096), UInt8.ofNat (128 + c' / 64 % 64), UInt8.ofNat (128 + c' % 64)] = [(224 + (c' : Int) / 4096).toNat.toUInt8, (128 + (c' : Int) / 64 % 64).toNat.toUInt8, (128 + (c' : Int) % 64).toNat.toUInt8]
        rw [show (224 + (c' : Int) / 4096).toNat = 224 + c' / 4096 from by omega, show (128 + (c' : Int) / 64 % 64).toNat = 128 + c' / 64 % 64 from by omega, show (128 + (c' : Int) % 64).toNat = 128 + c' % 64 from by omega]
      · rw [encBy, enc_4 hv (by omega), encodeRuneZ_four (by omega) (by omega)]
        show [UInt8.ofNat (240 + c' / 262144), UInt8.ofNat (128 + c' / 4096 % 64), UInt8.ofNat (128 + c' / 64 % 64), UInt8.ofNat (128 + c' % 64)] = [(240 + (c' : Int) / 262144).toNat.toUInt8, (128 + (c' : Int) / 4096 % 64).toNat.toUInt8, (128 + (c' : Int) / 64 % 64).toNat.toUInt8, (128 + (c' : Int) % 64).toNat.toUInt8]
        rw [show (240 + (c' : Int) / 262144).toNat = 240 + c' / 262144 from by omega, show (128 + (c' : Int) / 4096 % 64).toNat = 128 + c' / 4096 % 64 from by omega, show (128 + (c' : Int) / 64 % 64).toNat = 128 + c' / 64 % 64 from by omega, show (128 + (c' : Int) % 64).toNat = 128 + c' % 64 from by omega]
theorem data_app2 (x y : ByteArray) : (x ++ y).data.toList = x.data.toList ++ y.data.toList := by simp
theorem encs_cons_data (r : Int) (rs : List Int) : (encs (r :: rs)).data.toList = encBy r ++ (encs rs).data.toList := by
  rw [encs, data_app2, encBy]
theorem step_bytes (s : ByteArray) (p : Nat) (hp : p < s.size) (h : stepOK s (p, ((Utf8.decode s p).1 : Int)) = true) : encBy ((Utf8.decode s p).1 : Int) = (s.data.toList.drop p).take (Utf8.decode s p).2 := by
  have hd := decodeL_drop s p
  have hlen : (s.data.toList.drop p).length = s.size - p := by simp
  have hne : s.data.toList.drop p ≠ [] := by
    intro h; rw [h] at hlen; simp at hlen; omega
  rw [step_valid s p hp] at h
  have h' : ¬ ((Utf8.decode s p).1 = 65533 ∧ (Utf8.decode s p).2 = 1) := fun hb => by rw [decide_eq_true hb] at h; cases h
  have := encode_decode _ hne (by rw [hd]; exact h')
  rw [hd] at this
  rw [← this, encBy_lib _ (decode_valid s p)]
theorem encs_at (s : ByteArray) : ∀ (f p : Nat), s.size - p ≤ f → (steps s p).all (stepOK s) = true → (encs (runesAt s p)).data.toList = s.data.toList.drop p
  | 0, p, h, _ => by rw [runesAt_ge (by omega), List.drop_eq_nil_of_le (by simp; omega)]; rfl
  | f + 1, p, h, hv => by
    by_cases hp : p < s.size
    · have hw := decode_w s p
      rw [steps_lt hp, List.all_cons, Bool.and_eq_true] at hv
      have ih := encs_at s f (p + (Utf8.decode s p).2) (by omega) hv.2
      rw [runesAt_lt hp, encs_cons_data, ih, step_bytes s p hp hv.1, ← List.drop_drop, List.take_append_drop]
    · rw [runesAt_ge (by omega), List.drop_eq_nil_of_le (by simp; omega)]; rfl
theorem encs_runes {s : ByteArray} (h : utf8R s = true) : encs (runes s) = s := by
  have := encs_at s _ 0 (Nat.le_refl _) h
  rw [runesAt_zero, List.drop_zero] at this
  apply ByteArray.ext
  exact Array.toList_inj.1 this
theorem encs_append : ∀ x y : List Int, encs (x ++ y) = encs x ++ encs y
  | [], y => by
    apply ByteArray.ext
    simp [encs]
  | r :: x, y => by rw [List.cons_append, encs, encs, encs_append x y, ByteArray.append_assoc]
end Go.GH
namespace Go.GH
open Go Go.RowKit
section
variable {C : Ctx} {E : Env} {base : Base} {F : Nat → Prop} {st : St} {a : Act} {w : World} {ops : Array Oper} {rest : List Oper} {R : St → Prop}
  {t : Tmp} {ty : TypeId} {pos : String} {aft : Array Edge} {g : Option (Nat × Bool)}

theorem SOps.reSlot {l : List Oper} {d d' : DV} (hd : st.get t = some d) (he : d = d') (h : SOps C ops l ⟨st.n, (t, d') :: st.slots, st.heap⟩ R) : SOps C ops l st R := by
  subst he
  have key : ∀ u e, getL ((t, d) :: st.slots) u = some e → getL st.slots u = some e := fun u e hu => by
    rw [getL_cons] at hu
    split at hu
    · rename_i h1
      simp only at h1
      subst h1
      obtain rfl := Option.some.inj hu
      exact hd
    · exact hu
  exact SOps.weaken (st' := ⟨st.n, (t, d) :: st.slots, st.heap⟩) ⟨rfl, fun u e hu => .inl (key u e hu), st.heap, .refl _, List.Sublist.refl _⟩ h
end
end Go.GH
namespace Go.GH
open Go Go.RowKit
abbrev ORes := Option (Nat × DV)
def pickO (L : Nat → Bool) : Nat → List ORes → List (Nat × DV) → List (Nat × DV)
  | _, [], s => s
  | i, none :: D, s => pickO L (i + 1) D s
  | i, some p :: D, s => if L i then p :: pickO L (i + 1) D s else pickO L (i + 1) D s
def needO (D : List ORes) (s : List (Nat × DV)) : List (Nat ⊕ Nat) → List (Nat × DV)
  | [] => []
  | .inl j :: r => match D[j]? with
    | some (some p) => p :: needO D s r
    | _ => needO D s r
  | .inr t :: r => match getL s t with
    | some d => (t, d) :: needO D s r
    | none => needO D s r
def srcO (l : List Oper) (ts : List (Option Nat)) (i : Nat) (o : Oper) : Nat ⊕ Nat → Bool
  | .inl j => afterB o j
  | .inr t => (ts.zipIdx).all (fun p => !(p.1 == some t) || Nat.beq p.2 i || nthB l p.2 (fun o' => afterB o' i))
def distO : List (Option Nat) → Bool
  | [] => true
  | none :: ts => distO ts
  | some t :: ts => ts.all (fun u => !(u == some t)) && distO ts
def resO (D : List ORes) : List (Nat × DV) := D.filterMap id
theorem pickO_none {L : Nat → Bool} {t : Nat} : ∀ (D : List ORes) (i : Nat) (s : List (Nat × DV)), (∀ k p, D[k]? = some (some p) → p.1 = t → L (i + k) = false) → getL (pickO L i D s) t = getL s t
  | [], _, _, _ => rfl
  | q :: D, i, s, h => by
    have ih := pickO_none D (i + 1) s (fun k q hk hq => by have := h (k + 1) q (by simpa using hk) hq; rwa [show i + 1 + k = i + (k + 1) from by omega])
    cases q with
    | none => exact ih
    | some p =>
      simp only [pickO]
      split
      · rename_i hl
        rw [getL_cons, if_neg (fun e => by have := h 0 p rfl e; rw [Nat.add_zero, hl] at this; cases this)]
        exact ih
      · exact ih
theorem distO_none {t : Nat} : ∀ {D : List ORes}, ((D.map (fun x => x.map (·.1))).all (fun u => !(u == some t))) = true → ∀ (k : Nat) p, D[k]? = some (some p) → p.1 ≠ t := by
  intro D h k p hk e
  have := List.all_eq_true.1 h (some p.1) (List.mem_map.2 ⟨some p, List.mem_of_getElem? hk, rfl⟩)
  simp [e] at this
theorem pickO_some {L : Nat → Bool} : ∀ (D : List ORes) (i j : Nat) (s : List (Nat × DV)) (p : Nat × DV), distO (D.map (fun x => x.map (·.1))) = true → D[j]? = some (some p) → L (i + j) = true → getL (pickO L i D s) p.1 = some p.2
  | [], _, _, _, _, _, h, _ => by simp at h
  | q :: D, i, 0, s, p, _, h, hl => by
    simp at h
    subst h
    simp only [pickO]
    rw [Nat.add_zero] at hl
    rw [if_pos hl, getL_cons, if_pos rfl]
  | q :: D, i, j + 1, s, p, hd, h, hl => by
    have hj : D[j]? = some (some p) := by simpa using h
    have hl' : L (i + 1 + j) = true := by rwa [show i + 1 + j = i + (j + 1) from by omega]
    cases q with
    | none => exact pickO_some D (i + 1) j s p (by simpa [distO] using hd) hj hl'
    | some q =>
      simp only [List.map_cons, Option.map_some, distO, Bool.and_eq_true] at hd
      have ih := pickO_some D (i + 1) j s p hd.2 hj hl'
      simp only [pickO]
      split
      · rw [getL_cons, if_neg (fun e => distO_none hd.1 j p hj e.symm)]
        exact ih
      · exact ih
theorem pickO_all {L : Nat → Bool} {s : List (Nat × DV)} : ∀ (D : List ORes) (b : Nat), (∀ k, b ≤ k → k < b + D.length → L k = true) → pickO L b D s = resO D ++ s
  | [], _, _ => rfl
  | q :: D, b, h => by
    have ih := pickO_all (s := s) D (b + 1) (fun k h1 h2 => h k (by omega) (by simp only [List.length_cons]; omega))
    cases q with
    | none => simpa [pickO, resO] using ih
    | some q => simp only [pickO, h b (Nat.le_refl _) (by simp), if_true, ih, resO, List.filterMap_cons, id, List.cons_append]
theorem pickO_false {s : List (Nat × DV)} : ∀ (D : List ORes) (i : Nat), pickO (fun _ => false) i D s = s
  | [], _ => rfl
  | none :: D, i => pickO_false D (i + 1)
  | some _ :: D, i => by simp [pickO, pickO_false D (i + 1)]
theorem pickO_set {L : Nat → Bool} {s : List (Nat × DV)} {t : Nat} {i : Nat} : ∀ (D D' : List ORes) (b : Nat), D.length = D'.length → (∀ k, b + k ≠ i → L (b + k) = true → D'[k]? = D[k]?) → (∀ k p, D'[k]? = some (some p) → b + k = i → p.1 ≠ t) → (∀ (k : Nat) p, D[k]? = some (some p) → b + k = i → p.1 ≠ t) →
    getL (pickO L b D s) t = getL (pickO (fun k => if k = i then true else L k) b D' s) t
  | [], [], _, _, _, _, _ => rfl
  | [], _ :: _, _, h, _, _, _ => by simp at h
  | _ :: _, [], _, h, _, _, _ => by simp at h
  | q :: D, q' :: D', b, hl, h1, h2, h3 => by
    have ih := pickO_set (L := L) (s := s) (t := t) (i := i) D D' (b + 1) (by simpa using hl) (fun k hk hL => by
      have := h1 (k + 1) (by omega) (by rwa [show b + (k + 1) = b + 1 + k from by omega])
      simpa using this) (fun k p hk hb => h2 (k + 1) p (by simpa using hk) (by omega)) (fun k p hk hb => h3 (k + 1) p (by simpa using hk) (by omega))
    by_cases hbi : b = i
    · have e1 : getL (pickO L b (q :: D) s) t = getL (pickO L (b + 1) D s) t := by
        cases q with
        | none => rfl
        | some p =>
          simp only [pickO]
          split
          · rw [getL_cons, if_neg (h3 0 p rfl (by omega))]
          · rfl
      have e2 : getL (pickO (fun k => if k = i then true else L k) b (q' :: D') s) t = getL (pickO (fun k => if k = i then true else L k) (b + 1) D' s) t := by
        cases q' with
        | none => rfl
        | some p =>
          simp only [pickO, if_pos hbi, if_true]
          rw [getL_cons, if_neg (h2 0 p rfl (by omega))]
      rw [e1, e2, ih]
    · by_cases hL : L b = true
      · have e : q' = q := by simpa using h1 0 (by omega) (by simpa using hL)
        subst e
        cases q' with
        | none => exact ih
        | some p =>
          simp only [pickO, if_neg hbi, hL, if_true]
          rw [getL_cons, getL_cons, ih]
      · have hL' : L b = false := by simpa using hL
        have e1 : pickO L b (q :: D) s = pickO L (b + 1) D s := by cases q <;> simp [pickO, hL']
        have e2 : pickO (fun k => if k = i then true else L k) b (q' :: D') s = pickO (fun k => if k = i then true else L k) (b + 1) D' s := by cases q' <;> simp [pickO, hbi, hL']
        rw [e1, e2, ih]

/-- How many of the chain are done. -/
def cntL (L : Nat → Bool) (T : List Nat) : Nat := (T.filter L).length
theorem cnt_prefix {L : Nat → Bool} : ∀ (T : List Nat), (∀ (j : Nat) x y, T[j]? = some x → T[j + 1]? = some y → L y = true → L x = true) → ∀ (j x : Nat), T[j]? = some x → (L x = true ↔ j < cntL L T)
  | [], _, _, _, h => by simp at h
  | a :: T, hc, j, x, hj => by
    have ih := cnt_prefix T (fun j x y h1 h2 h3 => hc (j + 1) x y (by simpa using h1) (by simpa using h2) h3)
    by_cases ha : L a = true
    · have e : cntL L (a :: T) = cntL L T + 1 := by simp [cntL, ha]
      cases j with
      | zero => simp at hj; subst hj; rw [e]; exact ⟨fun _ => by omega, fun _ => ha⟩
      | succ j => rw [ih j x (by simpa using hj), e]; omega
    · have hall : ∀ (j : Nat) x, (a :: T)[j]? = some x → ¬ L x = true := by
        intro j
        induction j with
        | zero => intro x hx; simp at hx; subst hx; exact ha
        | succ j ihj =>
          intro x hx h
          have hlt := (List.getElem?_eq_some_iff.1 hx).1
          exact ihj _ (List.getElem?_eq_getElem (by omega)) (hc j _ x (List.getElem?_eq_getElem (by omega)) hx h)
      have e : cntL L (a :: T) = 0 := by
        unfold cntL
        rw [List.filter_eq_nil_iff.2 (fun x hx => by obtain ⟨j, hj⟩ := List.mem_iff_getElem?.1 hx; exact hall j x hj)]
        rfl
      rw [e]
      exact ⟨fun h => absurd h (hall j x hj), fun h => by omega⟩
theorem cnt_set {L : Nat → Bool} {i : Nat} (hi : L i = false) : ∀ (T : List Nat), T.Nodup → cntL (fun k => if k = i then true else L k) T = cntL L T + if i ∈ T then 1 else 0
  | [], _ => rfl
  | a :: T, h => by
    have hd := List.nodup_cons.1 h
    have ih := cnt_set hi T hd.2
    unfold cntL at ih ⊢
    by_cases ha : a = i
    · subst ha
      have : (if a ∈ T then 1 else 0) = 0 := if_neg hd.1
      rw [this] at ih
      rw [List.filter_cons_of_pos (by simp), List.filter_cons_of_neg (by simp [hi]), List.length_cons, ih, if_pos (List.mem_cons_self ..)]
    · have e : (i ∈ a :: T) ↔ i ∈ T := by simp [Ne.symm ha]
      simp only [List.filter_cons, if_neg ha]
      by_cases hL : L a = true
      · simp only [hL, if_true, List.length_cons, ih, e]; omega
      · simp only [hL, e]; exact ih
inductive StgOk (C : Ctx) (ops : Array Oper) (n : Nat) (Hs : Nat → Nat → DHeap) (o : Oper) (nd : Nat → List (Nat × DV)) (r : Nat → ORes) (tl al : Bool) : List Nat → Prop
  | nil : StgOk C ops n Hs o nd r tl al []
  | cons {c : Nat} {cs : List Nat} (h : ∀ b rest, SOps C ops [o] ⟨n, nd b ++ rest, Hs b c⟩ (fun st' => ∃ b', (al = false → b' = b) ∧ st' = ⟨n, (r b').toList ++ (nd b ++ rest), Hs b' (c + tl.toNat)⟩)) (k : StgOk C ops n Hs o nd r tl al cs) : StgOk C ops n Hs o nd r tl al (c :: cs)
theorem StgOk.at {C : Ctx} {ops : Array Oper} {n : Nat} {Hs : Nat → Nat → DHeap} {o : Oper} {nd : Nat → List (Nat × DV)} {r : Nat → ORes} {tl al : Bool} {cs : List Nat} (h : StgOk C ops n Hs o nd r tl al cs) {c : Nat} (hc : c ∈ cs) : ∀ b rest, SOps C ops [o] ⟨n, nd b ++ rest, Hs b c⟩ (fun st' => ∃ b', (al = false → b' = b) ∧ st' = ⟨n, (r b').toList ++ (nd b ++ rest), Hs b' (c + tl.toNat)⟩) := by
  induction h with
  | nil => cases hc
  | cons h k ih =>
    rcases List.mem_cons.1 hc with e | hc
    · subst e; exact h
    · exact ih hc
/-- What each operation does, at each stage at which its turn may come. -/
inductive MixOk (C : Ctx) (ops : Array Oper) (n : Nat) (Hs : Nat → Nat → DHeap) : List Oper → List (Nat → List (Nat × DV)) → List (Nat → ORes) → List (Bool × Bool × List Nat) → Prop
  | nil : MixOk C ops n Hs [] [] [] []
  | cons {o : Oper} {os : List Oper} {nd : Nat → List (Nat × DV)} {nds : List (Nat → List (Nat × DV))} {r : Nat → ORes} {D : List (Nat → ORes)} {tl al : Bool} {cs : List Nat} {K : List (Bool × Bool × List Nat)}
      (h : StgOk C ops n Hs o nd r tl al cs) (k : MixOk C ops n Hs os nds D K) : MixOk C ops n Hs (o :: os) (nd :: nds) (r :: D) ((tl, al, cs) :: K)
theorem MixOk.at {C : Ctx} {ops : Array Oper} {n : Nat} {Hs : Nat → Nat → DHeap} {os : List Oper} {nds : List (Nat → List (Nat × DV))} {D : List (Nat → ORes)} {K : List (Bool × Bool × List Nat)} (h : MixOk C ops n Hs os nds D K) : ∀ (i : Nat) o, os[i]? = some o →
    ∃ nd r tl al cs, nds[i]? = some nd ∧ D[i]? = some r ∧ K[i]? = some (tl, al, cs) ∧ StgOk C ops n Hs o nd r tl al cs := by
  induction h with
  | nil => intro i o hi; simp at hi
  | cons h k ih =>
    intro i o hi
    cases i with
    | zero => simp at hi; subst hi; exact ⟨_, _, _, _, _, rfl, rfl, rfl, h⟩
    | succ i => obtain ⟨nd, r, tl, al, cs, h1, h2, h3, h4⟩ := ih i o (by simpa using hi); exact ⟨nd, r, tl, al, cs, by simpa using h1, by simpa using h2, by simpa using h3, h4⟩
def memB (l : List Nat) (x : Nat) : Bool := l.any (fun y => Nat.beq y x)
theorem memB_iff {l : List Nat} {x : Nat} : memB l x = true ↔ x ∈ l := by
  unfold memB
  rw [List.any_eq_true]
  exact ⟨fun ⟨y, h, e⟩ => Nat.eq_of_beq_eq_true e ▸ h, fun h => ⟨x, h, by simp⟩⟩
end Go.GH
namespace Go.GH
open Go Go.RowKit
section
variable {α : Type} {C : Ctx} {E : Env} {base : Base} {F : Nat → Prop} {st : St} {a : Act} {w : World} {ops : Array Oper} {rest : List Oper} {R : St → Prop}
  {t : Tmp} {ty : TypeId} {pos : String} {aft : Array Edge} {g : Option (Nat × Bool)}
theorem SOps.storeK (i k : Nat) {T b o elem : Nat} {xo yo : Operand} {f : α → List DV} {xs : List α} {v : α} {d : DV} (hx : st.val xo = some (.ref b o)) (hy : st.val yo = some d) (hT : oneB C.P T = true)
    (hi : st.heap[i]? = some (b, .row elem 1 (xs.map f))) (ho : o = k) (hk : k < xs.length) (hf : f v = [d]) (h1 : ∀ x, (f x).length = 1)
    (hrest : SOps C ops rest ⟨st.n, st.slots, st.heap.set i (b, .row elem 1 ((xs.set k v).map f))⟩ R) (hd : d.one = true := by rfl)
    (hg : st.wants ops g = some true := by rfl) : SOps C ops (⟨none, .store T xo yo, ty, pos, aft, g⟩ :: rest) st R := by
  refine SOps.store i k 0 (e := f (xs[k]'hk)) hx hy hT hi (by omega) (by rw [List.getElem?_map, List.getElem?_eq_getElem hk]; rfl) (by omega) hd ?_ hg
  have e1 : (f (xs[k]'hk)).set 0 d = f v := by
    have := h1 (xs[k]'hk)
    rw [hf]
    match hq : f (xs[k]'hk), this with
    | [y], _ => rfl
  rw [e1, ← List.map_set]
  exact hrest
theorem SOps.loadK (i k : Nat) {T b o elem : Nat} {xo : Operand} {f : α → List DV} {xs : List α} {d : DV} (hx : st.val xo = some (.ref b o)) (hT : flatB C.P T = true)
    (hi : st.heap[i]? = some (b, .row elem 1 (xs.map f))) (ho : o = k) (hk : k < xs.length) (hf : f (xs[k]'hk) = [d]) (hrest : SOps C ops rest (st.put t d) R)
    (hg : st.wants ops g = some true := by rfl) (ht : Nat.blt t st.n = true := by rfl) : SOps C ops (⟨some t, .load T xo, ty, pos, aft, g⟩ :: rest) st R :=
  SOps.loadRef i k 0 (e := f (xs[k]'hk)) hx hT hi (by omega) (by rw [List.getElem?_map, List.getElem?_eq_getElem hk]; rfl) (by rw [hf]; rfl) hrest hg ht
theorem rep_row {w : World} {F : Nat → Prop} {b elem sz : Nat} {es : List (List DV)} {v : Value} (ho : ObjRep w F b (.row elem sz es)) (hv : Rep w F v (.sl b sz 0 es.length)) : Rep w (fun c => F c ∨ c = b) v (.isl false sz es) := by
  obtain ⟨cs, k1, k2, k3, k4⟩ := ho
  cases hv with
  | @sl b sz off len cap e n q1 q2 q3 q4 =>
    refine .isl (b := b) (o := 0 * sz) (fun i j => cs.getD (i * sz + j) undef) rfl q1 k3 (fun h => by cases h) (fun _ => ⟨rfl, .inr rfl⟩) (fun i e he => (k4 _ _ he).1) (fun i e j d he hj => ?_) (fun i e j d he hj => ?_)
    · obtain ⟨x, hx, ho, hr⟩ := (k4 _ _ he).2 j d hj
      have e1 : cs.getD (i * sz + j) undef = x := by simp [Array.getD_eq_getD_getElem?, hx]
      rw [e1]
      exact ⟨by rw [cell_of_row w b _ cs _ _ k1, ← hx, Nat.zero_mul, Nat.zero_add], ho⟩
    · obtain ⟨x, hx, ho, hr⟩ := (k4 _ _ he).2 j d hj
      have e1 : cs.getD (i * sz + j) undef = x := by simp [Array.getD_eq_getD_getElem?, hx]
      rw [e1]
      exact hr.mono (fun _ _ => rfl) (fun _ _ h => h) (fun _ h => .inl h)
/-- A row that stands in a row of one's own, and is written no more. -/
theorem SOps.freezeIn {l : List Oper} (i i' k j : Nat) {b bT elem elem2 sz sz2 : Nat} {es : List (List DV)} {rows : List (List DV)} {row : List DV} (hp : C.pu = true) (hi : st.heap[i]? = some (b, .row elem2 sz2 es)) (hi' : (st.heap.eraseIdx i)[i']? = some (bT, .row elem sz rows))
    (hk : rows[k]? = some row) (hj : row[j]? = some (.sl b sz2 0 es.length))
    (h : SOps C ops l ⟨st.n, st.slots, (st.heap.eraseIdx i).set i' (bT, .row elem sz (rows.set k (row.set j (.isl false sz2 es))))⟩ R) : SOps C ops l st R := by
  intro base ok a w ⟨F, hs⟩
  have hmem := hs.heap _ (List.mem_of_getElem? hi)
  have hnew : base.w.heap.size ≤ b := hmem.1.resolve_left (ok hp b)
  have hT0 := hs.heap (bT, .row elem sz rows) ((List.eraseIdx_sublist ..).subset (List.mem_of_getElem? hi'))
  have h2 := hs.letGo hi hnew
  have hT := (h2.heap (bT, .row elem sz rows) (List.mem_of_getElem? hi')).2.2
  refine h base ok a w ⟨_, h2.write (w' := w) hi' (Step.refl _ _) ?_⟩
  obtain ⟨cs, k1, k2, k3, k4⟩ := hT
  obtain ⟨cs0, k10, _, _, k40⟩ := hT0.2.2
  have hkl := (List.getElem?_eq_some_iff.1 hk).1
  refine ⟨cs, k1, by simpa using k2, by simpa using k3, fun q e hq => ?_⟩
  rw [List.getElem?_set] at hq
  split at hq
  · rename_i hkq
    subst hkq
    obtain rfl := Option.some.inj hq
    obtain ⟨m1, m2⟩ := k4 _ _ hk
    refine ⟨by simpa using m1, fun u d hd => ?_⟩
    rw [List.getElem?_set] at hd
    split at hd
    · rename_i hju
      subst hju
      split at hd
      · obtain rfl := Option.some.inj hd
        obtain ⟨x, hx, ho, hr⟩ := (k40 _ _ hk).2 _ _ hj
        have hcs : cs0 = cs := by
          have := k10.symm.trans k1
          simpa using this
        subst hcs
        exact ⟨x, hx, ho, rep_row hmem.2.2 hr⟩
      · cases hd
    · exact m2 u d hd
  · exact k4 q e hq

/-! #### functions with their first arguments -/
/-- make([]T, n), told by an encoding. -/
theorem SOps.makeK {T e sz by_ : Nat} {z : Value} {lo co : Operand} {kl kc : IntKind} {m m' : Int} {f : α → List DV} (n : Nat) (v : α) (hT : sliceB C.P T e sz = true) (hE : elemB C.P e sz by_ = true) (hz : zeroIs C.P e z) (hlo : st.val lo = some (.v (.int kl m))) (hco : st.val co = some (.v (.int kc m'))) (hm : m = (n : Int)) (hm' : m' = (n : Int))
    (hf : z.cells.toList.map DV.v = f v) (hby : n * by_ ≤ 281474976710656) (hB : n ≤ lenB) (hrest : ∀ b, st.fresh b → SOps C ops rest ⟨st.n, (t, .sl b sz 0 n) :: st.slots, (b, .row e sz ((List.replicate n v).map f)) :: st.heap⟩ R) (hb : zcellsB z = true := by rfl)
    (hg : st.wants ops g = some true := by rfl) (ht : Nat.blt t st.n = true := by rfl) : SOps C ops (⟨some t, .makeSlice T lo co, ty, pos, aft, g⟩ :: rest) st R := by
  subst hm; subst hm'
  refine SOps.makeSlice n hT hE hz hlo hco hby hB (fun b hb' => ?_) hb hg ht
  rw [hf, ← List.map_replicate]
  exact hrest b hb'

/-! #### shifts and bits of small sets -/
end
end Go.GH
namespace Go.GH
open Go Go.RowKit
section
variable {α : Type} {C : Ctx} {E : Env} {base : Base} {F : Nat → Prop} {st : St} {a : Act} {w : World} {ops : Array Oper} {rest : List Oper} {R : St → Prop}
  {t : Tmp} {ty : TypeId} {pos : String} {aft : Array Edge} {g : Option (Nat × Bool)}
/-- A call that is handed own blocks, wherever they stand. -/
theorem SOps.callH {f : FuncId} {xs : Array Operand} {ats : Array TypeId} {ds : List DV} (H1 H H2 : DHeap) {Rr : DV → DHeap → Prop} (hf : GCall C.P C.E f ds H Rr) (hxs : st.vals xs.toList = some ds)
    (hH : st.heap = H1 ++ (H ++ H2)) (hrest : ∀ d H', Rr d H' → SOps C ops rest ⟨st.n, (t, d) :: st.slots, H1 ++ (H' ++ H2)⟩ R)
    (hg : st.wants ops g = some true := by rfl) (ht : Nat.blt t st.n = true := by rfl) :
    SOps C ops (⟨some t, .call { callee := .value (.func f), args := xs, argTypes := ats }, ty, pos, aft, g⟩ :: rest) st R := by
  have hv : ∀ (l : List Operand) (ds : List DV), st.vals l = some ds → (⟨st.n, st.slots, (H1 ++ H2) ++ H⟩ : St).vals l = some ds := fun l => by
    induction l with
    | nil => exact fun ds h => h
    | cons x l ih =>
      intro ds h
      simp only [St.vals] at h ⊢
      split at h
      · rename_i d ds' h1 h2
        have e1 : (⟨st.n, st.slots, (H1 ++ H2) ++ H⟩ : St).val x = some d := by cases x <;> exact h1
        rw [e1, ih ds' h2]; exact h
      · cases h
  have hgw : ∀ g, st.wants ops g = some true → (⟨st.n, st.slots, (H1 ++ H2) ++ H⟩ : St).wants ops g = some true := fun g h => h
  have hperm : ∀ H : DHeap, (H1 ++ (H ++ H2)).Perm ((H1 ++ H2) ++ H) := fun H => by
    rw [List.append_assoc]
    exact List.Perm.append_left _ List.perm_append_comm
  refine SOps.weaken (st' := ⟨st.n, st.slots, (H1 ++ H2) ++ H⟩) ⟨rfl, fun t d h => .inl h, H1 ++ (H ++ H2), (hperm H).symm, by rw [hH]; exact List.Sublist.refl _⟩ ?_
  refine SOps.callR (st := ⟨st.n, st.slots, (H1 ++ H2) ++ H⟩) H (H1 ++ H2) hf (hv _ _ hxs) rfl (fun d H' h => ?_) (hgw _ hg) ht
  exact SOps.weaken (st' := ⟨st.n, (t, d) :: st.slots, H1 ++ (H' ++ H2)⟩) ⟨rfl, fun t d h => .inl h, (H1 ++ H2) ++ H', hperm H', List.Sublist.refl _⟩ (hrest d H' h)
theorem nil_isl {w : World} {F : Nat → Prop} {v : Value} {sz : Nat} (hv : Rep w F v (.v (.slice none 0 0))) : Rep w F v (.isl false sz []) := by
  rw [hv.inv_v.1]
  exact .isl (b := 0) (o := 0) (fun _ _ => undef) rfl (by omega) (by simp [lenB]) (fun h => by cases h) (fun h => absurd rfl h) (fun i e h => by simp at h) (fun i e j d h => by simp at h) (fun i e j d h => by simp at h)
/-- A scope that no jump leaves by a label. -/
def scopeQ (Q : Exit → St → Prop) : Exit → St → Prop
  | .goto _, _ => False
  | e, st => Q e st
theorem SCode.scope {c : Code} {Q : Exit → St → Prop} (h : SCode C c st (scopeQ Q)) : SCode C (.scope c) st Q := fun base ok a w hs =>
  wp_scope_straight (wp_mono (h base ok a w hs) (fun e a' w' ⟨st', q, s⟩ => by
    cases e with
    | goto l => exact q
    | _ => exact ⟨st', q, s⟩))
theorem SCode.label {l : Nat} {Q : Exit → St → Prop} (h : Q .normal st) : SCode C (.label l) st Q := fun base ok a w hs => wp_label ⟨st, h, hs⟩
theorem rep_aggNil {w : World} {F : Nat → Prop} {v : Value} {ds : List DV} {sz : Nat} (i : Nat) (h : Rep w F v (.agg ds)) (hi : ds[i]? = some (.v (.slice none 0 0))) : Rep w F v (.agg (ds.set i (.isl false sz []))) := by
  cases h with
  | agg hl hr =>
    refine .agg (by simpa using hl) (fun j x d hx hd => ?_)
    rw [List.getElem?_set] at hd
    split at hd
    · rename_i e
      subst e
      split at hd
      · obtain rfl := Option.some.inj hd
        exact nil_isl (hr _ x _ hx hi)
      · cases hd
    · exact hr j x d hx hd
/-- What a slot holds, told otherwise. -/
theorem SOps.relab {l : List Oper} {d d' : DV} (hd : st.get t = some d) (hr : ∀ (w : World) (F : Nat → Prop) (v : Value), Rep w F v d → Rep w F v d') (h : SOps C ops l ⟨st.n, (t, d') :: st.slots, st.heap⟩ R) : SOps C ops l st R := by
  intro base ok a w ⟨F, hs⟩
  exact h base ok a w ⟨F, SimF.relabel hs hd (fun hv => hr w F _ hv)⟩
end
end Go.GH
namespace Go.GH
open Go Go.RowKit
section
variable {C : Ctx} {E : Env} {base : Base} {F : Nat → Prop} {st : St} {a : Act} {w : World} {ops : Array Oper} {rest : List Oper} {R : St → Prop}
  {t : Tmp} {ty : TypeId} {pos : String} {aft : Array Edge} {g : Option (Nat × Bool)}
end
end Go.GH
namespace Go.GH
open Go
variable {C : Ctx} {ops : Array Oper} {st : St} {rest : List Oper} {R : St → Prop} {t : Tmp} {ty : TypeId} {pos : String} {aft : Array Edge} {g : Option (Nat × Bool)}

end Go.GH
namespace Go.GH
open Go

def pairV (p : Nat × Nat) : Value := .agg #[.int .u8 (p.1 : Int), .int .u8 (p.2 : Int)]
def SmP (p : Nat × Nat) : Prop := p.1 < 256 ∧ p.2 < 256
structure pairB (P : Program) (T K V : Nat) : Prop where
  map : P.underlying T = some (.map K V)
  law : WideMaps.KeyLaw P K
  key : ∀ p, SmP p → ∃ l, keyOf P K (pairV p) = some l
theorem u8_wf {n : Nat} (h : n < 256) : (Lit.int .u8 (n : Int)).wf = true := by
  simp [Lit.wf, IntKind.min, IntKind.max, IntKind.signed, IntKind.bits]
  omega
theorem pairB.of {P : Program} {T K V e k : Nat} (hm : P.underlying T = some (.map K V)) (hK : P.underlying K = some (.array 2 e)) (he : P.underlying e = some (.int .u8)) (hcK : P.cellsOf K = 2) (hce : P.cellsOf e = 1) (hk : P.keyType K = true)
    (h2 : P.keyTypeAt 2 K = true) (ht : P.tiled 2 K = true) (hs : P.types.size = k + 1) : pairB P T K V where
  map := hm
  law := deep_law (m := 2) (by decide) h2 ht (by rw [hK])
  key := fun p hp => by
    have h1 : P.keyLits (k + 1) e [.int .u8 (p.1 : Int)] = some [.int .u8 (p.1 : Int)] := by
      unfold Program.keyLits; simp only [he]; rw [if_pos ⟨trivial, u8_wf hp.1⟩]
    have h2 : P.keyLits (k + 1) e [.int .u8 (p.2 : Int)] = some [.int .u8 (p.2 : Int)] := by
      unfold Program.keyLits; simp only [he]; rw [if_pos ⟨trivial, u8_wf hp.2⟩]
    have h3 : P.keyLits (P.types.size + 1) K (pairV p).cells.toList = some [.int .u8 (p.1 : Int), .int .u8 (p.2 : Int)] := by
      rw [hs]
      unfold Program.keyLits
      simp only [hK, pairV, Value.cells, hcK, hce]
      rw [if_pos (by simp)]
      simp [List.range_succ, h1, h2]
    refine ⟨.string (keyBytes [.int .u8 (p.1 : Int), .int .u8 (p.2 : Int)]), ?_⟩
    unfold keyOf
    simp only [hK]
    rw [if_pos (by simp [hk, Value.formed, pairV, hK, hcK]), h3]
    rfl
variable {C : Ctx} {ops : Array Oper} {st : St} {rest : List Oper} {R : St → Prop} {t : Tmp} {ty : TypeId} {pos : String} {aft : Array Edge} {g : Option (Nat × Bool)}

end Go.GH
namespace Go.GH
open Go
variable {α : Type} {C : Ctx} {ops : Array Oper} {st : St} {rest : List Oper} {R : St → Prop} {t : Tmp} {ty : TypeId} {pos : String} {aft : Array Edge} {g : Option (Nat × Bool)}

end Go.GH
namespace Go.GH
open Go

def inlB (n : Nat) (ss : List (Nat ⊕ Nat)) : Bool := ss.all (fun x => match x with | .inl j => Nat.blt j n | .inr _ => true)
inductive NeedIs (D s : List (Nat × DV)) : List (Nat ⊕ Nat) → List (Nat × DV) → Prop
  | nil : NeedIs D s [] []
  | inl {j : Nat} {ss : List (Nat ⊕ Nat)} {nd : List (Nat × DV)} (k t : Nat) (d : DV) (hk : k + j + 1 = D.length) (h : D[k]? = some (t, d)) (r : NeedIs D s ss nd) : NeedIs D s (.inl j :: ss) ((t, d) :: nd)
  | inr {t : Nat} {ss : List (Nat ⊕ Nat)} {nd : List (Nat × DV)} (d : DV) (h : getL s t = some d) (k : NeedIs D s ss nd) : NeedIs D s (.inr t :: ss) ((t, d) :: nd)
theorem NeedIs.eq {D s : List (Nat × DV)} : ∀ {ss : List (Nat ⊕ Nat)} {nd : List (Nat × DV)}, NeedIs D s ss nd → needOf D.reverse s ss = nd
  | _, _, .nil => rfl
  | _, _, .inl (j := j) k t d hk h r => by
    have e : D.reverse[j]? = some (t, d) := by rw [List.getElem?_reverse (by omega), show D.length - 1 - j = k by omega, h]
    simp only [needOf, e, r.eq]
  | _, _, .inr d h k => by simp only [needOf, h, k.eq]
inductive DOk (C : Ctx) (ops : Array Oper) (n : Nat) (H : DHeap) (s : List (Nat × DV)) : List (Nat × DV) → List Oper → List (List (Nat ⊕ Nat)) → List (Nat × DV) → Prop
  | nil {D : List (Nat × DV)} : DOk C ops n H s D [] [] []
  | cons {D E nd : List (Nat × DV)} {o : Oper} {os : List Oper} {ss : List (Nat ⊕ Nat)} {sss : List (List (Nat ⊕ Nat))} (t : Nat) (d : DV) (hj : inlB D.length ss = true) (hn : NeedIs D s ss nd)
      (h : ∀ rest, SOps C ops [o] ⟨n, nd ++ rest, H⟩ (fun st' => st' = ⟨n, (t, d) :: (nd ++ rest), H⟩)) (k : DOk C ops n H s ((t, d) :: D) os sss E) :
      DOk C ops n H s D (o :: os) (ss :: sss) ((t, d) :: E)
theorem needOf_more {D E s : List (Nat × DV)} : ∀ {ss : List (Nat ⊕ Nat)}, inlB D.length ss = true → needOf (D ++ E) s ss = needOf D s ss
  | [], _ => rfl
  | .inl j :: r, h => by
    simp only [inlB, List.all_cons, Bool.and_eq_true] at h
    have hj := Nat.le_of_ble_eq_true h.1
    simp only [needOf, List.getElem?_append_left (show j < D.length from hj), needOf_more (E := E) (s := s) (ss := r) h.2]
  | .inr t :: r, h => by
    simp only [inlB, List.all_cons, Bool.and_eq_true] at h
    simp only [needOf, needOf_more (E := E) (s := s) (ss := r) h.2]
theorem DOk.ops {C : Ctx} {ops : Array Oper} {n : Nat} {H : DHeap} {s : List (Nat × DV)} : ∀ {D E : List (Nat × DV)} {os : List Oper} {sss : List (List (Nat ⊕ Nat))}, DOk C ops n H s D os sss E → OpsOk C ops n H os (sss.map (needOf (D.reverse ++ E) s)) E
  | _, _, _, _, .nil => OpsOk.nil
  | D, _, _, _, .cons (E := E) t d hj hn h k => by
    rw [List.map_cons, needOf_more (by rw [List.length_reverse]; exact hj), hn.eq]
    have e : D.reverse ++ (t, d) :: E = ((t, d) :: D).reverse ++ E := by simp
    rw [e]
    exact OpsOk.cons h k.ops
theorem SCode.drawAuto {C : Ctx} {id : Nat} {l : List Oper} {n : Nat} {s : List (Nat × DV)} {H : DHeap} {Q : Exit → St → Prop} {E : List (Nat × DV)} (hm : C.P.follows .mixedOrders = true) (ts : List Nat) (srcs : List (List (Nat ⊕ Nat)))
    (hB : drawB l ts srcs = true) (hd : distB ts = true) (hops : DOk C l.toArray n H s [] l srcs E) (hts : E.map (·.1) = ts) (hQ : Q .normal ⟨n, E ++ s, H⟩) : SCode C (.region id l.toArray true) ⟨n, s, H⟩ Q :=
  SCode.drawPure hm E ts srcs _ hts hB hd rfl hops.ops hQ
end Go.GH
namespace Go.GH
open Go

theorem GCall.clean {P : Program} {E : Env} {f : FuncId} {ds : List DV} {R : DV → DHeap → Prop} {R' : DV → Prop} (h : GCall P E f ds [] R) (hc : ∀ d H, R d H → ∃ d', (∀ (w : World) (F : Nat → Prop) (v : Value), Rep w F v d → Rep w F v d') ∧ R' d') : GCall P E f ds [] (fun d H => R' d ∧ H = []) :=
  ⟨h.1, fun w F vs hE hF hl hr h1 h2 => (h.2 w F vs hE hF hl hr h1 h2).mono (fun e w' ⟨u, d, H', F', e1, e2, e3, e4, e5, e6, e7, e8⟩ => by
    obtain ⟨d', k1, k2⟩ := hc d H' e2
    exact ⟨u, d', [], F', e1, ⟨k2, rfl⟩, e3, e4, k1 _ _ _ e5, (fun p hp => by cases hp), List.nodup_nil, e8⟩)⟩
theorem rep_tup0 {w : World} {F : Nat → Prop} {v : Value} {d d' : DV} {ds : List DV} (hd : ∀ (w : World) (F : Nat → Prop) (v : Value), Rep w F v d → Rep w F v d') (h : Rep w F v (.tup (d :: ds))) : Rep w F v (.tup (d' :: ds)) := by
  cases h with
  | tup hl hr =>
    refine .tup (by simpa using hl) (fun j x e hj he => ?_)
    cases j with
    | zero => simp only [List.getElem?_cons_zero, Option.some.injEq] at he; subst he; exact hd _ _ _ (hr 0 x d hj rfl)
    | succ j => exact hr (j + 1) x e hj (by simpa using he)
end Go.GH
namespace Go.GH
open Go

abbrev Ids := Nat → Nat
/-- A chain: its operations, and what its memory is after so many of them. -/
structure Chn where
  T : List Nat
  Y : List Nat → Nat → DHeap
def Chn.X (x : Chn) (b : Ids) (c : Nat) : DHeap := x.Y (x.T.map b) c
def Chn.at (L : Nat → Bool) (b : Ids) (x : Chn) : DHeap := x.X b (cntL L x.T)
def chnH (L : Nat → Bool) (b : Ids) (xs : List Chn) : DHeap := (xs.map (Chn.at L b)).flatten
inductive NeedG (D : List (Ids → ORes)) (s : List (Nat × DV)) (b : Ids) : List (Nat ⊕ Nat) → List (Nat × DV) → Prop
  | nil : NeedG D s b [] []
  | inl {j : Nat} {ss : List (Nat ⊕ Nat)} {nd : List (Nat × DV)} {r : Ids → ORes} (k t : Nat) (d : DV) (hk : k + j + 1 = D.length) (h : D[k]? = some r) (h2 : r b = some (t, d)) (q : NeedG D s b ss nd) : NeedG D s b (.inl j :: ss) ((t, d) :: nd)
  | inr {t : Nat} {ss : List (Nat ⊕ Nat)} {nd : List (Nat × DV)} (d : DV) (h : getL s t = some d) (q : NeedG D s b ss nd) : NeedG D s b (.inr t :: ss) ((t, d) :: nd)
/-- What each operation does. 'none': it reads alone; 'some (m, c)': it is number c of chain m. -/
inductive GOk (C : Ctx) (ops : Array Oper) (n : Nat) (base : DHeap) (s : List (Nat × DV)) (xs : List Chn) : List (Ids → ORes) → List Oper → List (List (Nat ⊕ Nat)) → List (Option (Nat × Nat)) → List (List Nat) → List (Ids → ORes) → Prop
  | nil {D : List (Ids → ORes)} : GOk C ops n base s xs D [] [] [] [] []
  | pure {D E : List (Ids → ORes)} {o : Oper} {os : List Oper} {ss : List (Nat ⊕ Nat)} {sss : List (List (Nat ⊕ Nat))} {cls : List (Option (Nat × Nat))} {Ss : List (List Nat)} (S : List Nat) (g : List Nat → ORes) {nd : Ids → List (Nat × DV)} (hj : inlB D.length ss = true) (hn : ∀ b, NeedG D s b ss (nd b))
      (h : ∀ b rest ext, SOps C ops [o] ⟨n, nd b ++ rest, base ++ ext⟩ (fun st' => st' = ⟨n, (g (S.map b)).toList ++ (nd b ++ rest), base ++ ext⟩)) (k : GOk C ops n base s xs ((fun b => g (S.map b)) :: D) os sss cls Ss E) : GOk C ops n base s xs D (o :: os) (ss :: sss) (none :: cls) (S :: Ss) ((fun b => g (S.map b)) :: E)
  | act {D E : List (Ids → ORes)} {o : Oper} {os : List Oper} {ss : List (Nat ⊕ Nat)} {sss : List (List (Nat ⊕ Nat))} {cls : List (Option (Nat × Nat))} {Ss : List (List Nat)} {m c : Nat} {x : Chn} (S : List Nat) (g : List Nat → ORes) {nd : Ids → List (Nat × DV)} (hx : xs[m]? = some x) (hc : x.T[c]? = some D.length) (hj : inlB D.length ss = true) (hn : ∀ b, NeedG D s b ss (nd b))
      (h : ∀ b rest ext, SOps C ops [o] ⟨n, nd b ++ rest, base ++ (x.X b c ++ ext)⟩ (fun st' => ∃ b', (∀ k, k ≠ D.length → b' k = b k) ∧ (⟨n, (g (S.map b')).toList ++ (nd b ++ rest), base ++ (x.X b' (c + 1) ++ ext)⟩ : St).Le st')) (k : GOk C ops n base s xs ((fun b => g (S.map b)) :: D) os sss cls Ss E) :
      GOk C ops n base s xs D (o :: os) (ss :: sss) (some (m, c) :: cls) (S :: Ss) ((fun b => g (S.map b)) :: E)
theorem needO_more {D E : List ORes} {s : List (Nat × DV)} : ∀ {ss : List (Nat ⊕ Nat)}, inlB D.length ss = true → needO (D ++ E) s ss = needO D s ss
  | [], _ => rfl
  | .inl j :: r, h => by
    simp only [inlB, List.all_cons, Bool.and_eq_true] at h
    have hj := Nat.le_of_ble_eq_true h.1
    simp only [needO, List.getElem?_append_left (show j < D.length from hj), needO_more (E := E) (s := s) (ss := r) h.2]
  | .inr t :: r, h => by
    simp only [inlB, List.all_cons, Bool.and_eq_true] at h
    simp only [needO, needO_more (E := E) (s := s) (ss := r) h.2]
theorem NeedG.eq {D : List (Ids → ORes)} {s : List (Nat × DV)} {b : Ids} : ∀ {ss : List (Nat ⊕ Nat)} {nd : List (Nat × DV)}, NeedG D s b ss nd → needO (D.reverse.map (fun r => r b)) s ss = nd
  | _, _, .nil => rfl
  | _, _, .inl (j := j) (r := r) k t d hk h h2 q => by
    have e : (D.reverse.map (fun r => r b))[j]? = some (some (t, d)) := by
      rw [List.getElem?_map, List.getElem?_reverse (by omega), show D.length - 1 - j = k by omega, h]
      simp [h2]
    simp only [needO, e, q.eq]
  | _, _, .inr d h q => by simp only [needO, h, q.eq]
/-- Operation i: its sources, its class, what it does. -/
theorem GOk.at {C : Ctx} {ops : Array Oper} {n : Nat} {base : DHeap} {s : List (Nat × DV)} {xs : List Chn} : ∀ {D E : List (Ids → ORes)} {os : List Oper} {sss : List (List (Nat ⊕ Nat))} {cls : List (Option (Nat × Nat))} {Ss : List (List Nat)}, GOk C ops n base s xs D os sss cls Ss E → ∀ (i : Nat) o, os[i]? = some o →
    ∃ (ss : List (Nat ⊕ Nat)) (cl : Option (Nat × Nat)) (r : Ids → ORes) (nd : Ids → List (Nat × DV)), sss[i]? = some ss ∧ cls[i]? = some cl ∧ E[i]? = some r ∧ (∀ b, needO ((D.reverse ++ E).map (fun r => r b)) s ss = nd b) ∧
      (cl = none → ∀ b rest ext, SOps C ops [o] ⟨n, nd b ++ rest, base ++ ext⟩ (fun st' => st' = ⟨n, (r b).toList ++ (nd b ++ rest), base ++ ext⟩)) ∧
      (∀ m c, cl = some (m, c) → ∃ x, xs[m]? = some x ∧ x.T[c]? = some (D.length + i) ∧ ∀ b rest ext, SOps C ops [o] ⟨n, nd b ++ rest, base ++ (x.X b c ++ ext)⟩ (fun st' => ∃ b', (∀ k, k ≠ D.length + i → b' k = b k) ∧ (⟨n, (r b').toList ++ (nd b ++ rest), base ++ (x.X b' (c + 1) ++ ext)⟩ : St).Le st'))
  | _, _, _, _, _, _, .nil, i, o, hi => by simp at hi
  | D, _, _, _, _, _, .pure (E := E) (ss := ss) S g (nd := nd) hj hn h k, 0, o, hi => by
    simp only [List.getElem?_cons_zero, Option.some.injEq] at hi
    subst hi
    refine ⟨ss, none, fun b => g (S.map b), nd, rfl, rfl, rfl, fun b => ?_, fun _ => h, fun m c e => by cases e⟩
    rw [List.map_append, needO_more (by simpa using hj)]
    exact (hn b).eq
  | D, _, _, _, _, _, .act (E := E) (ss := ss) (m := m) (c := c) (x := x) S g (nd := nd) hx hc hj hn h k, 0, o, hi => by
    simp only [List.getElem?_cons_zero, Option.some.injEq] at hi
    subst hi
    refine ⟨ss, some (m, c), fun b => g (S.map b), nd, rfl, rfl, rfl, fun b => ?_, (fun e => by cases e), fun m' c' e => ?_⟩
    · rw [List.map_append, needO_more (by simpa using hj)]
      exact (hn b).eq
    · simp only [Option.some.injEq, Prod.mk.injEq] at e
      obtain ⟨rfl, rfl⟩ := e
      exact ⟨x, hx, by simpa using hc, h⟩
  | D, _, _, _, _, _, .pure (E := E) S g hj hn h k, i + 1, o, hi => by
    obtain ⟨ss, cl, r', nd, h1, h2, h3, h4, h5, h6⟩ := k.at i o (by simpa using hi)
    refine ⟨ss, cl, r', nd, by simpa using h1, by simpa using h2, by simpa using h3, ?_, h5, ?_⟩
    · simpa using h4
    · simpa [Nat.add_assoc, Nat.add_comm 1 i] using h6
  | D, _, _, _, _, _, .act (E := E) S g hx hc hj hn h k, i + 1, o, hi => by
    obtain ⟨ss, cl, r', nd, h1, h2, h3, h4, h5, h6⟩ := k.at i o (by simpa using hi)
    refine ⟨ss, cl, r', nd, by simpa using h1, by simpa using h2, by simpa using h3, ?_, h5, ?_⟩
    · simpa using h4
    · simpa [Nat.add_assoc, Nat.add_comm 1 i] using h6
/-- The chains are chains; an operation is of at most one of them; what an operation yields hangs on names of such as it waits for. -/
def genB (l : List Oper) (ts : List (Option Nat)) (srcs : List (List (Nat ⊕ Nat))) (Ts : List (List Nat)) (cls : List (Option (Nat × Nat))) (Ss : List (List Nat)) (f : Nat) : Bool :=
  ordB l && distO ts && (Ts.all (fun T => distB T && T.all (fun x => Nat.blt x l.length) && (T.zip (T.drop 1)).all (fun p => memB (reqF l f p.2) p.1))) &&
  (l.zipIdx).all (fun p => match srcs[p.2]? with
    | some ss => ss.all (srcO l ts p.2 p.1)
    | none => true) &&
  (List.range l.length).all (fun i => match cls[i]? with
    | some (some (m, _)) => (Ts.zipIdx).all (fun p => Nat.beq p.2 m || !memB p.1 i)
    | some none => Ts.all (fun T => !memB T i)
    | none => false) &&
  (l.zipIdx).all (fun p => match Ss[p.2]? with
    | some S => S.all (fun k => Nat.beq k p.2 || afterB p.1 k)
    | none => false)
theorem chnH_congr {L L' : Nat → Bool} {b b' : Ids} : ∀ {xs : List Chn}, (∀ x ∈ xs, Chn.at L b x = Chn.at L' b' x) → chnH L b xs = chnH L' b' xs := fun {xs} h => by
  unfold chnH
  rw [List.map_congr_left h]
theorem chnH_out {L : Nat → Bool} {b : Ids} : ∀ {xs : List Chn} {m : Nat} {x : Chn}, xs[m]? = some x → (chnH L b xs).Perm (Chn.at L b x ++ chnH L b (xs.eraseIdx m))
  | [], _, _, h => by simp at h
  | y :: xs, 0, x, h => by
    simp only [List.getElem?_cons_zero, Option.some.injEq] at h
    subst h
    exact .refl _
  | y :: xs, m + 1, x, h => by
    have := chnH_out (L := L) (b := b) (xs := xs) (m := m) (by simpa using h)
    show (Chn.at L b y ++ chnH L b xs).Perm (Chn.at L b x ++ (Chn.at L b y ++ chnH L b (xs.eraseIdx m)))
    refine (this.append_left _).trans ?_
    rw [← List.append_assoc, ← List.append_assoc]
    exact List.Perm.append_right _ List.perm_append_comm
theorem mem_eraseIdx_ne {α : Type} {xs : List α} {m : Nat} {y : α} (h : y ∈ xs.eraseIdx m) : ∃ j, j ≠ m ∧ xs[j]? = some y := by
  rw [List.mem_eraseIdx_iff_getElem?] at h
  exact h
theorem GOk.dep {C : Ctx} {ops : Array Oper} {n : Nat} {base : DHeap} {s : List (Nat × DV)} {xs : List Chn} {D E : List (Ids → ORes)} {os : List Oper} {sss : List (List (Nat ⊕ Nat))} {cls : List (Option (Nat × Nat))} {Ss : List (List Nat)} (h : GOk C ops n base s xs D os sss cls Ss E) :
    E.length = os.length ∧ ∀ (j : Nat) r S, E[j]? = some r → Ss[j]? = some S → ∀ b b', (∀ k ∈ S, b k = b' k) → r b = r b' := by
  induction h with
  | nil => exact ⟨rfl, fun j r S h => by simp at h⟩
  | pure S g _ _ _ _ ih =>
    refine ⟨by simp [ih.1], fun j r S' h1 h2 b b' hb => ?_⟩
    cases j with
    | zero =>
      simp only [List.getElem?_cons_zero, Option.some.injEq] at h1 h2
      subst h1; subst h2
      show g (S.map b) = g (S.map b')
      rw [List.map_congr_left hb]
    | succ j => exact ih.2 j r S' (by simpa using h1) (by simpa using h2) b b' hb
  | act S g _ _ _ _ _ _ ih =>
    refine ⟨by simp [ih.1], fun j r S' h1 h2 b b' hb => ?_⟩
    cases j with
    | zero =>
      simp only [List.getElem?_cons_zero, Option.some.injEq] at h1 h2
      subst h1; subst h2
      show g (S.map b) = g (S.map b')
      rw [List.map_congr_left hb]
    | succ j => exact ih.2 j r S' (by simpa using h1) (by simpa using h2) b b' hb
theorem SCode.drawGen {C : Ctx} {id : Nat} {l : List Oper} {n : Nat} {s : List (Nat × DV)} {H : DHeap} {Q : Exit → St → Prop} {D : List (Ids → ORes)} (hm : C.P.follows .mixedOrders = true) (f : Nat) (ts : List (Option Nat)) (srcs : List (List (Nat ⊕ Nat))) (cls : List (Option (Nat × Nat))) (Ss : List (List Nat)) (base : DHeap) (xs : List Chn)
    (hB : genB l ts srcs (xs.map (·.T)) cls Ss f = true) (hH : ∀ b, (base ++ (xs.map (fun x => x.X b 0)).flatten).Perm H)
    (hops : GOk C l.toArray n base s xs [] l srcs cls Ss D) (hts : ∀ b, D.map (fun r => (r b).map (·.1)) = ts)
    (hQ : ∀ b, Q .normal ⟨n, resO (D.map (fun r => r b)) ++ s, base ++ (xs.map (fun x => x.X b x.T.length)).flatten⟩) : SCode C (.region id l.toArray true) ⟨n, s, H⟩ Q := by
  obtain ⟨hDl, hS⟩ := hops.dep
  have hX : ∀ x ∈ xs, ∀ b b', (∀ k ∈ x.T, b k = b' k) → ∀ c, x.X b c = x.X b' c := fun x _ b b' h c => by unfold Chn.X; rw [List.map_congr_left h]
  simp only [genB, Bool.and_eq_true, List.all_eq_true] at hB
  obtain ⟨⟨⟨⟨⟨hord, hdist⟩, hTs⟩, hsrc⟩, hcls⟩, hSs⟩ := hB
  have hdB : ∀ b, distO ((D.map (fun r => r b)).map (fun x => x.map (·.1))) = true := fun b => by
    have := hts b
    rw [List.map_map, show ((fun x : ORes => x.map (·.1)) ∘ fun r : Ids → ORes => r b) = (fun r => (r b).map (·.1)) from rfl, this]; exact hdist
  have hlen : ∀ i o, l[i]? = some o → ∃ r, D[i]? = some r := fun i o hi => by
    obtain ⟨_, _, r, _, _, _, h, _⟩ := hops.at i o hi
    exact ⟨r, h⟩
  have hT : ∀ x ∈ xs, x.T.Nodup ∧ (∀ y ∈ x.T, y < l.length) ∧ ∀ (j : Nat) u v, x.T[j]? = some u → x.T[j + 1]? = some v → u ∈ reqF l f v := fun x hx => by
    have := hTs x.T (List.mem_map.2 ⟨x, hx, rfl⟩)
    obtain ⟨⟨h1, h2⟩, h3⟩ := this
    refine ⟨distB_spec _ h1, fun y hy => by simpa using h2 y hy, fun j u v hu hv => ?_⟩
    have := h3 (u, v) (by
      rw [List.mem_iff_getElem?]
      refine ⟨j, ?_⟩
      rw [List.getElem?_zip_eq_some]
      exact ⟨hu, by rw [List.getElem?_drop, Nat.add_comm]; exact hv⟩)
    exact memB_iff.1 this
  refine SCode.drawAny hm hord (fun L st' => ∃ b, (⟨n, pickO L 0 (D.map (fun r => r b)) s, base ++ chnH L b xs⟩ : St).Le st') ?_ ?_ ?_
  · refine ⟨fun _ => 0, ?_⟩
    rw [pickO_false]
    refine ⟨rfl, fun t d h => .inl h, H, ?_, .refl _⟩
    have e : chnH (fun _ => false) (fun _ => 0) xs = (xs.map (fun x => x.X (fun _ => 0) 0)).flatten := by
      unfold chnH Chn.at
      congr 1
      refine List.map_congr_left (fun x _ => ?_)
      rw [show cntL (fun _ => false) x.T = 0 by simp [cntL]]
    show (base ++ chnH (fun _ => false) (fun _ => 0) xs).Perm H
    rw [e]; exact hH _
  · intro L st' i o hi hLi hinv haft hbef hcl
    obtain ⟨b, hle⟩ := hinv
    have hil := (List.getElem?_eq_some_iff.1 hi).1
    obtain ⟨ss, cl, r, nd, h1, h2, h3, h4, h5, h6⟩ := hops.at i o hi
    have hreq : ∀ x ∈ reqF l f i, L x = true := fun x hx => by
      cases f with
      | zero => simp [reqF] at hx
      | succ f =>
        simp only [reqF, hi] at hx
        rcases List.mem_append.1 hx with hx | hx
        · exact haft x (by simpa using (List.mem_filter.1 hx).2)
        · obtain ⟨js, hjs, hjx⟩ := List.mem_flatten.1 hx
          obtain ⟨y, hy, rfl⟩ := List.mem_map.1 hjs
          exact reqF_spec hcl f y (haft y (by simpa using (List.mem_filter.1 hy).2)) x hjx
    refine SOps.weaken hle ?_
    have hneed : ∀ t d, getL (nd b) t = some d → getL (pickO L 0 (D.map (fun r => r b)) s) t = some d := by
      have hn := h4 b
      simp only [List.reverse_nil, List.nil_append] at hn
      have hchk := hsrc (o, i) (by rw [List.mem_iff_getElem?]; exact ⟨i, by simp [List.getElem?_zipIdx, hi]⟩)
      simp only [h1, List.all_eq_true] at hchk
      rw [← hn]
      have key : ∀ (ss : List (Nat ⊕ Nat)), (∀ x ∈ ss, srcO l ts i o x = true) → ∀ t d, getL (needO (D.map (fun r => r b)) s ss) t = some d → getL (pickO L 0 (D.map (fun r => r b)) s) t = some d := by
        intro ss
        induction ss with
        | nil => intro _ t d h; simp [needO, getL] at h
        | cons x ss ih =>
          intro hx t d h
          have ih' := ih (fun y hy => hx y (List.mem_cons_of_mem _ hy)) t d
          have hx0 := hx x (List.mem_cons_self ..)
          cases x with
          | inl j =>
            simp only [srcO] at hx0
            simp only [needO] at h
            split at h
            · rename_i q hq
              rw [getL_cons] at h
              split at h
              · rename_i e
                subst e
                obtain rfl := Option.some.inj h
                exact pickO_some _ 0 j s q (hdB b) hq (by simpa using haft j hx0)
              · exact ih' h
            · exact ih' h
          | inr u =>
            simp only [srcO, List.all_eq_true] at hx0
            simp only [needO] at h
            split at h
            · rename_i q hq
              rw [getL_cons] at h
              split at h
              · rename_i e
                simp only at e
                subst e
                obtain rfl := Option.some.inj h
                rw [pickO_none _ 0 s (fun k p hk hp => ?_)]
                · exact hq
                · have h4 := hx0 (some p.1, k) (by
                    rw [List.mem_iff_getElem?]
                    refine ⟨k, ?_⟩
                    rw [← hts b, List.getElem?_zipIdx]
                    simp only [List.getElem?_map] at hk ⊢
                    cases hD : D[k]? with
                    | none => rw [hD] at hk; simp at hk
                    | some rr => rw [hD] at hk; simp at hk; simp [hk])
                  simp only [hp, BEq.rfl, Bool.not_true, Bool.false_or, Bool.or_eq_true] at h4
                  rw [Nat.zero_add]
                  rcases h4 with h4 | h4
                  · rw [Nat.eq_of_beq_eq_true h4]; exact hLi
                  · unfold nthB at h4
                    split at h4
                    · rename_i o' ho'
                      exact hbef k o' ho' h4
                    · cases h4
              · exact ih' h
            · exact ih' h
      exact key ss hchk
    have hnl : ∀ t, getL (nd b ++ pickO L 0 (D.map (fun r => r b)) s) t = getL (pickO L 0 (D.map (fun r => r b)) s) t := by
      intro t
      have : ∀ (nd : List (Nat × DV)), (∀ d, getL nd t = some d → getL (pickO L 0 (D.map (fun r => r b)) s) t = some d) → getL (nd ++ pickO L 0 (D.map (fun r => r b)) s) t = getL (pickO L 0 (D.map (fun r => r b)) s) t := by
        intro nd
        induction nd with
        | nil => intro _; rfl
        | cons q nd ih =>
          intro h
          rw [List.cons_append, getL_cons]
          split
          · rename_i e
            exact (h q.2 (by rw [getL_cons, if_pos e])).symm
          · rename_i e
            exact ih (fun d hd => h d (by rw [getL_cons, if_neg e]; exact hd))
      exact this (nd b) (hneed t)
    have hDi : ∀ b, (D.map (fun r => r b))[i]? = some (r b) := fun b => by simp [h3]
    -- what is known of the slots behind the operation
    have hslots : ∀ b', (∀ k, k ≠ i → b' k = b k) → ∀ t d, getL (pickO (fun k => if k = i then true else L k) 0 (D.map (fun r => r b')) s) t = some d → getL ((r b').toList ++ (nd b ++ pickO L 0 (D.map (fun r => r b)) s)) t = some d := by
      intro b' hb' t d ht
      have hcase : (∃ p, r b' = some p ∧ p.1 = t) ∨ (∀ p, r b' = some p → p.1 ≠ t) := by
        cases hr : r b' with
        | none => exact .inr (fun p h => by cases h)
        | some p =>
          by_cases e : p.1 = t
          · exact .inl ⟨p, rfl, e⟩
          · exact .inr (fun q h => by cases h; exact e)
      rcases hcase with ⟨p, hp, e⟩ | hne
      · subst e
        rw [hp]
        simp only [Option.toList_some, List.singleton_append]
        rw [getL_cons, if_pos rfl]
        rw [pickO_some _ 0 i s p (hdB b') (by rw [hDi, hp]) (by simp)] at ht
        exact ht
      · have e1 : getL ((r b').toList ++ (nd b ++ pickO L 0 (D.map (fun r => r b)) s)) t = getL (nd b ++ pickO L 0 (D.map (fun r => r b)) s) t := by
          cases hr : r b' with
          | none => rfl
          | some p => simp only [Option.toList_some, List.singleton_append]; rw [getL_cons, if_neg (hne p hr)]
        rw [e1, hnl, ← ht]
        refine pickO_set _ _ 0 (by simp) (fun k hk hLk => ?_) (fun k p hk hki => ?_) (fun k p hk hki => ?_)
        · rw [Nat.zero_add] at hk hLk
          simp only [List.getElem?_map]
          cases hDk : D[k]? with
          | none => rfl
          | some rr =>
            simp only [Option.map_some]
            congr 1
            have hkl : k < l.length := by
              rcases Nat.lt_or_ge k l.length with h | h
              · exact h
              · exfalso
                have hlt := (List.getElem?_eq_some_iff.1 hDk).1
                omega
            have hSk := hSs (l[k], k) (by rw [List.mem_iff_getElem?]; exact ⟨k, by simp [List.getElem?_zipIdx, hkl]⟩)
            cases hS' : Ss[k]? with
            | none => rw [hS'] at hSk; cases hSk
            | some S =>
              rw [hS'] at hSk
              simp only [List.all_eq_true, Bool.or_eq_true] at hSk
              refine hS k rr S hDk hS' b' b (fun u hu => hb' u (fun e => ?_))
              subst e
              rcases hSk u hu with h7 | h7
              · exact hk (Nat.eq_of_beq_eq_true h7).symm
              · rw [hcl k _ u (List.getElem?_eq_getElem hkl) hLk h7] at hLi; cases hLi
        · have : k = i := by omega
          subst this
          rw [hDi] at hk
          exact hne p (Option.some.inj hk)
        · have : k = i := by omega
          subst this
          have hb1 := hts b
          have hb2 := hts b'
          have := congrArg (fun x => x[k]?) (hb1.trans hb2.symm)
          simp only [List.getElem?_map, h3, Option.map_some, Option.some.injEq] at this
          rw [hDi] at hk
          rw [Option.some.inj hk] at this
          simp only [Option.map_some] at this
          obtain ⟨q, hq, e⟩ := Option.map_eq_some_iff.1 this.symm
          rw [← e]
          exact hne q hq
    have hci := hcls i (List.mem_range.2 hil)
    rw [h2] at hci
    cases cl with
    | none =>
      simp only [List.all_eq_true] at hci
      have hsame : ∀ x ∈ xs, Chn.at (fun k => if k = i then true else L k) b x = Chn.at L b x := fun x hx => by
        unfold Chn.at
        rw [cnt_set hLi x.T (hT x hx).1]
        have := hci x.T (List.mem_map.2 ⟨x, hx, rfl⟩)
        rw [if_neg (fun hm => by rw [memB_iff.2 hm] at this; cases this), Nat.add_zero]
      refine SOps.weaken (st' := ⟨n, nd b ++ pickO L 0 (D.map (fun r => r b)) s, base ++ chnH L b xs⟩) ⟨rfl, fun t d ht => .inl ((hnl t).symm.trans ht), _, .refl _, .refl _⟩ ((h5 rfl b (pickO L 0 (D.map (fun r => r b)) s) (chnH L b xs)).mono ?_)
      rintro st2 rfl
      exact ⟨b, rfl, fun t d ht => .inl (hslots b (fun _ _ => rfl) t d ht), _, by rw [chnH_congr hsame], .refl _⟩
    | some mc =>
      obtain ⟨m, c⟩ := mc
      obtain ⟨x, hx, hc, hstep⟩ := h6 m c rfl
      simp only [List.length_nil, Nat.zero_add] at hc hstep
      simp only [List.all_eq_true] at hci
      have hxm := List.mem_of_getElem? hx
      obtain ⟨t1, t2, t3⟩ := hT x hxm
      have hpre := cnt_prefix (L := L) x.T (fun j u v hu hv hLv => reqF_spec hcl f v hLv u (t3 j u v hu hv))
      have hcnt : cntL L x.T = c := by
        have h7 := hpre c i hc
        have h8 : ¬ c < cntL L x.T := fun h => by rw [h7.2 h] at hLi; cases hLi
        rcases Nat.eq_zero_or_pos c with h0 | h0
        · omega
        · have hlt := (List.getElem?_eq_some_iff.1 hc).1
          have h9 := t3 (c - 1) _ i (List.getElem?_eq_getElem (by omega)) (by rw [show c - 1 + 1 = c by omega]; exact hc)
          have := (hpre (c - 1) _ (List.getElem?_eq_getElem (by omega))).1 (hreq _ h9)
          omega
      have hmem : i ∈ x.T := List.mem_of_getElem? hc
      have hnot : ∀ j y, j ≠ m → xs[j]? = some y → i ∉ y.T := fun j y hj hy hm => by
        have := hci (y.T, j) (by
          rw [List.mem_iff_getElem?]
          exact ⟨j, by rw [List.getElem?_zipIdx, List.getElem?_map, hy]; simp⟩)
        simp only [Bool.or_eq_true] at this
        rcases this with h | h
        · exact hj (Nat.eq_of_beq_eq_true h)
        · rw [memB_iff.2 hm] at h; cases h
      have hat : Chn.at L b x = x.X b c := by unfold Chn.at; rw [hcnt]
      have hp := chnH_out (L := L) (b := b) hx
      rw [hat] at hp
      refine SOps.weaken (st' := ⟨n, nd b ++ pickO L 0 (D.map (fun r => r b)) s, base ++ (x.X b c ++ chnH L b (xs.eraseIdx m))⟩) ⟨rfl, fun t d ht => .inl ((hnl t).symm.trans ht), _, List.Perm.append_left _ hp.symm, .refl _⟩ ((hstep b (pickO L 0 (D.map (fun r => r b)) s) (chnH L b (xs.eraseIdx m))).mono ?_)
      rintro st2 ⟨b', hb', hle2⟩
      refine ⟨b', hle2.n, fun t d ht => ?_, ?_⟩
      · exact hle2.slots t d (hslots b' hb' t d ht)
      · obtain ⟨l2, p1, p2⟩ := hle2.heap
        refine ⟨l2, ?_, p2⟩
        refine List.Perm.trans ?_ p1
        have hp' := chnH_out (L := fun k => if k = i then true else L k) (b := b') hx
        have hat' : Chn.at (fun k => if k = i then true else L k) b' x = x.X b' (c + 1) := by
          unfold Chn.at
          rw [cnt_set hLi x.T t1, if_pos hmem, hcnt]
        have hrest : chnH (fun k => if k = i then true else L k) b' (xs.eraseIdx m) = chnH L b (xs.eraseIdx m) := chnH_congr (fun y hy => by
          obtain ⟨j, hj, hyj⟩ := mem_eraseIdx_ne hy
          have hni := hnot j y hj hyj
          have hym := List.mem_of_getElem? hyj
          unfold Chn.at
          rw [cnt_set hLi y.T (hT y hym).1, if_neg hni, Nat.add_zero]
          exact hX y hym b' b (fun k hk => hb' k (fun e => hni (e ▸ hk))) _)
        rw [hat', hrest] at hp'
        exact List.Perm.append_left _ hp'
  · intro L st' hall hinv
    obtain ⟨b, hle⟩ := hinv
    have e : chnH L b xs = (xs.map (fun x => x.X b x.T.length)).flatten := by
      unfold chnH Chn.at
      congr 1
      refine List.map_congr_left (fun x hx => ?_)
      have : cntL L x.T = x.T.length := by
        unfold cntL
        rw [List.filter_eq_self.2 (fun y hy => hall y ((hT x hx).2.1 y hy))]
      rw [this]
    rw [pickO_all _ 0 (fun k _ hk => hall k (by simp at hk; omega)), e] at hle
    exact ⟨_, hle, hQ b⟩
theorem SCode.drawG {C : Ctx} {id : Nat} {l : List Oper} {n : Nat} {s : List (Nat × DV)} {H : DHeap} {Q : Exit → St → Prop} {D : List (Ids → ORes)} (f : Nat) (ts : List (Option Nat)) (srcs : List (List (Nat ⊕ Nat))) (Ts : List (List Nat)) (cls : List (Option (Nat × Nat))) (Ss : List (List Nat)) (base : DHeap) (xs : List Chn) (hm : C.P.follows .mixedOrders = true)
    (hB : genB l ts srcs Ts cls Ss f = true) (hT : xs.map (·.T) = Ts) (hH : ∀ b, (base ++ (xs.map (fun x => x.X b 0)).flatten).Perm H)
    (hops : GOk C l.toArray n base s xs [] l srcs cls Ss D) (hts : ∀ b, D.map (fun r => (r b).map (·.1)) = ts)
    (hQ : ∀ b, Q .normal ⟨n, resO (D.map (fun r => r b)) ++ s, base ++ (xs.map (fun x => x.X b x.T.length)).flatten⟩) : SCode C (.region id l.toArray true) ⟨n, s, H⟩ Q :=
  SCode.drawGen hm f ts srcs cls Ss base xs (by rw [hT]; exact hB) hH hops hts hQ
theorem GOk.rd {C : Ctx} {ops : Array Oper} {n : Nat} {base : DHeap} {s : List (Nat × DV)} {xs : List Chn} {D E : List (Ids → ORes)} {o : Oper} {os : List Oper} {ss : List (Nat ⊕ Nat)} {sss : List (List (Nat ⊕ Nat))} {cls : List (Option (Nat × Nat))} {Ss : List (List Nat)} (t : Nat) (d : DV) {nd : Ids → List (Nat × DV)} (hj : inlB D.length ss = true) (hn : ∀ b, NeedG D s b ss (nd b))
    (h : ∀ b rest ext, SOps C ops [o] ⟨n, nd b ++ rest, base ++ ext⟩ (fun st' => st' = ⟨n, (t, d) :: (nd b ++ rest), base ++ ext⟩)) (k : GOk C ops n base s xs ((fun _ => some (t, d)) :: D) os sss cls Ss E) :
    GOk C ops n base s xs D (o :: os) (ss :: sss) (none :: cls) ([] :: Ss) ((fun _ => some (t, d)) :: E) :=
  GOk.pure [] (fun _ => some (t, d)) hj hn h k
end Go.GH
namespace Go.GH
open Go Go.Proofs
variable {E : Env}

structure Bx where
  word : ByteArray
  pts : List Int
structure Ln where
  words : List ByteArray
  hyph : Bool
def encBx (b : Bx) : List DV := [.v (.string b.word), DInts b.pts]
abbrev DBxs (l : List Bx) : DV := .isl false 2 (l.map encBx)
def encLn (l : Ln) : List DV := [DStrs l.words, .v (.bool l.hyph)]
abbrev DLns (l : List Ln) : DV := .isl false 2 (l.map encLn)
def spnl : ByteArray := ⟨#[32, 10]⟩
theorem arg2 {w : World} {F : Nat → Prop} {vs : Array Value} {x y : Value} (hl : vs.size = 2) (hr : ∀ (j : Nat) (v : Value) (d : DV), vs[j]? = some v → [DV.v x, DV.v y][j]? = some d → Rep w F v d) : vs = #[x, y] ∧ scal x ∧ scal y := by
  have h0 := hr 0 vs[0] (.v x) (Array.getElem?_eq_getElem (by omega)) rfl
  have h1 := hr 1 vs[1] (.v y) (Array.getElem?_eq_getElem (by omega)) rfl
  refine ⟨?_, h0.inv_v.2, h1.inv_v.2⟩
  apply Array.ext
  · simpa using hl
  · intro i k1 k2
    rcases (show i = 0 ∨ i = 1 by omega) with rfl | rfl
    · exact h0.inv_v.1
    · exact h1.inv_v.1
theorem sIndexAnyLong (s : ByteArray) (h8 : 8 < s.size) (hs : s.size ≤ 1048576) : GCall Tryd.prog E 71 [.v (.string s), .v (.string spnl)] [] (fun d H => d = .v (.int .i64 (Lib.indexAny s.data.toList spnl.data.toList)) ∧ H = []) :=
  GCall.ofCalls (by kernel_rfl) (by
    have h1 := Lib.indexAny_ge spnl.data.toList s.data.toList
    have h2 : Lib.indexAny s.data.toList spnl.data.toList ≤ s.data.toList.length := by
      have key : ∀ l : List UInt8, Lib.indexAny l spnl.data.toList ≤ l.length := by
        intro l
        induction l with
        | nil => decide
        | cons b l ih =>
          rw [Lib.indexAny, List.length_cons]
          split
          · omega
          · split
            · omega
            · omega
      exact key _
    have h3 : s.data.toList.length = s.size := by simp
    show IntKind.i64.has _
    exact has_i64 (by omega) (by omega)) (fun w F vs hE hl hr => by
    obtain ⟨rfl, _, _⟩ := arg2 hl hr
    have hz := zero_of_info (P := Tryd.prog) (t := Tryd.laysAny_ren.t 116) (v := .agg (Array.replicate 256 (.bool false))) (n := 256) (by kernel_rfl)
    refine (Any.strings_IndexAny_long Tryd.laysAny hz.1 hz.2 s spnl w (by decide) h8 (by omega) (by decide) ?_).mono fun e w' ⟨h1, h2⟩ => ⟨h1, ?_⟩
    · intro j b hb
      have : b ∈ spnl.data.toList := List.mem_of_getElem? hb
      simp only [spnl, List.mem_cons, List.not_mem_nil, or_false] at this
      rcases this with rfl | rfl <;> decide
    · rw [h2]
      exact ((RowKit.Below.refl _ _).alloc (Nat.le_refl _) _).alloc (by simp) _)
theorem sIndexRuneAscii (r : Int) (h0 : 0 ≤ r) (h1 : r < 128) : GCall Tryd.prog E 72 [.v (.string spnl), .v (.int .i32 r)] [] (fun d H => d = .v (.int .i64 (Lib.indexByte spnl.data.toList r.toNat.toUInt8)) ∧ H = []) := by
  have hv : scal (.int .i64 (Lib.indexByte spnl.data.toList r.toNat.toUInt8)) := by
    show IntKind.i64.has _
    have key : ∀ (x : UInt8), Lib.indexByte spnl.data.toList x = -1 ∨ Lib.indexByte spnl.data.toList x = 0 ∨ Lib.indexByte spnl.data.toList x = 1 := by
      intro x
      simp only [spnl, Lib.indexByte]
      split
      · simp
      · split
        · simp
        · simp
    rcases key r.toNat.toUInt8 with h | h | h <;> rw [h] <;> exact has_i64 (by decide) (by decide)
  exact GCall.ofCalls (by kernel_rfl) hv (fun w F vs hE hl hr => by
    obtain ⟨rfl, _, _⟩ := arg2 hl hr
    exact (Any.strings_IndexRune_ascii { Tryd.laysAny with } spnl r w h0 h1).mono fun e w' ⟨h1, h2⟩ => ⟨h1, h2 ▸ RowKit.Below.refl _ _⟩)
end Go.GH
namespace Go.GH
open Go Go.Lib

theorem utf8R_encs : ∀ {rs : List Int}, (∀ r ∈ rs, Utf8.valid r = true) → utf8R (encs rs) = true
  | [], _ => rfl
  | r :: rs, h => by
    have hv := h r (List.mem_cons_self ..)
    have ih := utf8R_encs (fun x hx => h x (List.mem_cons_of_mem _ hx))
    rw [utf8R_valid] at ih ⊢
    have hd := decodeL_drop (encs (r :: rs)) 0
    rw [List.drop_zero] at hd
    have hdec : Utf8.decode (encs (r :: rs)) 0 = (r.toNat, (Utf8.encode r).size) := decode_encode hv (encs rs)
    rw [hdec] at hd
    have hp := encode_pos r
    have hdata : (encs (r :: rs)).data.toList = (Utf8.encode r).data.toList ++ (encs rs).data.toList := by
      rw [show encs (r :: rs) = Utf8.encode r ++ encs rs from rfl, data_app2]
    have hlen : (Utf8.encode r).data.toList.length = (Utf8.encode r).size := by simp
    have hne : (encs (r :: rs)).data.toList ≠ [] := by
      intro h0
      rw [hdata] at h0
      have := congrArg List.length h0
      simp only [List.length_append, List.length_nil] at this
      omega
    rw [validD_step _ hne, hd]
    have hno : ¬ (r.toNat = 65533 ∧ (Utf8.encode r).size = 1) := by
      rintro ⟨h1, h2⟩
      have hr : r = 65533 := by
        simp only [Utf8.valid, Bool.or_eq_true, Bool.and_eq_true, decide_eq_true_eq] at hv
        omega
      subst hr
      have h3 : (Utf8.encode 65533).size = 3 := by decide
      omega
    rw [if_neg hno, hdata, List.drop_left' hlen]
    exact ih
theorem utf8R_iff (s : ByteArray) : utf8R s = true ↔ encs (runes s) = s :=
  ⟨encs_runes, fun h => by rw [← h]; exact utf8R_encs (fun r hr => runes_valid hr)⟩
def isSp (r : Int) : Bool := r == 32 || r == 10
def anySp (s : ByteArray) : Bool := (runes s).any isSp
def wordB (s : ByteArray) : Bool := decide (s ≠ ⟨#[]⟩) && utf8R s && !anySp s
def spB (b : UInt8) : Bool := b == 32 || b == 10
theorem toNat_ofNat {n : Nat} (h : n < 256) : (UInt8.ofNat n).toNat = n := by simp [UInt8.toNat_ofNat']; omega
theorem spB_of {n : Nat} (h : n < 256) : spB (UInt8.ofNat n) = (n == 32 || n == 10) := by
  have key : ∀ m : Fin 256, spB (UInt8.ofNat m.val) = (m.val == 32 || m.val == 10) := by decide +kernel
  exact key ⟨n, h⟩
theorem big_sp {n : Nat} (h1 : 128 ≤ n) (h2 : n < 256) : spB (UInt8.ofNat n) = false := by
  rw [spB_of h2]; simp; omega
theorem encL_1 {c : Nat} (hv : Utf8.valid (c : Int) = true) (h : c < 128) : encBy (c : Int) = [UInt8.ofNat c] := by rw [encBy, enc_1 hv h]
theorem encL_2 {c : Nat} (hv : Utf8.valid (c : Int) = true) (h0 : 128 ≤ c) (h : c < 2048) : encBy (c : Int) = [UInt8.ofNat (192 + c / 64), UInt8.ofNat (128 + c % 64)] := by rw [encBy, enc_2 hv h0 h]
theorem encL_3 {c : Nat} (hv : Utf8.valid (c : Int) = true) (h0 : 2048 ≤ c) (h : c < 65536) : encBy (c : Int) = [UInt8.ofNat (224 + c / 4096), UInt8.ofNat (128 + c / 64 % 64), UInt8.ofNat (128 + c % 64)] := by rw [encBy, enc_3 hv h0 h]
theorem encL_4 {c : Nat} (hv : Utf8.valid (c : Int) = true) (h0 : 65536 ≤ c) : encBy (c : Int) = [UInt8.ofNat (240 + c / 262144), UInt8.ofNat (128 + c / 4096 % 64), UInt8.ofNat (128 + c / 64 % 64), UInt8.ofNat (128 + c % 64)] := by rw [encBy, enc_4 hv h0]
theorem any2 {a b : UInt8} (h1 : spB a = false) (h2 : spB b = false) : [a, b].any spB = false := by simp [h1, h2]
theorem any3 {a b c : UInt8} (h1 : spB a = false) (h2 : spB b = false) (h3 : spB c = false) : [a, b, c].any spB = false := by simp [h1, h2, h3]
theorem any4 {a b c d : UInt8} (h1 : spB a = false) (h2 : spB b = false) (h3 : spB c = false) (h4 : spB d = false) : [a, b, c, d].any spB = false := by simp [h1, h2, h3, h4]
theorem isSp_nat (c : Nat) : isSp (c : Int) = (c == 32 || c == 10) := by
  rw [Bool.eq_iff_iff]; simp only [isSp, Bool.or_eq_true, beq_iff_eq]; omega
theorem isSp_big {c : Nat} (h : 128 ≤ c) : isSp (c : Int) = false := by rw [isSp_nat]; simp; omega
theorem enc_sp {r : Int} (hv : Utf8.valid r = true) : (encBy r).any spB = isSp r := by
  obtain ⟨c, rfl, hc⟩ := valid_cases hv
  rcases Nat.lt_or_ge c 128 with h1 | h1
  · rw [encL_1 hv h1, isSp_nat, ← spB_of (show c < 256 by omega), List.any_cons, List.any_nil, Bool.or_false]
  · rw [isSp_big h1]
    rcases Nat.lt_or_ge c 2048 with h2 | h2
    · rw [encL_2 hv h1 h2]
      exact any2 (big_sp (by omega) (by omega)) (big_sp (by omega) (by omega))
    · rcases Nat.lt_or_ge c 65536 with h3 | h3
      · rw [encL_3 hv h2 h3]
        exact any3 (big_sp (by omega) (by omega)) (big_sp (by omega) (by omega)) (big_sp (by omega) (by omega))
      · rw [encL_4 hv h3]
        exact any4 (big_sp (by omega) (by omega)) (big_sp (by omega) (by omega)) (big_sp (by omega) (by omega)) (big_sp (by omega) (by omega))
theorem encs_sp : ∀ {rs : List Int}, (∀ r ∈ rs, Utf8.valid r = true) → (encs rs).data.toList.any spB = rs.any isSp
  | [], _ => rfl
  | r :: rs, h => by
    rw [encs_cons_data, List.any_append, enc_sp (h r (List.mem_cons_self ..)), encs_sp (fun x hx => h x (List.mem_cons_of_mem _ hx)), List.any_cons]
theorem bytes_sp {s : ByteArray} (h : utf8R s = true) : s.data.toList.any spB = anySp s := by
  have := encs_sp (rs := runes s) (fun r hr => runes_valid hr)
  rw [encs_runes h] at this
  exact this
theorem spnl_contains (b : UInt8) : spnl.data.toList.contains b = spB b := by
  rw [Bool.eq_iff_iff]; simp [spnl, spB]
theorem indexAny_sp : ∀ l : List UInt8, decide (0 ≤ Lib.indexAny l spnl.data.toList) = l.any spB
  | [] => rfl
  | b :: l => by
    have ih := indexAny_sp l
    rw [Lib.indexAny, List.any_cons, ← ih]
    have hc := spnl_contains b
    by_cases hb : spB b = true
    · rw [if_pos (by rw [hc, hb]), hb]; rfl
    · rw [if_neg (by rw [hc]; exact hb)]
      simp only [Bool.not_eq_true] at hb
      rw [hb, Bool.false_or]
      by_cases h1 : (Lib.indexAny l spnl.data.toList == -1) = true
      · rw [if_pos h1, beq_iff_eq.1 h1]
      · rw [if_neg h1]
        have h2 := Lib.indexAny_ge spnl.data.toList l
        have h3 : ¬ Lib.indexAny l spnl.data.toList = -1 := fun e => h1 (by rw [e]; rfl)
        exact decide_eq_decide.2 (by omega)
theorem any_long {s : ByteArray} (h : utf8R s = true) : decide (0 ≤ Lib.indexAny s.data.toList spnl.data.toList) = anySp s := by
  rw [indexAny_sp, bytes_sp h]
theorem indexByte_sp {r : Int} (h0 : 0 ≤ r) (h1 : r < 128) : decide (0 ≤ Lib.indexByte spnl.data.toList r.toNat.toUInt8) = isSp r := by
  have key : ∀ m : Fin 128, decide (0 ≤ Lib.indexByte spnl.data.toList (m.val).toUInt8) = (m.val == 32 || m.val == 10) := by decide +kernel
  have h2 := key ⟨r.toNat, by omega⟩
  dsimp only at h2
  rw [h2, Bool.eq_iff_iff]
  simp only [isSp, Bool.or_eq_true, beq_iff_eq]
  omega
end Go.GH
namespace Go.GH
open Go Go.Lib
def findI {α : Type} (q : α → Bool) (l : List α) : Int := match l.findIdx? q with
  | none => -1
  | some n => (n : Int)
theorem findI_at {α : Type} {q : α → Bool} {l : List α} {i : Nat} (h : ∀ x ∈ l.take i, q x = false) (hi : i < l.length) (hq : q (l[i]) = true) : findI q l = (i : Int) := by
  have : l.findIdx? q = some i := by
    rw [List.findIdx?_eq_some_iff_getElem]
    refine ⟨hi, hq, fun j hj => ?_⟩
    have hm : l[j] ∈ l.take i := List.mem_iff_getElem.2 ⟨j, by simp; omega, by simp⟩
    rw [h _ hm]; simp
  unfold findI; rw [this]
theorem findI_none {α : Type} {q : α → Bool} {l : List α} (h : ∀ x ∈ l, q x = false) : findI q l = -1 := by
  have : l.findIdx? q = none := by
    rw [List.findIdx?_eq_none_iff]
    exact h
  unfold findI; rw [this]
theorem findI_nonneg {α : Type} {q : α → Bool} {l : List α} : decide (0 ≤ findI q l) = l.any q := by
  unfold findI
  cases h : l.findIdx? q with
  | none =>
    rw [List.findIdx?_eq_none_iff] at h
    rw [List.any_eq_false.2 (fun x hx => by rw [h x hx]; simp)]; rfl
  | some n =>
    rw [List.findIdx?_eq_some_iff_getElem] at h
    obtain ⟨h1, h2, _⟩ := h
    rw [List.any_eq_true.2 ⟨_, List.getElem_mem h1, h2⟩]
    exact decide_eq_true (by show (0 : Int) ≤ (n : Int); omega)
def wideB (w : Int) : Bool := decide (1 ≤ w) && decide (w ≤ 200)
def penB (p : Int) : Bool := decide (0 ≤ p) && decide (p ≤ 1000000)
def wlen (s : ByteArray) : Nat := (runes s).length
def ptB (n : Nat) (l : List Int) (i : Nat) : Bool := decide (1 ≤ l.getD i 0) && decide (l.getD i 0 < n) && (decide (i = 0) || decide (l.getD (i - 1) 0 < l.getD i 0))
def ptsB (n : Nat) (l : List Int) : Bool := (List.range l.length).all (ptB n l)
def boxB (b : Bx) : Bool := wordB b.word && decide (wlen b.word ≤ 200) && ptsB (wlen b.word) b.pts
def boxesB (l : List Bx) : Bool := decide (l.length ≤ 200) && l.all boxB
def validL (l : List Bx) (w : Int) : Bool := wideB w && boxesB l
theorem getD_int {l : List Int} {i : Nat} (h : i < l.length) : l.getD i 0 = l[i] := by
  rw [List.getD_eq_getElem?_getD, List.getElem?_eq_getElem h]; rfl
theorem ptB_at {n : Nat} {l : List Int} {i : Nat} (h : i < l.length) : ptB n l i = true ↔ 1 ≤ l[i] ∧ l[i] < n ∧ (i = 0 ∨ ∃ (h2 : i - 1 < l.length), l[i - 1] < l[i]) := by
  unfold ptB
  rw [getD_int h]
  simp only [Bool.and_eq_true, Bool.or_eq_true, decide_eq_true_eq, and_assoc]
  have h2 : i - 1 < l.length := by omega
  rw [getD_int h2]
  exact ⟨fun ⟨a, b, c⟩ => ⟨a, b, c.imp_right (fun x => ⟨h2, x⟩)⟩, fun ⟨a, b, c⟩ => ⟨a, b, c.imp_right (fun ⟨_, x⟩ => x)⟩⟩
theorem ptsB_take {n : Nat} {l : List Int} : ptsB n l = true ↔ ∀ i, i < l.length → ptB n l i = true := by
  unfold ptsB
  rw [List.all_eq_true]
  exact ⟨fun h i hi => h i (List.mem_range.2 hi), fun h i hi => h i (List.mem_range.1 hi)⟩
theorem boxB_iff {b : Bx} : boxB b = true ↔ wordB b.word = true ∧ wlen b.word ≤ 200 ∧ ∀ i, i < b.pts.length → ptB (wlen b.word) b.pts i = true := by
  rw [boxB, Bool.and_eq_true, Bool.and_eq_true, decide_eq_true_eq, ptsB_take, and_assoc]
theorem pts_step {n : Nat} {l : List Int} {i : Nat} (hf : ∀ j, j < i → ptB n l j = true) (hi : i < l.length) (h1 : 1 ≤ l[i]) (h2 : l[i] < n) (h3 : i = 0 ∨ ∃ (h2 : i - 1 < l.length), l[i - 1] < l[i]) : ∀ j, j < i + 1 → ptB n l j = true := fun j hj => by
  rcases Nat.lt_or_ge j i with h | h
  · exact hf j h
  · obtain rfl : j = i := by omega
    exact (ptB_at hi).2 ⟨h1, h2, h3⟩
theorem boxesB_iff {l : List Bx} : boxesB l = true ↔ l.length ≤ 200 ∧ ∀ b ∈ l, boxB b = true := by
  rw [boxesB, Bool.and_eq_true, decide_eq_true_eq, List.all_eq_true]
end Go.GH
namespace Go.GH
open Go Go.Proofs
variable {E : Env}
theorem mixed_ : Tryd.prog.follows .mixedOrders = true := by kernel_rfl
theorem someB_21 : (Tryd.prog.underlying 21).isSome = true := by kernel_rfl
theorem strB_9 : strB Tryd.prog 9 = true := by kernel_rfl
def VS (E : Env) : Prop := ∀ s : ByteArray, GCall Tryd.prog E 67 [.v (.string s)] [] (fun d H => d = .v (.bool (utf8R s)) ∧ H = [])
theorem wideW (w : Int)  : GCall Tryd.prog E 45 [.v (.int .i64 w)] [] (fun d H => d = .v (.bool (wideB w)) ∧ H = []) := by
  refine GCall.body (C := ⟨Tryd.prog, E, true⟩) Tryd.func45 rfl (fun _ => rfl) (by kernel_rfl) rfl ?_
  refine SCode.seqR ?_
  refine SOps.assign rfl ?_
  refine SOps.nil ?_
  refine SCode.seqR ?_
  refine SOps.move rfl ?_
  refine SOps.bin rfl rfl rfl ?_
  refine SOps.move rfl ?_
  refine SOps.caseB 5 rfl (fun hb1 => ?_) (fun hb1 => ?_)
  · try simp only [decide_eq_true_eq, decide_eq_false_iff_not, Bool.not_eq_true', Bool.not_eq_false', beq_iff_eq, bne_iff_ne, ne_eq, beq_eq_false_iff_ne, bne_eq_false_iff_eq, Int.not_lt, Int.not_le, Nat.not_lt, Nat.not_le, Int.ofNat_lt, Int.ofNat_le, Bool.not_eq_eq_eq_not, Bool.not_true, Bool.not_false] at hb1
    refine SOps.move rfl ?_
    refine SOps.bin rfl rfl rfl ?_
    refine SOps.pick rfl rfl ?_
    refine SOps.assign rfl ?_
    refine SOps.nil ?_
    refine SCode.ret ?_
    exact ⟨_, Res.one (.tmp rfl), congrArg (fun b => DV.v (.bool b)) (by rw [Bool.eq_iff_iff]; simp only [wideB, Bool.and_eq_true, decide_eq_true_eq, Bool.false_eq_true, Bool.true_eq_false, beq_iff_eq]; first | omega | (simp; omega)), rfl⟩
  · try simp only [decide_eq_true_eq, decide_eq_false_iff_not, Bool.not_eq_true', Bool.not_eq_false', beq_iff_eq, bne_iff_ne, ne_eq, beq_eq_false_iff_ne, bne_eq_false_iff_eq, Int.not_lt, Int.not_le, Nat.not_lt, Nat.not_le, Int.ofNat_lt, Int.ofNat_le, Bool.not_eq_eq_eq_not, Bool.not_true, Bool.not_false] at hb1
    refine SOps.skip rfl ?_
    refine SOps.skip rfl ?_
    refine SOps.pick rfl rfl ?_
    refine SOps.assign rfl ?_
    refine SOps.nil ?_
    refine SCode.ret ?_
    exact ⟨_, Res.one (.tmp rfl), congrArg (fun b => DV.v (.bool b)) (by rw [Bool.eq_iff_iff]; simp only [wideB, Bool.and_eq_true, decide_eq_true_eq, Bool.false_eq_true, Bool.true_eq_false, beq_iff_eq]; first | omega | (simp; omega)), rfl⟩
theorem uRuneCount (s : ByteArray)  : GCall Tryd.prog E 61 [.v (.string s)] [] (fun d H => d = .v (.int .i64 ((wlen s : Nat) : Int)) ∧ H = []) := by
  refine GCall.body (C := ⟨Tryd.prog, E, true⟩) Tryd.func61 rfl (fun _ => rfl) (by kernel_rfl) rfl ?_
  refine SCode.seqR ?_
  refine SOps.assign rfl ?_
  refine SOps.nil ?_
  refine SCode.seq ?_
  refine SCode.seqR ?_
  refine SOps.move rfl ?_
  refine SOps.rangeStr rfl strB_9 (fun b0 hb_0 => ?_)
  refine SOps.nil ?_
  refine SCode.block ?_
  refine SCode.fact (v_scal (t := 0) rfl) (fun hS => ?_)
  simp only [scal, lenB] at hS
  refine SCode.loop3 (fun (p : Nat) (n : Nat) (b : Nat) => (⟨10, [(2, .v (.int .i64 (n : Int))), (4, .it b)], [(b, .iter s p)]⟩ : St)) (fun (p : Nat) (n : Nat) (b : Nat) => n ≤ p ∧ n + (runesAt s p).length = (runes s).length) (fun (p : Nat) (n : Nat) (b : Nat) => s.size - p) (0) (0) (b0) (by exact ⟨Nat.le_refl _, by rw [Nat.zero_add]; rfl⟩) (St.Le.of ⟨(by first | rfl | (show some _ = some _; simp)), (by first | rfl | (show some _ = some _; simp)), trivial⟩ rfl (by first | rfl | (simp))) ?_
  rintro p n b ⟨hn, hl⟩
  refine SCode.seqR ?_
  refine SOps.next 0 rfl rfl (fun hn1 => ?_) (fun hn1 => ?_) (by first | omega | (simp only [lenB]; omega))
  · refine SOps.extract rfl rfl ?_
    refine SOps.nil ?_
    refine SCode.seq ?_
    refine SCode.cond rfl (fun _ => ?_) (fun h => by cases h)
    refine SCode.skip ?_
    show SCode _ _ _ _
    refine SCode.block ?_
    refine SCode.region ?_
    refine SOps.move rfl ?_
    refine SOps.addI rfl rfl (by first | omega | (simp only [lenB]; omega)) (by first | omega | (simp only [lenB]; omega)) ?_
    refine SOps.assign rfl ?_
    refine SOps.nil ?_
    exact ⟨p + (Utf8.decode s p).2, n + 1, b, by exact ⟨by have := decode_w s p; omega, by rw [← hl, runes_len_step hn1]; omega⟩, by have := decode_w s p; omega, (St.Le.of ⟨(by first | rfl | (show some _ = some _; simp)), (by first | rfl | (show some _ = some _; simp)), trivial⟩ rfl (by first | rfl | (simp)))⟩
  · refine SOps.extract rfl rfl ?_
    refine SOps.nil ?_
    refine SCode.seq ?_
    refine SCode.cond rfl (fun h => by cases h) (fun _ => ?_)
    refine SCode.exit ?_
    show SCode _ _ _ _
    refine SCode.seqR ?_
    refine SOps.move rfl ?_
    refine SOps.assign rfl ?_
    refine SOps.nil ?_
    refine SCode.drop ?_
    refine SCode.ret ?_
    exact ⟨_, Res.one (.tmp rfl), by rw [wlen, ← hl, runesAt_ge (by omega)]; rfl, rfl⟩
theorem lRunes (s : ByteArray)  : GCall Tryd.prog E 27 [.v (.string s)] [] (fun d H => d = .v (.int .i64 ((wlen s : Nat) : Int)) ∧ H = []) := by
  refine GCall.body (C := ⟨Tryd.prog, E, true⟩) Tryd.func27 rfl (fun _ => rfl) (by kernel_rfl) rfl ?_
  refine SCode.seqR ?_
  refine SOps.assign rfl ?_
  refine SOps.nil ?_
  refine SCode.seqR ?_
  refine SOps.assign rfl ?_
  refine SOps.nil ?_
  refine SCode.seq ?_
  refine SCode.seqR ?_
  refine SOps.move rfl ?_
  refine SOps.rangeStr rfl strB_9 (fun b0 hb_0 => ?_)
  refine SOps.nil ?_
  refine SCode.block ?_
  refine SCode.fact (v_scal (t := 0) rfl) (fun hS => ?_)
  simp only [scal, lenB] at hS
  refine SCode.loop3 (fun (p : Nat) (n : Nat) (b : Nat) => (⟨11, [(3, .v (.int .i64 (n : Int))), (5, .it b)], [(b, .iter s p)]⟩ : St)) (fun (p : Nat) (n : Nat) (b : Nat) => n ≤ p ∧ n + (runesAt s p).length = (runes s).length) (fun (p : Nat) (n : Nat) (b : Nat) => s.size - p) (0) (0) (b0) (by exact ⟨Nat.le_refl _, by rw [Nat.zero_add]; rfl⟩) (St.Le.of ⟨(by first | rfl | (show some _ = some _; simp)), (by first | rfl | (show some _ = some _; simp)), trivial⟩ rfl (by first | rfl | (simp))) ?_
  rintro p n b ⟨hn, hl⟩
  refine SCode.seqR ?_
  refine SOps.next 0 rfl rfl (fun hn1 => ?_) (fun hn1 => ?_) (by first | omega | (simp only [lenB]; omega))
  · refine SOps.extract rfl rfl ?_
    refine SOps.nil ?_
    refine SCode.seq ?_
    refine SCode.cond rfl (fun _ => ?_) (fun h => by cases h)
    refine SCode.skip ?_
    show SCode _ _ _ _
    refine SCode.block ?_
    refine SCode.region ?_
    refine SOps.move rfl ?_
    refine SOps.addI rfl rfl (by first | omega | (simp only [lenB]; omega)) (by first | omega | (simp only [lenB]; omega)) ?_
    refine SOps.assign rfl ?_
    refine SOps.nil ?_
    exact ⟨p + (Utf8.decode s p).2, n + 1, b, by exact ⟨by have := decode_w s p; omega, by rw [← hl, runes_len_step hn1]; omega⟩, by have := decode_w s p; omega, (St.Le.of ⟨(by first | rfl | (show some _ = some _; simp)), (by first | rfl | (show some _ = some _; simp)), trivial⟩ rfl (by first | rfl | (simp)))⟩
  · refine SOps.extract rfl rfl ?_
    refine SOps.nil ?_
    refine SCode.seq ?_
    refine SCode.cond rfl (fun h => by cases h) (fun _ => ?_)
    refine SCode.exit ?_
    show SCode _ _ _ _
    refine SCode.seqR ?_
    refine SOps.move rfl ?_
    refine SOps.assign rfl ?_
    refine SOps.nil ?_
    refine SCode.drop ?_
    refine SCode.ret ?_
    exact ⟨_, Res.one (.tmp rfl), by rw [wlen, ← hl, runesAt_ge (by omega)]; rfl, rfl⟩
theorem uValidRune (r : Int)  : GCall Tryd.prog E 77 [.v (.int .i32 r)] [] (fun d H => d = .v (.bool (runeOK r)) ∧ H = []) := by
  refine GCall.body (C := ⟨Tryd.prog, E, true⟩) Tryd.func77 rfl (fun _ => rfl) (by kernel_rfl) rfl ?_
  refine SCode.seqR ?_
  refine SOps.assign rfl ?_
  refine SOps.nil ?_
  refine SCode.seq ?_
  refine SCode.block ?_
  refine SCode.seqR ?_
  refine SOps.move rfl ?_
  refine SOps.bin rfl rfl rfl ?_
  refine SOps.move rfl ?_
  refine SOps.caseB 6 rfl (fun hb1 => ?_) (fun hb1 => ?_)
  · try simp only [decide_eq_true_eq, decide_eq_false_iff_not, Bool.not_eq_true', Bool.not_eq_false', beq_iff_eq, bne_iff_ne, ne_eq, beq_eq_false_iff_ne, bne_eq_false_iff_eq, Int.not_lt, Int.not_le, Nat.not_lt, Nat.not_le, Int.ofNat_lt, Int.ofNat_le, Bool.not_eq_eq_eq_not, Bool.not_true, Bool.not_false] at hb1
    refine SOps.move rfl ?_
    refine SOps.bin rfl rfl rfl ?_
    refine SOps.pick rfl rfl ?_
    refine SOps.assign rfl ?_
    refine SOps.nil ?_
    refine SCode.cond rfl (fun hc2 => ?_) (fun hc2 => ?_)
    · try simp only [decide_eq_true_eq, decide_eq_false_iff_not, Bool.not_eq_true', Bool.not_eq_false', beq_iff_eq, bne_iff_ne, ne_eq, beq_eq_false_iff_ne, bne_eq_false_iff_eq, Int.not_lt, Int.not_le, Nat.not_lt, Nat.not_le, Int.ofNat_lt, Int.ofNat_le, Bool.not_eq_eq_eq_not, Bool.not_true, Bool.not_false] at hc2
      refine SCode.seqR ?_
      refine SOps.assign rfl ?_
      refine SOps.nil ?_
      refine SCode.ret ?_
      exact ⟨_, Res.one (.tmp rfl), congrArg (fun b => DV.v (.bool b)) (by rw [Bool.eq_iff_iff]; simp only [runeOK, decide_eq_true_eq, Bool.false_eq_true, Bool.true_eq_false, beq_iff_eq]; first | omega | (simp; omega)), rfl⟩
    · try simp only [decide_eq_true_eq, decide_eq_false_iff_not, Bool.not_eq_true', Bool.not_eq_false', beq_iff_eq, bne_iff_ne, ne_eq, beq_eq_false_iff_ne, bne_eq_false_iff_eq, Int.not_lt, Int.not_le, Nat.not_lt, Nat.not_le, Int.ofNat_lt, Int.ofNat_le, Bool.not_eq_eq_eq_not, Bool.not_true, Bool.not_false] at hc2
      refine SCode.seqR ?_
      refine SOps.move rfl ?_
      refine SOps.bin rfl rfl rfl ?_
      refine SOps.move rfl ?_
      refine SOps.caseB 13 rfl (fun hb3 => ?_) (fun hb3 => ?_)
      · try simp only [decide_eq_true_eq, decide_eq_false_iff_not, Bool.not_eq_true', Bool.not_eq_false', beq_iff_eq, bne_iff_ne, ne_eq, beq_eq_false_iff_ne, bne_eq_false_iff_eq, Int.not_lt, Int.not_le, Nat.not_lt, Nat.not_le, Int.ofNat_lt, Int.ofNat_le, Bool.not_eq_eq_eq_not, Bool.not_true, Bool.not_false] at hb3
        refine SOps.move rfl ?_
        refine SOps.bin rfl rfl rfl ?_
        refine SOps.pick rfl rfl ?_
        refine SOps.assign rfl ?_
        refine SOps.nil ?_
        refine SCode.cond rfl (fun hc4 => ?_) (fun hc4 => ?_)
        · try simp only [decide_eq_true_eq, decide_eq_false_iff_not, Bool.not_eq_true', Bool.not_eq_false', beq_iff_eq, bne_iff_ne, ne_eq, beq_eq_false_iff_ne, bne_eq_false_iff_eq, Int.not_lt, Int.not_le, Nat.not_lt, Nat.not_le, Int.ofNat_lt, Int.ofNat_le, Bool.not_eq_eq_eq_not, Bool.not_true, Bool.not_false] at hc4
          refine SCode.seqR ?_
          refine SOps.assign rfl ?_
          refine SOps.nil ?_
          refine SCode.ret ?_
          exact ⟨_, Res.one (.tmp rfl), congrArg (fun b => DV.v (.bool b)) (by rw [Bool.eq_iff_iff]; simp only [runeOK, decide_eq_true_eq, Bool.false_eq_true, Bool.true_eq_false, beq_iff_eq]; first | omega | (simp; omega)), rfl⟩
        · try simp only [decide_eq_true_eq, decide_eq_false_iff_not, Bool.not_eq_true', Bool.not_eq_false', beq_iff_eq, bne_iff_ne, ne_eq, beq_eq_false_iff_ne, bne_eq_false_iff_eq, Int.not_lt, Int.not_le, Nat.not_lt, Nat.not_le, Int.ofNat_lt, Int.ofNat_le, Bool.not_eq_eq_eq_not, Bool.not_true, Bool.not_false] at hc4
          refine SCode.skip ?_
          show SCode _ _ _ _
          refine SCode.seqR ?_
          refine SOps.assign rfl ?_
          refine SOps.nil ?_
          refine SCode.ret ?_
          exact ⟨_, Res.one (.tmp rfl), congrArg (fun b => DV.v (.bool b)) (by rw [Bool.eq_iff_iff]; simp only [runeOK, decide_eq_true_eq, Bool.false_eq_true, Bool.true_eq_false, beq_iff_eq]; first | omega | (simp; omega)), rfl⟩
      · try simp only [decide_eq_true_eq, decide_eq_false_iff_not, Bool.not_eq_true', Bool.not_eq_false', beq_iff_eq, bne_iff_ne, ne_eq, beq_eq_false_iff_ne, bne_eq_false_iff_eq, Int.not_lt, Int.not_le, Nat.not_lt, Nat.not_le, Int.ofNat_lt, Int.ofNat_le, Bool.not_eq_eq_eq_not, Bool.not_true, Bool.not_false] at hb3
        refine SOps.skip rfl ?_
        refine SOps.skip rfl ?_
        refine SOps.pick rfl rfl ?_
        refine SOps.assign rfl ?_
        refine SOps.nil ?_
        refine SCode.cond rfl (fun h => by cases h) (fun _ => ?_)
        refine SCode.skip ?_
        show SCode _ _ _ _
        refine SCode.seqR ?_
        refine SOps.assign rfl ?_
        refine SOps.nil ?_
        refine SCode.ret ?_
        exact ⟨_, Res.one (.tmp rfl), congrArg (fun b => DV.v (.bool b)) (by rw [Bool.eq_iff_iff]; simp only [runeOK, decide_eq_true_eq, Bool.false_eq_true, Bool.true_eq_false, beq_iff_eq]; first | omega | (simp; omega)), rfl⟩
  · try simp only [decide_eq_true_eq, decide_eq_false_iff_not, Bool.not_eq_true', Bool.not_eq_false', beq_iff_eq, bne_iff_ne, ne_eq, beq_eq_false_iff_ne, bne_eq_false_iff_eq, Int.not_lt, Int.not_le, Nat.not_lt, Nat.not_le, Int.ofNat_lt, Int.ofNat_le, Bool.not_eq_eq_eq_not, Bool.not_true, Bool.not_false] at hb1
    refine SOps.skip rfl ?_
    refine SOps.skip rfl ?_
    refine SOps.pick rfl rfl ?_
    refine SOps.assign rfl ?_
    refine SOps.nil ?_
    refine SCode.cond rfl (fun h => by cases h) (fun _ => ?_)
    refine SCode.seqR ?_
    refine SOps.move rfl ?_
    refine SOps.bin rfl rfl rfl ?_
    refine SOps.move rfl ?_
    refine SOps.caseB 13 rfl (fun hb5 => ?_) (fun hb5 => ?_)
    · try simp only [decide_eq_true_eq, decide_eq_false_iff_not, Bool.not_eq_true', Bool.not_eq_false', beq_iff_eq, bne_iff_ne, ne_eq, beq_eq_false_iff_ne, bne_eq_false_iff_eq, Int.not_lt, Int.not_le, Nat.not_lt, Nat.not_le, Int.ofNat_lt, Int.ofNat_le, Bool.not_eq_eq_eq_not, Bool.not_true, Bool.not_false] at hb5
      refine SOps.move rfl ?_
      refine SOps.bin rfl rfl rfl ?_
      refine SOps.pick rfl rfl ?_
      refine SOps.assign rfl ?_
      refine SOps.nil ?_
      refine SCode.cond rfl (fun hc6 => ?_) (fun hc6 => ?_)
      · try simp only [decide_eq_true_eq, decide_eq_false_iff_not, Bool.not_eq_true', Bool.not_eq_false', beq_iff_eq, bne_iff_ne, ne_eq, beq_eq_false_iff_ne, bne_eq_false_iff_eq, Int.not_lt, Int.not_le, Nat.not_lt, Nat.not_le, Int.ofNat_lt, Int.ofNat_le, Bool.not_eq_eq_eq_not, Bool.not_true, Bool.not_false] at hc6
        refine SCode.seqR ?_
        refine SOps.assign rfl ?_
        refine SOps.nil ?_
        refine SCode.ret ?_
        exact ⟨_, Res.one (.tmp rfl), congrArg (fun b => DV.v (.bool b)) (by rw [Bool.eq_iff_iff]; simp only [runeOK, decide_eq_true_eq, Bool.false_eq_true, Bool.true_eq_false, beq_iff_eq]; first | omega | (simp; omega)), rfl⟩
      · try simp only [decide_eq_true_eq, decide_eq_false_iff_not, Bool.not_eq_true', Bool.not_eq_false', beq_iff_eq, bne_iff_ne, ne_eq, beq_eq_false_iff_ne, bne_eq_false_iff_eq, Int.not_lt, Int.not_le, Nat.not_lt, Nat.not_le, Int.ofNat_lt, Int.ofNat_le, Bool.not_eq_eq_eq_not, Bool.not_true, Bool.not_false] at hc6
        refine SCode.skip ?_
        show SCode _ _ _ _
        refine SCode.seqR ?_
        refine SOps.assign rfl ?_
        refine SOps.nil ?_
        refine SCode.ret ?_
        exact ⟨_, Res.one (.tmp rfl), congrArg (fun b => DV.v (.bool b)) (by rw [Bool.eq_iff_iff]; simp only [runeOK, decide_eq_true_eq, Bool.false_eq_true, Bool.true_eq_false, beq_iff_eq]; first | omega | (simp; omega)), rfl⟩
    · try simp only [decide_eq_true_eq, decide_eq_false_iff_not, Bool.not_eq_true', Bool.not_eq_false', beq_iff_eq, bne_iff_ne, ne_eq, beq_eq_false_iff_ne, bne_eq_false_iff_eq, Int.not_lt, Int.not_le, Nat.not_lt, Nat.not_le, Int.ofNat_lt, Int.ofNat_le, Bool.not_eq_eq_eq_not, Bool.not_true, Bool.not_false] at hb5
      refine SOps.skip rfl ?_
      refine SOps.skip rfl ?_
      refine SOps.pick rfl rfl ?_
      refine SOps.assign rfl ?_
      refine SOps.nil ?_
      refine SCode.cond rfl (fun h => by cases h) (fun _ => ?_)
      refine SCode.skip ?_
      show SCode _ _ _ _
      refine SCode.seqR ?_
      refine SOps.assign rfl ?_
      refine SOps.nil ?_
      refine SCode.ret ?_
      exact ⟨_, Res.one (.tmp rfl), congrArg (fun b => DV.v (.bool b)) (by rw [Bool.eq_iff_iff]; simp only [runeOK, decide_eq_true_eq, Bool.false_eq_true, Bool.true_eq_false, beq_iff_eq]; first | omega | (simp; omega)), rfl⟩
theorem isSp_wide {r : Int} (h : 128 ≤ r) : isSp r = false := by simp only [isSp, Bool.or_eq_false_iff, beq_eq_false_iff_ne]; omega
theorem enc_wide {r : Int} (hv : Utf8.valid r = true) (h : 128 ≤ r) : 2 ≤ (Utf8.encode r).size ∧ ∀ (i : Nat) (hi : i < (Utf8.encode r).size), 128 ≤ ((Utf8.encode r)[i]).toNat := by
  obtain ⟨c, rfl, hc⟩ := valid_cases hv
  have key : ∀ {b : ByteArray}, Utf8.encode (c : Int) = b → (2 ≤ b.size ∧ ∀ x ∈ b.data.toList, 128 ≤ x.toNat) → 2 ≤ (Utf8.encode (c : Int)).size ∧ ∀ (i : Nat) (hi : i < (Utf8.encode (c : Int)).size), 128 ≤ ((Utf8.encode (c : Int))[i]).toNat := by
    intro b e h
    rw [e]
    exact ⟨h.1, fun i hi => h.2 _ (by rw [Array.mem_toList_iff]; exact Array.getElem_mem hi)⟩
  have big : ∀ n : Nat, 128 ≤ n → n < 256 → 128 ≤ (UInt8.ofNat n).toNat := fun n h1 h2 => by rw [toNat_ofNat h2]; exact h1
  rcases Nat.lt_or_ge c 2048 with h2 | h2
  · exact key (enc_2 hv (by omega) h2) ⟨Nat.le_refl 2, fun x hx => by
      simp only [List.mem_cons, List.not_mem_nil, or_false] at hx
      rcases hx with rfl | rfl <;> exact big _ (by omega) (by omega)⟩
  · rcases Nat.lt_or_ge c 65536 with h3 | h3
    · exact key (enc_3 hv h2 h3) ⟨Nat.le_of_ble_eq_true rfl, fun x hx => by
        simp only [List.mem_cons, List.not_mem_nil, or_false] at hx
        rcases hx with rfl | rfl | rfl <;> exact big _ (by omega) (by omega)⟩
    · exact key (enc_4 hv h3) ⟨Nat.le_of_ble_eq_true rfl, fun x hx => by
        simp only [List.mem_cons, List.not_mem_nil, or_false] at hx
        rcases hx with rfl | rfl | rfl | rfl <;> exact big _ (by omega) (by omega)⟩
theorem spnl_dec {p : Nat} (h : p < spnl.size) : ((Utf8.decode spnl p).1 : Int) ≠ 65533 := by
  have h2 : p < 2 := h
  rcases (show p = 0 ∨ p = 1 by omega) with rfl | rfl <;> decide
theorem sIndexByteE (b : Int) (hb : IntKind.u8.has b) : GCall Tryd.prog E 76 [.v (.string ⟨#[]⟩), .v (.int .u8 b)] [] (fun d H => d = .v (.int .i64 (-1)) ∧ H = []) :=
  GCall.ofCalls (by kernel_rfl) (has_i64 (by decide) (by decide)) (fun w F vs hE hl hr => by
    obtain ⟨rfl, _, h2⟩ := arg2 hl hr
    have := Any.strings_IndexByte (P := Tryd.prog) (ρ := Tryd.laysAny_ren) { Tryd.laysAny with } ⟨#[]⟩ b w
    exact this.mono fun e w' ⟨h1, h2⟩ => ⟨h1, h2 ▸ RowKit.Below.refl _ _⟩)
theorem sIndexRuneW (r : Int) (hv : Utf8.valid r = true) (h1 : 128 ≤ r) : GCall Tryd.prog E 72 [.v (.string spnl), .v (.int .i32 r)] [] (fun d H => d = .v (.int .i64 (-1)) ∧ H = []) := by
  obtain ⟨he1, he2⟩ := enc_wide hv h1
  have he3 := encode_size r
  have hsz : spnl.size = 2 := rfl
  have hsp1 : ∀ (i : Nat) (hi : i < spnl.size), i = 1 → (spnl[i]).toNat = 10 := by intro i hi h; subst h; rfl
  have hv2 : runeOK r = true := by simp only [runeOK, Utf8.valid, Bool.or_eq_true, Bool.and_eq_true, decide_eq_true_eq] at hv ⊢; omega
  refine GCall.body (C := ⟨Tryd.prog, E, true⟩) Tryd.func72 rfl (fun _ => rfl) (by kernel_rfl) rfl ?_
  refine SCode.seqR ?_
  refine SOps.assign rfl ?_
  refine SOps.nil ?_
  refine SCode.block ?_
  refine SCode.seqR ?_
  refine SOps.move rfl ?_
  refine SOps.bin rfl rfl rfl ?_
  refine SOps.reSlot (t := 162) rfl (show _ = DV.v (.bool true) from congrArg (fun b => DV.v (.bool b)) (decide_eq_true (by omega))) ?_
  refine SOps.move rfl ?_
  refine SOps.move rfl ?_
  refine SOps.bin rfl rfl rfl ?_
  refine SOps.reSlot (t := 165) rfl (show _ = DV.v (.bool false) from congrArg (fun b => DV.v (.bool b)) (decide_eq_false (by omega))) ?_
  refine SOps.pick rfl rfl ?_
  refine SOps.assign rfl ?_
  refine SOps.nil ?_
  refine SCode.cond rfl (fun h => by cases h) (fun _ => ?_)
  refine SCode.seqR ?_
  refine SOps.move rfl ?_
  refine SOps.bin rfl rfl rfl ?_
  refine SOps.assign rfl ?_
  refine SOps.nil ?_
  refine SCode.cond rfl (fun hc1 => ?_) (fun hc1 => ?_)
  · try simp only [decide_eq_true_eq, decide_eq_false_iff_not, Bool.not_eq_true', Bool.not_eq_false', beq_iff_eq, bne_iff_ne, ne_eq, beq_eq_false_iff_ne, bne_eq_false_iff_eq, Int.not_lt, Int.not_le, Nat.not_lt, Nat.not_le, Int.ofNat_lt, Int.ofNat_le, Bool.not_eq_eq_eq_not, Bool.not_true, Bool.not_false] at hc1
    refine SCode.seq ?_
    refine SCode.seqR ?_
    refine SOps.move rfl ?_
    refine SOps.rangeStr rfl strB_9 (fun b0 hb_0 => ?_)
    refine SOps.nil ?_
    refine SCode.block ?_
    refine SCode.loop2 (fun (p : Nat) (b : Nat) => (⟨187, [(0, .v (.string spnl)), (1, .v (.int .i32 r)), (175, .it b)], [(b, .iter spnl p)]⟩ : St)) (fun (p : Nat) (b : Nat) => True) (fun (p : Nat) (b : Nat) => spnl.size - p) (0) (b0) (by trivial) (St.Le.of ⟨(by first | rfl | (show some _ = some _; simp)), (by first | rfl | (show some _ = some _; simp)), (by first | rfl | (show some _ = some _; simp)), trivial⟩ rfl (by first | rfl | (simp))) ?_
    rintro p b _
    refine SCode.seqR ?_
    refine SOps.next 0 rfl rfl (fun hn2 => ?_) (fun hn2 => ?_) (by first | omega | (simp only [lenB] <;> omega))
    · refine SOps.extract rfl rfl ?_
      refine SOps.nil ?_
      refine SCode.seq ?_
      refine SCode.cond rfl (fun _ => ?_) (fun h => by cases h)
      refine SCode.skip ?_
      show SCode _ _ _ _
      refine SCode.block ?_
      refine SCode.seqR ?_
      refine SOps.extract rfl rfl ?_
      refine SOps.extract rfl rfl ?_
      refine SOps.assign rfl ?_
      refine SOps.assign rfl ?_
      refine SOps.nil ?_
      refine SCode.seqR ?_
      refine SOps.move rfl ?_
      refine SOps.bin rfl rfl rfl ?_
      refine SOps.nil ?_
      refine SCode.cond rfl (fun hc3 => ?_) (fun hc3 => ?_)
      · try simp only [decide_eq_true_eq, decide_eq_false_iff_not, Bool.not_eq_true', Bool.not_eq_false', beq_iff_eq, bne_iff_ne, ne_eq, beq_eq_false_iff_ne, bne_eq_false_iff_eq, Int.not_lt, Int.not_le, Nat.not_lt, Nat.not_le, Int.ofNat_lt, Int.ofNat_le, Bool.not_eq_eq_eq_not, Bool.not_true, Bool.not_false] at hc3
        exact absurd hc3 (spnl_dec (by omega))
      · try simp only [decide_eq_true_eq, decide_eq_false_iff_not, Bool.not_eq_true', Bool.not_eq_false', beq_iff_eq, bne_iff_ne, ne_eq, beq_eq_false_iff_ne, bne_eq_false_iff_eq, Int.not_lt, Int.not_le, Nat.not_lt, Nat.not_le, Int.ofNat_lt, Int.ofNat_le, Bool.not_eq_eq_eq_not, Bool.not_true, Bool.not_false] at hc3
        refine SCode.skip ?_
        exact ⟨p + (Utf8.decode spnl p).2, b, by trivial, by have := decode_w spnl p; omega, (St.Le.of ⟨(by first | rfl | (show some _ = some _; simp)), (by first | rfl | (show some _ = some _; simp)), (by first | rfl | (show some _ = some _; simp)), trivial⟩ rfl (by first | rfl | (simp)))⟩
    · refine SOps.extract rfl rfl ?_
      refine SOps.nil ?_
      refine SCode.seq ?_
      refine SCode.cond rfl (fun h => by cases h) (fun _ => ?_)
      refine SCode.exit ?_
      show SCode _ _ _ _
      refine SCode.seqR ?_
      refine SOps.assign rfl ?_
      refine SOps.nil ?_
      refine SCode.drop ?_
      refine SCode.ret ?_
      exact ⟨_, Res.one (.tmp rfl), rfl, rfl⟩
  · try simp only [decide_eq_true_eq, decide_eq_false_iff_not, Bool.not_eq_true', Bool.not_eq_false', beq_iff_eq, bne_iff_ne, ne_eq, beq_eq_false_iff_ne, bne_eq_false_iff_eq, Int.not_lt, Int.not_le, Nat.not_lt, Nat.not_le, Int.ofNat_lt, Int.ofNat_le, Bool.not_eq_eq_eq_not, Bool.not_true, Bool.not_false] at hc1
    refine SCode.seqR ?_
    refine SOps.move rfl ?_
    refine SOps.callP (uValidRune _) rfl ?_
    rintro _ rfl
    refine SOps.reSlot (t := 185) rfl (show _ = DV.v (.bool true) from congrArg (fun b => DV.v (.bool b)) (hv2)) ?_
    refine SOps.un rfl rfl ?_
    refine SOps.assign rfl ?_
    refine SOps.nil ?_
    refine SCode.cond rfl (fun h => by cases h) (fun _ => ?_)
    refine SCode.scope ?_
    refine SCode.seqR ?_
    refine SOps.move rfl ?_
    refine SOps.convIntStr rfl someB_21 strB_9 ?_
    refine SOps.assign rfl ?_
    refine SOps.nil ?_
    refine SCode.seqR ?_
    refine SOps.move rfl ?_
    refine SOps.lenStr rfl strB_9 ?_
    refine SOps.subI rfl rfl (by first | omega | (simp only [lenB] <;> omega)) (by first | omega | (simp only [lenB] <;> omega)) ?_
    refine SOps.assign rfl ?_
    refine SOps.nil ?_
    refine SCode.seqR ?_
    refine SOps.move rfl ?_
    refine SOps.assign rfl ?_
    refine SOps.nil ?_
    refine SCode.seqR ?_
    refine SOps.assign rfl ?_
    refine SOps.nil ?_
    refine SCode.seq ?_
    refine SCode.block ?_
    refine SCode.loop1 (fun (u : Nat) => (⟨187, [(0, .v (.string spnl)), (1, .v (.int .i32 r)), (7, .v (.string (Utf8.encode r))), (8, .v (.int .i64 (((Utf8.encode r).size : Int) - 1))), (9, .v (.int .i64 (((Utf8.encode r).size : Int) - 1)))], []⟩ : St)) (fun (u : Nat) => True) (fun (u : Nat) => u) (0) (by trivial) (St.Le.of ⟨(by first | rfl | (show some _ = some _; simp)), (by first | rfl | (show some _ = some _; simp)), (by first | rfl | (show some _ = some _; simp)), (by first | rfl | (show some _ = some _; simp)), (by first | rfl | (show some _ = some _; simp)), trivial⟩ rfl (by first | rfl | (simp))) ?_
    rintro u _
    refine SCode.seq ?_
    refine SCode.seqR ?_
    refine SOps.move rfl ?_
    refine SOps.move rfl ?_
    refine SOps.lenStr rfl strB_9 ?_
    refine SOps.bin rfl rfl rfl ?_
    refine SOps.nil ?_
    refine SCode.cond rfl (fun hc4 => ?_) (fun hc4 => ?_)
    · try simp only [decide_eq_true_eq, decide_eq_false_iff_not, Bool.not_eq_true', Bool.not_eq_false', beq_iff_eq, bne_iff_ne, ne_eq, beq_eq_false_iff_ne, bne_eq_false_iff_eq, Int.not_lt, Int.not_le, Nat.not_lt, Nat.not_le, Int.ofNat_lt, Int.ofNat_le, Bool.not_eq_eq_eq_not, Bool.not_true, Bool.not_false] at hc4
      refine SCode.skip ?_
      show SCode _ _ _ _
      refine SCode.block ?_
      refine SCode.scope ?_
      refine SCode.seq ?_
      refine SCode.seq ?_
      have hs2 : (Utf8.encode r).size = 2 := by omega
      have hbyte : IntKind.u8.has ((((Utf8.encode r)[(Utf8.encode r).size - 1]).toNat : Nat) : Int) := by have := ((Utf8.encode r)[(Utf8.encode r).size - 1]).toNat_lt; simp only [IntKind.has, IntKind.min, IntKind.max, IntKind.signed, IntKind.bits]; simp; omega
      apply SCode.drawAuto mixed_ [27, 28, 29, 30, 31, 32, 33] [[.inr 0], [.inr 9], [.inl 0, .inl 1], [.inr 7], [.inr 8], [.inl 3, .inl 4], [.inl 2, .inl 5]]
      · kernel_rfl
      · kernel_rfl
      · apply DOk.cons 27 
        · rfl
        · exact (NeedIs.inr _ rfl NeedIs.nil)
        · intro rest
          refine SOps.move rfl ?_
          exact SOps.nil rfl
        apply DOk.cons 28 
        · rfl
        · exact (NeedIs.inr _ rfl NeedIs.nil)
        · intro rest
          refine SOps.move rfl ?_
          exact SOps.nil rfl
        apply DOk.cons 29 
        · rfl
        · exact (NeedIs.inl 1 _ _ rfl rfl (NeedIs.inl 0 _ _ rfl rfl NeedIs.nil))
        · intro rest
          refine SOps.strIndexM (((Utf8.encode r).size - 1)) rfl rfl strB_9 (by first | omega | (simp only [lenB] <;> omega)) (by first | omega | (simp only [lenB] <;> omega)) ?_
          exact SOps.nil rfl
        apply DOk.cons 30 
        · rfl
        · exact (NeedIs.inr _ rfl NeedIs.nil)
        · intro rest
          refine SOps.move rfl ?_
          exact SOps.nil rfl
        apply DOk.cons 31 
        · rfl
        · exact (NeedIs.inr _ rfl NeedIs.nil)
        · intro rest
          refine SOps.move rfl ?_
          exact SOps.nil rfl
        apply DOk.cons 32 
        · rfl
        · exact (NeedIs.inl 1 _ _ rfl rfl (NeedIs.inl 0 _ _ rfl rfl NeedIs.nil))
        · intro rest
          refine SOps.strIndexM (((Utf8.encode r).size - 1)) rfl rfl strB_9 (by first | omega | (simp only [lenB] <;> omega)) (by first | omega | (simp only [lenB] <;> omega)) ?_
          exact SOps.nil rfl
        apply DOk.cons 33 (.v (.bool true))
        · rfl
        · exact (NeedIs.inl 3 _ _ rfl rfl (NeedIs.inl 0 _ _ rfl rfl NeedIs.nil))
        · intro rest
          refine SOps.bin rfl rfl rfl ?_
          exact SOps.nil (congrArg (fun b => St.put _ 33 (.v (.bool b))) (bne_iff_ne.2 (by have h8 := he2 ((Utf8.encode r).size - 1) (by omega); have h9 := hsp1 ((Utf8.encode r).size - 1) (by omega) (by omega); omega)))
        exact DOk.nil
      · rfl
      · show SCode _ _ _ _
        refine SCode.cond rfl (fun _ => ?_) (fun h => by cases h)
        refine SCode.seq ?_
        apply SCode.drawAuto mixed_ [34, 35, 36, 37, 38, 39, 40, 41, 11] [[.inr 0], [.inr 9], [.inl 1], [.inl 0, .inl 2], [.inr 7], [.inr 8], [.inl 4, .inl 5], [.inl 3, .inl 6], [.inl 7]]
        · kernel_rfl
        · kernel_rfl
        · apply DOk.cons 34 
          · rfl
          · exact (NeedIs.inr _ rfl NeedIs.nil)
          · intro rest
            refine SOps.move rfl ?_
            exact SOps.nil rfl
          apply DOk.cons 35 
          · rfl
          · exact (NeedIs.inr _ rfl NeedIs.nil)
          · intro rest
            refine SOps.move rfl ?_
            exact SOps.nil rfl
          apply DOk.cons 36 
          · rfl
          · exact (NeedIs.inl 0 _ _ rfl rfl NeedIs.nil)
          · intro rest
            refine SOps.addI rfl rfl (by first | omega | (simp only [lenB] <;> omega)) (by first | omega | (simp only [lenB] <;> omega)) ?_
            exact SOps.nil rfl
          apply DOk.cons 37 
          · rfl
          · exact (NeedIs.inl 2 _ _ rfl rfl (NeedIs.inl 0 _ _ rfl rfl NeedIs.nil))
          · intro rest
            refine SOps.sliceStr (2) (_) strB_9 rfl (.at (2) rfl (by first | omega | (simp only [lenB] <;> omega))) .none (by first | omega | (simp only [lenB] <;> omega)) (by first | omega | (simp only [lenB] <;> omega)) ?_
            exact SOps.nil rfl
          apply DOk.cons 38 
          · rfl
          · exact (NeedIs.inr _ rfl NeedIs.nil)
          · intro rest
            refine SOps.move rfl ?_
            exact SOps.nil rfl
          apply DOk.cons 39 
          · rfl
          · exact (NeedIs.inr _ rfl NeedIs.nil)
          · intro rest
            refine SOps.move rfl ?_
            exact SOps.nil rfl
          apply DOk.cons 40 
          · rfl
          · exact (NeedIs.inl 1 _ _ rfl rfl (NeedIs.inl 0 _ _ rfl rfl NeedIs.nil))
          · intro rest
            refine SOps.strIndexM (((Utf8.encode r).size - 1)) rfl rfl strB_9 (by first | omega | (simp only [lenB] <;> omega)) (by first | omega | (simp only [lenB] <;> omega)) ?_
            exact SOps.nil rfl
          apply DOk.cons 41 
          · rfl
          · exact (NeedIs.inl 3 _ _ rfl rfl (NeedIs.inl 0 _ _ rfl rfl NeedIs.nil))
          · intro rest
            refine SOps.callP (sIndexByteE _ hbyte) rfl ?_
            rintro _ rfl
            exact SOps.nil rfl
          apply DOk.cons 11 
          · rfl
          · exact (NeedIs.inl 0 _ _ rfl rfl NeedIs.nil)
          · intro rest
            refine SOps.assign rfl ?_
            exact SOps.nil rfl
          exact DOk.nil
        · rfl
        · show SCode _ _ _ _
          refine SCode.seq ?_
          refine SCode.seqR ?_
          refine SOps.move rfl ?_
          refine SOps.bin rfl rfl rfl ?_
          refine SOps.reSlot (t := 43) rfl (show _ = DV.v (.bool true) from congrArg (fun b => DV.v (.bool b)) (decide_eq_true (by decide))) ?_
          refine SOps.nil ?_
          refine SCode.cond rfl (fun _ => ?_) (fun h => by cases h)
          refine SCode.seqR ?_
          refine SOps.assign rfl ?_
          refine SOps.nil ?_
          refine SCode.ret ?_
          exact ⟨_, Res.one (.tmp rfl), rfl, rfl⟩
    · try simp only [decide_eq_true_eq, decide_eq_false_iff_not, Bool.not_eq_true', Bool.not_eq_false', beq_iff_eq, bne_iff_ne, ne_eq, beq_eq_false_iff_ne, bne_eq_false_iff_eq, Int.not_lt, Int.not_le, Nat.not_lt, Nat.not_le, Int.ofNat_lt, Int.ofNat_le, Bool.not_eq_eq_eq_not, Bool.not_true, Bool.not_false] at hc4
      refine SCode.exit ?_
      show SCode _ _ _ _
      refine SCode.seq ?_
      refine SCode.seqR ?_
      refine SOps.assign rfl ?_
      refine SOps.nil ?_
      refine SCode.ret ?_
      exact ⟨_, Res.one (.tmp rfl), rfl, rfl⟩
theorem sIndexRune (r : Int) (hv : Utf8.valid r = true) : GCall Tryd.prog E 72 [.v (.string spnl), .v (.int .i32 r)] [] (fun d H => (∃ n : Int, d = .v (.int .i64 n) ∧ decide (0 ≤ n) = isSp r) ∧ H = []) := by
  obtain ⟨c, rfl, hc⟩ := valid_cases hv
  rcases (show (c : Int) < 128 ∨ 128 ≤ (c : Int) by omega) with h | h
  · exact (sIndexRuneAscii _ (by omega) h).mono (fun d H ⟨e, e2⟩ => ⟨⟨_, e, indexByte_sp (by omega) h⟩, e2⟩)
  · exact (sIndexRuneW _ hv h).mono (fun d H ⟨e, e2⟩ => ⟨⟨_, e, by rw [isSp_wide h]; rfl⟩, e2⟩)
theorem sUseSet (n : Int)  : GCall Tryd.prog E 73 [.v (.int .i64 n)] [] (fun d H => d = .v (.bool (decide (8 < n))) ∧ H = []) := by
  refine GCall.body (C := ⟨Tryd.prog, E, true⟩) Tryd.func73 rfl (fun _ => rfl) (by kernel_rfl) rfl ?_
  refine SCode.seqR ?_
  refine SOps.assign rfl ?_
  refine SOps.nil ?_
  refine SCode.seqR ?_
  refine SOps.move rfl ?_
  refine SOps.bin rfl rfl rfl ?_
  refine SOps.assign rfl ?_
  refine SOps.nil ?_
  refine SCode.ret ?_
  exact ⟨_, Res.one (.tmp rfl), rfl, rfl⟩
theorem sIndexAnyS (s : ByteArray) (h8 : s.size ≤ 8) : GCall Tryd.prog E 71 [.v (.string s), .v (.string spnl)] [] (fun d H => (∃ n : Int, d = .v (.int .i64 n) ∧ decide (0 ≤ n) = anySp s) ∧ H = []) := by
  refine GCall.body (C := ⟨Tryd.prog, E, true⟩) Tryd.func71 rfl (fun _ => rfl) (by kernel_rfl) rfl ?_
  refine SCode.seqR ?_
  refine SOps.assign rfl ?_
  refine SOps.nil ?_
  refine SCode.seq ?_
  refine SCode.seqR ?_
  refine SOps.move rfl ?_
  refine SOps.bin rfl rfl rfl ?_
  refine SOps.reSlot (t := 12) rfl (show _ = DV.v (.bool false) from congrArg (fun b => DV.v (.bool b)) (by rfl)) ?_
  refine SOps.nil ?_
  refine SCode.cond rfl (fun h => by cases h) (fun _ => ?_)
  refine SCode.skip ?_
  show SCode _ _ _ _
  refine SCode.seq ?_
  refine SCode.seqR ?_
  refine SOps.move rfl ?_
  refine SOps.lenStr rfl strB_9 ?_
  refine SOps.bin rfl rfl rfl ?_
  refine SOps.reSlot (t := 15) rfl (show _ = DV.v (.bool false) from congrArg (fun b => DV.v (.bool b)) (by rfl)) ?_
  refine SOps.nil ?_
  refine SCode.cond rfl (fun h => by cases h) (fun _ => ?_)
  refine SCode.skip ?_
  show SCode _ _ _ _
  refine SCode.seq ?_
  refine SCode.seqR ?_
  refine SOps.move rfl ?_
  refine SOps.lenStr rfl strB_9 ?_
  refine SOps.callP (sUseSet _) rfl ?_
  rintro _ rfl
  refine SOps.reSlot (t := 26) rfl (show _ = DV.v (.bool false) from congrArg (fun b => DV.v (.bool b)) (decide_eq_false (by omega))) ?_
  refine SOps.nil ?_
  refine SCode.cond rfl (fun h => by cases h) (fun _ => ?_)
  refine SCode.skip ?_
  show SCode _ _ _ _
  refine SCode.seq ?_
  refine SCode.seqR ?_
  refine SOps.move rfl ?_
  refine SOps.rangeStr rfl strB_9 (fun b0 hb_0 => ?_)
  refine SOps.nil ?_
  refine SCode.block ?_
  refine SCode.loop2 (fun (p : Nat) (b : Nat) => (⟨55, [(0, .v (.string s)), (1, .v (.string spnl)), (45, .it b)], [(b, .iter s p)]⟩ : St)) (fun (p : Nat) (b : Nat) => anySp s = (runesAt s p).any isSp) (fun (p : Nat) (b : Nat) => s.size - p) (0) (b0) (by rfl) (St.Le.of ⟨(by first | rfl | (show some _ = some _; simp)), (by first | rfl | (show some _ = some _; simp)), (by first | rfl | (show some _ = some _; simp)), trivial⟩ rfl (by first | rfl | (simp))) ?_
  rintro p b hf
  refine SCode.seqR ?_
  refine SOps.next 0 rfl rfl (fun hn1 => ?_) (fun hn1 => ?_) (by first | omega | (simp only [lenB] <;> omega))
  · refine SOps.extract rfl rfl ?_
    refine SOps.nil ?_
    refine SCode.seq ?_
    refine SCode.cond rfl (fun _ => ?_) (fun h => by cases h)
    refine SCode.skip ?_
    show SCode _ _ _ _
    refine SCode.block ?_
    refine SCode.seqR ?_
    refine SOps.extract rfl rfl ?_
    refine SOps.extract rfl rfl ?_
    refine SOps.assign rfl ?_
    refine SOps.assign rfl ?_
    refine SOps.nil ?_
    refine SCode.seqR ?_
    refine SOps.move rfl ?_
    refine SOps.move rfl ?_
    refine SOps.callP (sIndexRune ((Utf8.decode s p).1 : Int) (decode_valid s p)) rfl ?_
    rintro _ ⟨n9, rfl, hn9⟩
    refine SOps.bin rfl rfl rfl ?_
    refine SOps.nil ?_
    refine SCode.cond rfl (fun hc2 => ?_) (fun hc2 => ?_)
    · try simp only [decide_eq_true_eq, decide_eq_false_iff_not, Bool.not_eq_true', Bool.not_eq_false', beq_iff_eq, bne_iff_ne, ne_eq, beq_eq_false_iff_ne, bne_eq_false_iff_eq, Int.not_lt, Int.not_le, Nat.not_lt, Nat.not_le, Int.ofNat_lt, Int.ofNat_le, Bool.not_eq_eq_eq_not, Bool.not_true, Bool.not_false] at hc2
      refine SCode.seqR ?_
      refine SOps.move rfl ?_
      refine SOps.assign rfl ?_
      refine SOps.nil ?_
      refine SCode.drop ?_
      refine SCode.ret ?_
      exact ⟨_, Res.one (.tmp rfl), ⟨_, rfl, by rw [hf, runesAt_lt hn1, List.any_cons, show isSp ((Utf8.decode s p).1 : Int) = true from by rw [← hn9]; exact decide_eq_true (by omega)]; exact decide_eq_true (by omega)⟩, rfl⟩
    · try simp only [decide_eq_true_eq, decide_eq_false_iff_not, Bool.not_eq_true', Bool.not_eq_false', beq_iff_eq, bne_iff_ne, ne_eq, beq_eq_false_iff_ne, bne_eq_false_iff_eq, Int.not_lt, Int.not_le, Nat.not_lt, Nat.not_le, Int.ofNat_lt, Int.ofNat_le, Bool.not_eq_eq_eq_not, Bool.not_true, Bool.not_false] at hc2
      refine SCode.skip ?_
      exact ⟨p + (Utf8.decode s p).2, b, by rw [hf, runesAt_lt hn1, List.any_cons, show isSp ((Utf8.decode s p).1 : Int) = false from by rw [← hn9]; exact decide_eq_false (by omega)]; rfl, by have := decode_w s p; omega, (St.Le.of ⟨(by first | rfl | (show some _ = some _; simp)), (by first | rfl | (show some _ = some _; simp)), (by first | rfl | (show some _ = some _; simp)), trivial⟩ rfl (by first | rfl | (simp)))⟩
  · refine SOps.extract rfl rfl ?_
    refine SOps.nil ?_
    refine SCode.seq ?_
    refine SCode.cond rfl (fun h => by cases h) (fun _ => ?_)
    refine SCode.exit ?_
    show SCode _ _ _ _
    refine SCode.seqR ?_
    refine SOps.assign rfl ?_
    refine SOps.nil ?_
    refine SCode.drop ?_
    refine SCode.ret ?_
    exact ⟨_, Res.one (.tmp rfl), ⟨_, rfl, by rw [hf, runesAt_ge (by omega)]; rfl⟩, rfl⟩
theorem sIndexAny (s : ByteArray) (hv : utf8R s = true) (hs : s.size ≤ 1048576) : GCall Tryd.prog E 71 [.v (.string s), .v (.string spnl)] [] (fun d H => (∃ n : Int, d = .v (.int .i64 n) ∧ decide (0 ≤ n) = anySp s) ∧ H = []) := by
  rcases Nat.lt_or_ge 8 s.size with h | h
  · exact (sIndexAnyLong s h hs).mono (fun d H ⟨e, e2⟩ => ⟨⟨_, e, any_long hv⟩, e2⟩)
  · exact sIndexAnyS s h
theorem sContainsAny (s : ByteArray) (hv : utf8R s = true) (hs : s.size ≤ 1048576) : GCall Tryd.prog E 68 [.v (.string s), .v (.string spnl)] [] (fun d H => d = .v (.bool (anySp s)) ∧ H = []) := by
  refine GCall.body (C := ⟨Tryd.prog, E, true⟩) Tryd.func68 rfl (fun _ => rfl) (by kernel_rfl) rfl ?_
  refine SCode.seqR ?_
  refine SOps.assign rfl ?_
  refine SOps.nil ?_
  refine SCode.seqR ?_
  refine SOps.move rfl ?_
  refine SOps.move rfl ?_
  refine SOps.callP (sIndexAny s hv hs) rfl ?_
  rintro _ ⟨n9, rfl, hn9⟩
  refine SOps.bin rfl rfl rfl ?_
  refine SOps.assign rfl ?_
  refine SOps.nil ?_
  refine SCode.ret ?_
  exact ⟨_, Res.one (.tmp rfl), congrArg (fun b => DV.v (.bool b)) (hn9), rfl⟩
theorem sPrintable (hV : VS E) (s : ByteArray) (hs : s.size ≤ 1048576) : GCall Tryd.prog E 60 [.v (.string s)] [] (fun d H => d = .v (.bool (wordB s)) ∧ H = []) := by
  refine GCall.body (C := ⟨Tryd.prog, E, true⟩) Tryd.func60 rfl (fun _ => rfl) (by kernel_rfl) rfl ?_
  refine SCode.seqR ?_
  refine SOps.assign rfl ?_
  refine SOps.nil ?_
  refine SCode.seqR ?_
  refine SOps.move rfl ?_
  refine SOps.bin rfl rfl rfl ?_
  refine SOps.move rfl ?_
  refine SOps.caseB 5 rfl (fun hb1 => ?_) (fun hb1 => ?_)
  · try simp only [decide_eq_true_eq, decide_eq_false_iff_not, Bool.not_eq_true', Bool.not_eq_false', beq_iff_eq, bne_iff_ne, ne_eq, beq_eq_false_iff_ne, bne_eq_false_iff_eq, Int.not_lt, Int.not_le, Nat.not_lt, Nat.not_le, Int.ofNat_lt, Int.ofNat_le, Bool.not_eq_eq_eq_not, Bool.not_true, Bool.not_false] at hb1
    refine SOps.move rfl ?_
    refine SOps.callP (hV _) rfl ?_
    rintro _ rfl
    refine SOps.pick rfl rfl ?_
    refine SOps.move rfl ?_
    refine SOps.caseB 9 rfl (fun hb2 => ?_) (fun hb2 => ?_)
    · try simp only [decide_eq_true_eq, decide_eq_false_iff_not, Bool.not_eq_true', Bool.not_eq_false', beq_iff_eq, bne_iff_ne, ne_eq, beq_eq_false_iff_ne, bne_eq_false_iff_eq, Int.not_lt, Int.not_le, Nat.not_lt, Nat.not_le, Int.ofNat_lt, Int.ofNat_le, Bool.not_eq_eq_eq_not, Bool.not_true, Bool.not_false] at hb2
      refine SOps.move rfl ?_
      refine SOps.callP (sContainsAny s (by assumption) hs) rfl ?_
      rintro _ rfl
      refine SOps.un rfl rfl ?_
      refine SOps.pick rfl rfl ?_
      refine SOps.assign rfl ?_
      refine SOps.nil ?_
      refine SCode.ret ?_
      exact ⟨_, Res.one (.tmp rfl), congrArg (fun b => DV.v (.bool b)) (by simp only [wordB]; first | rfl | (simp_all; done)), rfl⟩
    · try simp only [decide_eq_true_eq, decide_eq_false_iff_not, Bool.not_eq_true', Bool.not_eq_false', beq_iff_eq, bne_iff_ne, ne_eq, beq_eq_false_iff_ne, bne_eq_false_iff_eq, Int.not_lt, Int.not_le, Nat.not_lt, Nat.not_le, Int.ofNat_lt, Int.ofNat_le, Bool.not_eq_eq_eq_not, Bool.not_true, Bool.not_false] at hb2
      refine SOps.skip rfl ?_
      refine SOps.skip rfl ?_
      refine SOps.skip rfl ?_
      refine SOps.pick rfl rfl ?_
      refine SOps.assign rfl ?_
      refine SOps.nil ?_
      refine SCode.ret ?_
      exact ⟨_, Res.one (.tmp rfl), congrArg (fun b => DV.v (.bool b)) (by simp only [wordB]; first | rfl | (simp_all; done)), rfl⟩
  · try simp only [decide_eq_true_eq, decide_eq_false_iff_not, Bool.not_eq_true', Bool.not_eq_false', beq_iff_eq, bne_iff_ne, ne_eq, beq_eq_false_iff_ne, bne_eq_false_iff_eq, Int.not_lt, Int.not_le, Nat.not_lt, Nat.not_le, Int.ofNat_lt, Int.ofNat_le, Bool.not_eq_eq_eq_not, Bool.not_true, Bool.not_false] at hb1
    refine SOps.skip rfl ?_
    refine SOps.skip rfl ?_
    refine SOps.pick rfl rfl ?_
    refine SOps.move rfl ?_
    refine SOps.skip rfl ?_
    refine SOps.skip rfl ?_
    refine SOps.skip rfl ?_
    refine SOps.pick rfl rfl ?_
    refine SOps.assign rfl ?_
    refine SOps.nil ?_
    refine SCode.ret ?_
    exact ⟨_, Res.one (.tmp rfl), congrArg (fun b => DV.v (.bool b)) (by simp only [wordB]; first | rfl | (simp_all; done)), rfl⟩
end Go.GH
namespace Go.GH
open Go Go.Lib Go.Proofs Go.Proofs.YtkhohgmmgipfbaaDoor
theorem u8Extra : U8Extra Tryd.prog Tryd.laysValid_ren :=
  ⟨by kernel_rfl, by kernel_rfl, by kernel_rfl, by kernel_rfl, by kernel_rfl, by kernel_rfl, by kernel_rfl⟩
theorem laid_E0 (W : World) (h : laidMetH Tryd.prog Rows.linebreakCostRow.laid W) : E0.holds W (AllF W) := by
  have h' : laidMet Tryd.prog [("unicode/utf8.acceptRanges", Rows.laid_unicode_utf8_acceptRanges), ("unicode/utf8.first", Rows.laid_unicode_utf8_first)] W := h
  have e1 : Rows.laid_unicode_utf8_first = firstData := by kernel_rfl
  have e2 : (Rows.laid_unicode_utf8_acceptRanges : DataW Unit) = acceptData := by kernel_rfl
  rw [e1, e2] at h'
  exact tabE_all (utf8Tabs_of_readsT (U8Types.of196 Tryd.laysValid) u8Extra (laidMet.reads h' (.tail _ (.head _))) (laidMet.reads h' (.head _)))
theorem vsE0 : VS E0 := vs_ok
end Go.GH
namespace Go.GH
open Go

theorem map_of {α β : Type} {f : α → β} : ∀ {es : List β}, (∀ e ∈ es, ∃ x, e = f x) → ∃ xs : List α, es = xs.map f
  | [], _ => ⟨[], rfl⟩
  | e :: es, h => by
    obtain ⟨x, rfl⟩ := h e (List.mem_cons_self ..)
    obtain ⟨xs, rfl⟩ := map_of (fun e he => h e (List.mem_cons_of_mem _ he))
    exact ⟨x :: xs, rfl⟩
def ElemIs (L : List DTy) (e : List DV) : Prop := e.length = L.length ∧ ∀ (j : Nat) d ty, e[j]? = some d → L[j]? = some ty → HasD ty d
theorem HasD.slice {α : Type} {L : List DTy} {f : α → List DV} {d : DV} (h : HasD (.sl L) d) (hf : ∀ e, ElemIs L e → ∃ x, e = f x) : ∃ xs : List α, d = .isl false L.length (xs.map f) := by
  cases h with
  | @sl L es hl hd =>
    obtain ⟨xs, rfl⟩ := map_of (f := f) (es := es) (fun e he => by
      obtain ⟨i, hi⟩ := List.mem_iff_getElem?.1 he
      exact hf e ⟨hl i e hi, fun j d ty hj ht => hd i e j d ty hi hj ht⟩)
    exact ⟨xs, rfl⟩
theorem ElemIs.one {ty : DTy} {e : List DV} (h : ElemIs [ty] e) : ∃ d, e = [d] ∧ HasD ty d := by
  obtain ⟨h1, h2⟩ := h
  match e, h1 with
  | [d], _ => exact ⟨d, rfl, h2 0 d ty rfl rfl⟩
theorem ElemIs.two {t1 t2 : DTy} {e : List DV} (h : ElemIs [t1, t2] e) : ∃ d1 d2, e = [d1, d2] ∧ HasD t1 d1 ∧ HasD t2 d2 := by
  obtain ⟨h1, h2⟩ := h
  match e, h1 with
  | [d1, d2], _ => exact ⟨d1, d2, rfl, h2 0 d1 t1 rfl rfl, h2 1 d2 t2 rfl rfl⟩
theorem ElemIs.three {t1 t2 t3 : DTy} {e : List DV} (h : ElemIs [t1, t2, t3] e) : ∃ d1 d2 d3, e = [d1, d2, d3] ∧ HasD t1 d1 ∧ HasD t2 d2 ∧ HasD t3 d3 := by
  obtain ⟨h1, h2⟩ := h
  match e, h1 with
  | [d1, d2, d3], _ => exact ⟨d1, d2, d3, rfl, h2 0 d1 t1 rfl rfl, h2 1 d2 t2 rfl rfl, h2 2 d3 t3 rfl rfl⟩
theorem HasD.int_inv {k : IntKind} {d : DV} (h : HasD (.int k) d) : ∃ n, d = .v (.int k n) ∧ k.has n := by cases h with | int h => exact ⟨_, rfl, h⟩
theorem HasD.str_inv {d : DV} (h : HasD .str d) : ∃ s, d = .v (.string s) := by cases h; exact ⟨_, rfl⟩
theorem HasD.bool_inv {d : DV} (h : HasD .bool d) : ∃ b, d = .v (.bool b) := by cases h; exact ⟨_, rfl⟩
theorem HasD.letters {d : DV} (h : HasD (.sl [.int .i32, .int .u32]) d) : ∃ a, d = DLs a :=
  h.slice (f := encL) (fun e he => by
    obtain ⟨d1, d2, rfl, h1, h2⟩ := he.two
    obtain ⟨r, rfl, _⟩ := h1.int_inv
    obtain ⟨c, rfl, _⟩ := h2.int_inv
    exact ⟨⟨r, c⟩, rfl⟩)
theorem HasD.ints {d : DV} (h : HasD (.sl [.int .i64]) d) : ∃ l, d = DInts l :=
  h.slice (f := encI) (fun e he => by
    obtain ⟨d1, rfl, h1⟩ := he.one
    obtain ⟨r, rfl, _⟩ := h1.int_inv
    exact ⟨r, rfl⟩)
theorem HasD.masks {d : DV} (h : HasD (.sl [.int .u32]) d) : ∃ l, d = DMasks l :=
  h.slice (f := encU) (fun e he => by
    obtain ⟨d1, rfl, h1⟩ := he.one
    obtain ⟨r, rfl, _⟩ := h1.int_inv
    exact ⟨r, rfl⟩)
theorem HasD.strs {d : DV} (h : HasD (.sl [.str]) d) : ∃ l, d = DStrs l :=
  h.slice (f := encS) (fun e he => by
    obtain ⟨d1, rfl, h1⟩ := he.one
    obtain ⟨r, rfl⟩ := h1.str_inv
    exact ⟨r, rfl⟩)

/-- An argument of one cell. -/
theorem arg_rep {H : Type} {enc : TypeId × Value → H} {P : Program} {w : World} {sp : Nat → Bool} {held : Bool} {t : TypeId} {ty : DTy} {v : Value} {d : DataW H} {p : List MemPlace} (hT : TyIs P t [ty]) (h : DataW.Trod enc P w 0 sp held t v d p) (hv : v.cells = #[v]) : ∃ dv, Rep w (AllF w) v dv ∧ HasD ty dv := by
  obtain ⟨fuel, h⟩ := h
  rw [hv] at h
  obtain ⟨ds, h1, h2, h3⟩ := (pw_trod hT fuel _ _ h).cells
  match ds, h2 with
  | [dv], _ => exact ⟨dv, (h3 0 v dv ty rfl rfl rfl).1, (h3 0 v dv ty rfl rfl rfl).2.1⟩
end Go.GH
namespace Go.GH
open Go
theorem HasD.boxes {d : DV} (h : HasD (.sl [.str, .sl [.int .i64]]) d) : ∃ l, d = DBxs l :=
  h.slice (f := encBx) (fun e he => by
    obtain ⟨d1, d2, rfl, h1, h2⟩ := he.two
    obtain ⟨s, rfl⟩ := h1.str_inv
    obtain ⟨p, rfl⟩ := h2.ints
    exact ⟨⟨s, p⟩, rfl⟩)
theorem HasD.lines {d : DV} (h : HasD (.sl [.sl [.str], .bool]) d) : ∃ l, d = DLns l :=
  h.slice (f := encLn) (fun e he => by
    obtain ⟨d1, d2, rfl, h1, h2⟩ := he.two
    obtain ⟨p, rfl⟩ := h1.strs
    obtain ⟨b, rfl⟩ := h2.bool_inv
    exact ⟨⟨p, b⟩, rfl⟩)
end Go.GH
namespace Go.GH
open Go Go.Proofs
variable {E : Env}
theorem aggB_43_2 : aggB Tryd.prog 43 2 = true := by kernel_rfl
theorem fieldB_43_0_0 : fieldB Tryd.prog 43 0 0 = true := by kernel_rfl
theorem fieldB_43_1_1 : fieldB Tryd.prog 43 1 1 = true := by kernel_rfl
theorem flatB_3 : flatB Tryd.prog 3 = true := by kernel_rfl
theorem flatB_41 : flatB Tryd.prog 41 = true := by kernel_rfl
theorem flatB_9 : flatB Tryd.prog 9 = true := by kernel_rfl
theorem intB_21_i32 : intB Tryd.prog 21 .i32 = true := by kernel_rfl
theorem sliceB_22_43_2 : sliceB Tryd.prog 22 43 2 = true := by kernel_rfl
theorem sliceB_41_3_1 : sliceB Tryd.prog 41 3 1 = true := by kernel_rfl
theorem sliceB_70_21_1 : sliceB Tryd.prog 70 21 1 = true := by kernel_rfl
theorem zeroIs_43 : zeroIs Tryd.prog 43 (.agg #[.string .empty, .slice none 0 0]) := by unfold zeroIs; kernel_rfl
theorem sBox (hV : VS E) (b : Bx) (hs : b.word.size ≤ 1048576) : GCall Tryd.prog E 48 [.agg (encBx b)] [] (fun d H => d = .v (.bool (boxB b)) ∧ H = []) := by
  refine GCall.body (C := ⟨Tryd.prog, E, true⟩) Tryd.func48 rfl (fun _ => rfl) (by kernel_rfl) rfl ?_
  refine SCode.seqR ?_
  refine SOps.boxAM rfl rfl ?_
  refine SOps.assign rfl ?_
  refine SOps.nil ?_
  refine SCode.seqR ?_
  refine SOps.fieldPin rfl fieldB_43_0_0 ?_
  refine SOps.loadPin rfl flatB_9 ?_
  refine SOps.callP (uRuneCount _) rfl ?_
  rintro _ rfl
  refine SOps.assign rfl ?_
  refine SOps.nil ?_
  refine SCode.seq ?_
  refine SCode.seqR ?_
  refine SOps.fieldPin rfl fieldB_43_0_0 ?_
  refine SOps.loadPin rfl flatB_9 ?_
  refine SOps.callP (sPrintable hV _ (by assumption)) rfl ?_
  rintro _ rfl
  refine SOps.un rfl rfl ?_
  refine SOps.move rfl ?_
  refine SOps.caseB 13 rfl (fun hb1 => ?_) (fun hb1 => ?_)
  · try simp only [decide_eq_true_eq, decide_eq_false_iff_not, Bool.not_eq_true', Bool.not_eq_false', beq_iff_eq, bne_iff_ne, ne_eq, beq_eq_false_iff_ne, bne_eq_false_iff_eq, Int.not_lt, Int.not_le, Nat.not_lt, Nat.not_le, Int.ofNat_lt, Int.ofNat_le, Bool.not_eq_eq_eq_not, Bool.not_true, Bool.not_false] at hb1
    refine SOps.skip rfl ?_
    refine SOps.skip rfl ?_
    refine SOps.pick rfl rfl ?_
    refine SOps.nil ?_
    refine SCode.cond rfl (fun _ => ?_) (fun h => by cases h)
    refine SCode.seqR ?_
    refine SOps.assign rfl ?_
    refine SOps.nil ?_
    refine SCode.ret ?_
    exact ⟨_, Res.one (.tmp rfl), congrArg (fun b => DV.v (.bool b)) (by first | exact Eq.symm (boxB_iff.2 ⟨by simp_all, by omega, fun j hj => hf j (by omega)⟩) | exact Eq.symm (Bool.eq_false_iff.2 (fun h => by have h9 := boxB_iff.1 h; first | omega | (simp_all; done) | (have h8 := (ptB_at hil).1 (h9.2.2 i hil); obtain ⟨h81, h82, h83⟩ := h8; first | omega | (rcases h83 with h83 | ⟨_, h83⟩ <;> omega))))), rfl⟩
  · try simp only [decide_eq_true_eq, decide_eq_false_iff_not, Bool.not_eq_true', Bool.not_eq_false', beq_iff_eq, bne_iff_ne, ne_eq, beq_eq_false_iff_ne, bne_eq_false_iff_eq, Int.not_lt, Int.not_le, Nat.not_lt, Nat.not_le, Int.ofNat_lt, Int.ofNat_le, Bool.not_eq_eq_eq_not, Bool.not_true, Bool.not_false] at hb1
    refine SOps.move rfl ?_
    refine SOps.bin rfl rfl rfl ?_
    refine SOps.pick rfl rfl ?_
    refine SOps.nil ?_
    refine SCode.cond rfl (fun hc2 => ?_) (fun hc2 => ?_)
    · try simp only [decide_eq_true_eq, decide_eq_false_iff_not, Bool.not_eq_true', Bool.not_eq_false', beq_iff_eq, bne_iff_ne, ne_eq, beq_eq_false_iff_ne, bne_eq_false_iff_eq, Int.not_lt, Int.not_le, Nat.not_lt, Nat.not_le, Int.ofNat_lt, Int.ofNat_le, Bool.not_eq_eq_eq_not, Bool.not_true, Bool.not_false] at hc2
      refine SCode.seqR ?_
      refine SOps.assign rfl ?_
      refine SOps.nil ?_
      refine SCode.ret ?_
      exact ⟨_, Res.one (.tmp rfl), congrArg (fun b => DV.v (.bool b)) (by first | exact Eq.symm (boxB_iff.2 ⟨by simp_all, by omega, fun j hj => hf j (by omega)⟩) | exact Eq.symm (Bool.eq_false_iff.2 (fun h => by have h9 := boxB_iff.1 h; first | omega | (simp_all; done) | (have h8 := (ptB_at hil).1 (h9.2.2 i hil); obtain ⟨h81, h82, h83⟩ := h8; first | omega | (rcases h83 with h83 | ⟨_, h83⟩ <;> omega))))), rfl⟩
    · try simp only [decide_eq_true_eq, decide_eq_false_iff_not, Bool.not_eq_true', Bool.not_eq_false', beq_iff_eq, bne_iff_ne, ne_eq, beq_eq_false_iff_ne, bne_eq_false_iff_eq, Int.not_lt, Int.not_le, Nat.not_lt, Nat.not_le, Int.ofNat_lt, Int.ofNat_le, Bool.not_eq_eq_eq_not, Bool.not_true, Bool.not_false] at hc2
      refine SCode.skip ?_
      show SCode _ _ _ _
      refine SCode.seq ?_
      refine SCode.seqR ?_
      refine SOps.fieldPin rfl fieldB_43_1_1 ?_
      refine SOps.loadPin rfl flatB_41 ?_
      refine SOps.lenM rfl sliceB_41_3_1 ?_
      refine SOps.move rfl ?_
      refine SOps.nil ?_
      refine SCode.block ?_
      refine SCode.loop1 (fun (i : Nat) => (⟨47, [(1, .ipin (encBx b)), (3, .v (.int .i64 (((wlen b.word) : Nat) : Int))), (18, DInts b.pts), (19, .v (.int .i64 (b.pts.length : Int))), (20, .v (.int .i64 (i : Int)))], []⟩ : St)) (fun (i : Nat) => i ≤ b.pts.length ∧ ∀ j, j < i → ptB (wlen b.word) b.pts j = true) (fun (i : Nat) => b.pts.length - i) (0) (by exact ⟨Nat.zero_le _, fun j hj => absurd hj (Nat.not_lt_zero _)⟩) (St.Le.of ⟨(by first | rfl | (show some _ = some _; simp)), (by first | rfl | (show some _ = some _; simp)), (by first | rfl | (show some _ = some _; simp)), (by first | rfl | (show some _ = some _; simp)), (by first | rfl | (show some _ = some _; simp)), trivial⟩ rfl (by first | rfl | (simp))) ?_
      rintro i ⟨hi, hf⟩
      refine SCode.fact (isl_len (t := 18) rfl) (fun hB => ?_)
      simp only [List.length_map, lenB] at hB
      refine SCode.seqR ?_
      refine SOps.bin rfl rfl rfl ?_
      refine SOps.nil ?_
      refine SCode.seq ?_
      refine SCode.cond rfl (fun hc3 => ?_) (fun hc3 => ?_)
      · try simp only [decide_eq_true_eq, decide_eq_false_iff_not, Bool.not_eq_true', Bool.not_eq_false', beq_iff_eq, bne_iff_ne, ne_eq, beq_eq_false_iff_ne, bne_eq_false_iff_eq, Int.not_lt, Int.not_le, Nat.not_lt, Nat.not_le, Int.ofNat_lt, Int.ofNat_le, Bool.not_eq_eq_eq_not, Bool.not_true, Bool.not_false] at hc3
        refine SCode.skip ?_
        show SCode _ _ _ _
        refine SCode.seq ?_
        refine SCode.block ?_
        refine SCode.seqR ?_
        have hil : i < b.pts.length := by omega
        refine SOps.move rfl ?_
        refine SOps.indexM (i) rfl rfl sliceB_41_3_1 (by first | omega | (simp only [lenB] <;> omega)) (by first | omega | (simp only [lenB] <;> omega)) ?_
        refine SOps.loadPin rfl flatB_3 ?_
        refine SOps.assign rfl ?_
        refine SOps.assign rfl ?_
        refine SOps.nil ?_
        refine SCode.seqR ?_
        refine SOps.move rfl ?_
        refine SOps.bin rfl rfl rfl ?_
        refine SOps.move rfl ?_
        refine SOps.caseB 27 rfl (fun hb4 => ?_) (fun hb4 => ?_)
        · try simp only [decide_eq_true_eq, decide_eq_false_iff_not, Bool.not_eq_true', Bool.not_eq_false', beq_iff_eq, bne_iff_ne, ne_eq, beq_eq_false_iff_ne, bne_eq_false_iff_eq, Int.not_lt, Int.not_le, Nat.not_lt, Nat.not_le, Int.ofNat_lt, Int.ofNat_le, Bool.not_eq_eq_eq_not, Bool.not_true, Bool.not_false] at hb4
          refine SOps.skip rfl ?_
          refine SOps.skip rfl ?_
          refine SOps.skip rfl ?_
          refine SOps.pick rfl rfl ?_
          refine SOps.move rfl ?_
          refine SOps.skip rfl ?_
          refine SOps.skip rfl ?_
          refine SOps.skip rfl ?_
          refine SOps.skip rfl ?_
          refine SOps.skip rfl ?_
          refine SOps.skip rfl ?_
          refine SOps.skip rfl ?_
          refine SOps.skip rfl ?_
          refine SOps.skip rfl ?_
          refine SOps.skip rfl ?_
          refine SOps.skip rfl ?_
          refine SOps.skip rfl ?_
          refine SOps.pick rfl rfl ?_
          refine SOps.nil ?_
          refine SCode.cond rfl (fun _ => ?_) (fun h => by cases h)
          refine SCode.seqR ?_
          refine SOps.assign rfl ?_
          refine SOps.nil ?_
          refine SCode.ret ?_
          exact ⟨_, Res.one (.tmp rfl), congrArg (fun b => DV.v (.bool b)) (by first | exact Eq.symm (boxB_iff.2 ⟨by simp_all, by omega, fun j hj => hf j (by omega)⟩) | exact Eq.symm (Bool.eq_false_iff.2 (fun h => by have h9 := boxB_iff.1 h; first | omega | (simp_all; done) | (have h8 := (ptB_at hil).1 (h9.2.2 i hil); obtain ⟨h81, h82, h83⟩ := h8; first | omega | (rcases h83 with h83 | ⟨_, h83⟩ <;> omega))))), rfl⟩
        · try simp only [decide_eq_true_eq, decide_eq_false_iff_not, Bool.not_eq_true', Bool.not_eq_false', beq_iff_eq, bne_iff_ne, ne_eq, beq_eq_false_iff_ne, bne_eq_false_iff_eq, Int.not_lt, Int.not_le, Nat.not_lt, Nat.not_le, Int.ofNat_lt, Int.ofNat_le, Bool.not_eq_eq_eq_not, Bool.not_true, Bool.not_false] at hb4
          refine SOps.move rfl ?_
          refine SOps.move rfl ?_
          refine SOps.bin rfl rfl rfl ?_
          refine SOps.pick rfl rfl ?_
          refine SOps.move rfl ?_
          refine SOps.caseB 32 rfl (fun hb5 => ?_) (fun hb5 => ?_)
          · try simp only [decide_eq_true_eq, decide_eq_false_iff_not, Bool.not_eq_true', Bool.not_eq_false', beq_iff_eq, bne_iff_ne, ne_eq, beq_eq_false_iff_ne, bne_eq_false_iff_eq, Int.not_lt, Int.not_le, Nat.not_lt, Nat.not_le, Int.ofNat_lt, Int.ofNat_le, Bool.not_eq_eq_eq_not, Bool.not_true, Bool.not_false] at hb5
            refine SOps.skip rfl ?_
            refine SOps.skip rfl ?_
            refine SOps.skip rfl ?_
            refine SOps.skip rfl ?_
            refine SOps.skip rfl ?_
            refine SOps.skip rfl ?_
            refine SOps.skip rfl ?_
            refine SOps.skip rfl ?_
            refine SOps.skip rfl ?_
            refine SOps.skip rfl ?_
            refine SOps.skip rfl ?_
            refine SOps.skip rfl ?_
            refine SOps.pick rfl rfl ?_
            refine SOps.nil ?_
            refine SCode.cond rfl (fun _ => ?_) (fun h => by cases h)
            refine SCode.seqR ?_
            refine SOps.assign rfl ?_
            refine SOps.nil ?_
            refine SCode.ret ?_
            exact ⟨_, Res.one (.tmp rfl), congrArg (fun b => DV.v (.bool b)) (by first | exact Eq.symm (boxB_iff.2 ⟨by simp_all, by omega, fun j hj => hf j (by omega)⟩) | exact Eq.symm (Bool.eq_false_iff.2 (fun h => by have h9 := boxB_iff.1 h; first | omega | (simp_all; done) | (have h8 := (ptB_at hil).1 (h9.2.2 i hil); obtain ⟨h81, h82, h83⟩ := h8; first | omega | (rcases h83 with h83 | ⟨_, h83⟩ <;> omega))))), rfl⟩
          · try simp only [decide_eq_true_eq, decide_eq_false_iff_not, Bool.not_eq_true', Bool.not_eq_false', beq_iff_eq, bne_iff_ne, ne_eq, beq_eq_false_iff_ne, bne_eq_false_iff_eq, Int.not_lt, Int.not_le, Nat.not_lt, Nat.not_le, Int.ofNat_lt, Int.ofNat_le, Bool.not_eq_eq_eq_not, Bool.not_true, Bool.not_false] at hb5
            refine SOps.move rfl ?_
            refine SOps.bin rfl rfl rfl ?_
            refine SOps.move rfl ?_
            refine SOps.caseB 35 rfl (fun hb6 => ?_) (fun hb6 => ?_)
            · try simp only [decide_eq_true_eq, decide_eq_false_iff_not, Bool.not_eq_true', Bool.not_eq_false', beq_iff_eq, bne_iff_ne, ne_eq, beq_eq_false_iff_ne, bne_eq_false_iff_eq, Int.not_lt, Int.not_le, Nat.not_lt, Nat.not_le, Int.ofNat_lt, Int.ofNat_le, Bool.not_eq_eq_eq_not, Bool.not_true, Bool.not_false] at hb6
              refine SOps.fieldPin rfl fieldB_43_1_1 ?_
              refine SOps.loadPin rfl flatB_41 ?_
              refine SOps.move rfl ?_
              refine SOps.subI rfl rfl (by first | omega | (simp only [lenB] <;> omega)) (by first | omega | (simp only [lenB] <;> omega)) ?_
              refine SOps.indexM ((i - 1)) rfl rfl sliceB_41_3_1 (by first | omega | (simp only [lenB] <;> omega)) (by first | omega | (simp only [lenB] <;> omega)) ?_
              refine SOps.loadPin rfl flatB_3 ?_
              refine SOps.move rfl ?_
              refine SOps.bin rfl rfl rfl ?_
              refine SOps.pick rfl rfl ?_
              refine SOps.pick rfl rfl ?_
              refine SOps.nil ?_
              refine SCode.cond rfl (fun hc7 => ?_) (fun hc7 => ?_)
              · try simp only [decide_eq_true_eq, decide_eq_false_iff_not, Bool.not_eq_true', Bool.not_eq_false', beq_iff_eq, bne_iff_ne, ne_eq, beq_eq_false_iff_ne, bne_eq_false_iff_eq, Int.not_lt, Int.not_le, Nat.not_lt, Nat.not_le, Int.ofNat_lt, Int.ofNat_le, Bool.not_eq_eq_eq_not, Bool.not_true, Bool.not_false] at hc7
                refine SCode.seqR ?_
                refine SOps.assign rfl ?_
                refine SOps.nil ?_
                refine SCode.ret ?_
                exact ⟨_, Res.one (.tmp rfl), congrArg (fun b => DV.v (.bool b)) (by first | exact Eq.symm (boxB_iff.2 ⟨by simp_all, by omega, fun j hj => hf j (by omega)⟩) | exact Eq.symm (Bool.eq_false_iff.2 (fun h => by have h9 := boxB_iff.1 h; first | omega | (simp_all; done) | (have h8 := (ptB_at hil).1 (h9.2.2 i hil); obtain ⟨h81, h82, h83⟩ := h8; first | omega | (rcases h83 with h83 | ⟨_, h83⟩ <;> omega))))), rfl⟩
              · try simp only [decide_eq_true_eq, decide_eq_false_iff_not, Bool.not_eq_true', Bool.not_eq_false', beq_iff_eq, bne_iff_ne, ne_eq, beq_eq_false_iff_ne, bne_eq_false_iff_eq, Int.not_lt, Int.not_le, Nat.not_lt, Nat.not_le, Int.ofNat_lt, Int.ofNat_le, Bool.not_eq_eq_eq_not, Bool.not_true, Bool.not_false] at hc7
                refine SCode.skip ?_
                show SCode _ _ _ _
                refine SCode.region ?_
                refine SOps.addI rfl rfl (by first | omega | (simp only [lenB] <;> omega)) (by first | omega | (simp only [lenB] <;> omega)) ?_
                refine SOps.move rfl ?_
                refine SOps.nil ?_
                exact ⟨i + 1, ⟨by omega, pts_step hf hil (by omega) (by omega) (by first | (left; omega) | (right; exact ⟨by omega, by omega⟩))⟩, by omega, St.Le.of ⟨rfl, rfl, rfl, rfl, rfl, trivial⟩⟩
            · try simp only [decide_eq_true_eq, decide_eq_false_iff_not, Bool.not_eq_true', Bool.not_eq_false', beq_iff_eq, bne_iff_ne, ne_eq, beq_eq_false_iff_ne, bne_eq_false_iff_eq, Int.not_lt, Int.not_le, Nat.not_lt, Nat.not_le, Int.ofNat_lt, Int.ofNat_le, Bool.not_eq_eq_eq_not, Bool.not_true, Bool.not_false] at hb6
              refine SOps.skip rfl ?_
              refine SOps.skip rfl ?_
              refine SOps.skip rfl ?_
              refine SOps.skip rfl ?_
              refine SOps.skip rfl ?_
              refine SOps.skip rfl ?_
              refine SOps.skip rfl ?_
              refine SOps.skip rfl ?_
              refine SOps.pick rfl rfl ?_
              refine SOps.pick rfl rfl ?_
              refine SOps.nil ?_
              refine SCode.cond rfl (fun h => by cases h) (fun _ => ?_)
              refine SCode.skip ?_
              show SCode _ _ _ _
              refine SCode.region ?_
              refine SOps.addI rfl rfl (by first | omega | (simp only [lenB] <;> omega)) (by first | omega | (simp only [lenB] <;> omega)) ?_
              refine SOps.move rfl ?_
              refine SOps.nil ?_
              exact ⟨i + 1, ⟨by omega, pts_step hf hil (by omega) (by omega) (by first | (left; omega) | (right; exact ⟨by omega, by omega⟩))⟩, by omega, St.Le.of ⟨rfl, rfl, rfl, rfl, rfl, trivial⟩⟩
      · try simp only [decide_eq_true_eq, decide_eq_false_iff_not, Bool.not_eq_true', Bool.not_eq_false', beq_iff_eq, bne_iff_ne, ne_eq, beq_eq_false_iff_ne, bne_eq_false_iff_eq, Int.not_lt, Int.not_le, Nat.not_lt, Nat.not_le, Int.ofNat_lt, Int.ofNat_le, Bool.not_eq_eq_eq_not, Bool.not_true, Bool.not_false] at hc3
        refine SCode.exit ?_
        show SCode _ _ _ _
        refine SCode.seqR ?_
        refine SOps.assign rfl ?_
        refine SOps.nil ?_
        refine SCode.ret ?_
        exact ⟨_, Res.one (.tmp rfl), congrArg (fun b => DV.v (.bool b)) (by first | exact Eq.symm (boxB_iff.2 ⟨by simp_all, by omega, fun j hj => hf j (by omega)⟩) | exact Eq.symm (Bool.eq_false_iff.2 (fun h => by have h9 := boxB_iff.1 h; first | omega | (simp_all; done) | (have h8 := (ptB_at hil).1 (h9.2.2 i hil); obtain ⟨h81, h82, h83⟩ := h8; first | omega | (rcases h83 with h83 | ⟨_, h83⟩ <;> omega))))), rfl⟩
theorem sValid1 (hV : VS E) (b : Bx) (hs : b.word.size ≤ 1048576) : GCall Tryd.prog E 47 [.agg (encBx b)] [] (fun d H => d = .v (.bool (!boxB b)) ∧ H = []) := by
  refine GCall.body (C := ⟨Tryd.prog, E, true⟩) Tryd.func47 rfl (fun _ => rfl) (by kernel_rfl) rfl ?_
  refine SCode.seqR ?_
  refine SOps.boxAM rfl rfl ?_
  refine SOps.assign rfl ?_
  refine SOps.nil ?_
  refine SCode.seqR ?_
  refine SOps.loadPinA rfl aggB_43_2 (Nat.le_of_ble_eq_true rfl) ?_
  refine SOps.callP (sBox hV _ (by assumption)) rfl ?_
  rintro _ rfl
  refine SOps.un rfl rfl ?_
  refine SOps.assign rfl ?_
  refine SOps.nil ?_
  refine SCode.ret ?_
  exact ⟨_, Res.one (.tmp rfl), rfl, rfl⟩
theorem lIndexFuncB {f : FuncId} {cap : List DV} (q : Bx → Bool) (l : List Bx) (hf : ∀ x ∈ l, GCall Tryd.prog E f ([.agg (encBx x)] ++ cap) [] (fun d H => d = .v (.bool (q x)) ∧ H = [])) : GCall Tryd.prog E 64 [DBxs l, .fn f cap] [] (fun d H => d = .v (.int .i64 (findI q l)) ∧ H = []) := by
  refine GCall.body (C := ⟨Tryd.prog, E, true⟩) Tryd.func64 rfl (fun _ => rfl) (by kernel_rfl) rfl ?_
  refine SCode.seqR ?_
  refine SOps.assign rfl ?_
  refine SOps.nil ?_
  refine SCode.seq ?_
  refine SCode.seqR ?_
  refine SOps.move rfl ?_
  refine SOps.lenM rfl sliceB_22_43_2 ?_
  refine SOps.move rfl ?_
  refine SOps.nil ?_
  refine SCode.block ?_
  refine SCode.loop1 (fun (i : Nat) => (⟨19, [(0, DBxs l), (1, .fn f cap), (4, .v (.int .i64 0)), (7, .v (.int .i64 (l.length : Int))), (8, .v (.int .i64 (i : Int)))], []⟩ : St)) (fun (i : Nat) => i ≤ l.length ∧ ∀ x ∈ l.take i, q x = false) (fun (i : Nat) => l.length - i) (0) (by simp) (St.Le.of ⟨(by first | rfl | (show some _ = some _; simp)), (by first | rfl | (show some _ = some _; simp)), (by first | rfl | (show some _ = some _; simp)), (by first | rfl | (show some _ = some _; simp)), (by first | rfl | (show some _ = some _; simp)), trivial⟩ rfl (by first | rfl | (simp))) ?_
  rintro i ⟨hi, hq⟩
  refine SCode.fact (isl_len (t := 0) rfl) (fun hB => ?_)
  simp only [List.length_map, lenB] at hB
  refine SCode.seqR ?_
  refine SOps.bin rfl rfl rfl ?_
  refine SOps.nil ?_
  refine SCode.seq ?_
  refine SCode.cond rfl (fun hc1 => ?_) (fun hc1 => ?_)
  · try simp only [decide_eq_true_eq, decide_eq_false_iff_not, Bool.not_eq_true', Bool.not_eq_false', beq_iff_eq, bne_iff_ne, ne_eq, beq_eq_false_iff_ne, bne_eq_false_iff_eq, Int.not_lt, Int.not_le, Nat.not_lt, Nat.not_le, Int.ofNat_lt, Int.ofNat_le, Bool.not_eq_eq_eq_not, Bool.not_true, Bool.not_false] at hc1
    refine SCode.skip ?_
    show SCode _ _ _ _
    refine SCode.seq ?_
    refine SCode.block ?_
    refine SCode.seqR ?_
    refine SOps.move rfl ?_
    refine SOps.assign rfl ?_
    refine SOps.nil ?_
    refine SCode.seqR ?_
    refine SOps.move rfl ?_
    refine SOps.move rfl ?_
    refine SOps.move rfl ?_
    refine SOps.indexM (i) rfl rfl sliceB_22_43_2 (by omega) (by omega) ?_
    refine SOps.loadPinA rfl aggB_43_2 (Nat.le_of_ble_eq_true rfl) ?_
    refine SOps.callFn (ds := [_]) rfl (hf _ (List.getElem_mem (by omega))) rfl ?_
    rintro _ _ ⟨rfl, rfl⟩
    refine SOps.nil ?_
    refine SCode.cond rfl (fun hc2 => ?_) (fun hc2 => ?_)
    · try simp only [decide_eq_true_eq, decide_eq_false_iff_not, Bool.not_eq_true', Bool.not_eq_false', beq_iff_eq, bne_iff_ne, ne_eq, beq_eq_false_iff_ne, bne_eq_false_iff_eq, Int.not_lt, Int.not_le, Nat.not_lt, Nat.not_le, Int.ofNat_lt, Int.ofNat_le, Bool.not_eq_eq_eq_not, Bool.not_true, Bool.not_false] at hc2
      refine SCode.seqR ?_
      refine SOps.move rfl ?_
      refine SOps.assign rfl ?_
      refine SOps.nil ?_
      refine SCode.ret ?_
      exact ⟨_, Res.one (.tmp rfl), by rw [findI_at hq (by omega) hc2], rfl⟩
    · try simp only [decide_eq_true_eq, decide_eq_false_iff_not, Bool.not_eq_true', Bool.not_eq_false', beq_iff_eq, bne_iff_ne, ne_eq, beq_eq_false_iff_ne, bne_eq_false_iff_eq, Int.not_lt, Int.not_le, Nat.not_lt, Nat.not_le, Int.ofNat_lt, Int.ofNat_le, Bool.not_eq_eq_eq_not, Bool.not_true, Bool.not_false] at hc2
      refine SCode.skip ?_
      show SCode _ _ _ _
      refine SCode.region ?_
      refine SOps.addI rfl rfl (by omega) (by omega) ?_
      refine SOps.move rfl ?_
      refine SOps.nil ?_
      exact ⟨i + 1, by exact ⟨by omega, take_more hq (by omega) hc2⟩, by omega, (St.Le.of ⟨(by first | rfl | (show some _ = some _; simp)), (by first | rfl | (show some _ = some _; simp)), (by first | rfl | (show some _ = some _; simp)), (by first | rfl | (show some _ = some _; simp)), (by first | rfl | (show some _ = some _; simp)), trivial⟩ rfl (by first | rfl | (simp)))⟩
  · try simp only [decide_eq_true_eq, decide_eq_false_iff_not, Bool.not_eq_true', Bool.not_eq_false', beq_iff_eq, bne_iff_ne, ne_eq, beq_eq_false_iff_ne, bne_eq_false_iff_eq, Int.not_lt, Int.not_le, Nat.not_lt, Nat.not_le, Int.ofNat_lt, Int.ofNat_le, Bool.not_eq_eq_eq_not, Bool.not_true, Bool.not_false] at hc1
    refine SCode.exit ?_
    show SCode _ _ _ _
    refine SCode.seqR ?_
    refine SOps.assign rfl ?_
    refine SOps.nil ?_
    refine SCode.ret ?_
    exact ⟨_, Res.one (.tmp rfl), by rw [findI_none (all_of (by omega) hq)], rfl⟩
theorem lContainsFuncB {f : FuncId} {cap : List DV} (q : Bx → Bool) (l : List Bx) (hf : ∀ x ∈ l, GCall Tryd.prog E f ([.agg (encBx x)] ++ cap) [] (fun d H => d = .v (.bool (q x)) ∧ H = [])) : GCall Tryd.prog E 46 [DBxs l, .fn f cap] [] (fun d H => d = .v (.bool (l.any q)) ∧ H = []) := by
  refine GCall.body (C := ⟨Tryd.prog, E, true⟩) Tryd.func46 rfl (fun _ => rfl) (by kernel_rfl) rfl ?_
  refine SCode.seqR ?_
  refine SOps.assign rfl ?_
  refine SOps.nil ?_
  refine SCode.seqR ?_
  refine SOps.move rfl ?_
  refine SOps.move rfl ?_
  refine SOps.callP (lIndexFuncB q l hf) rfl ?_
  rintro _ rfl
  refine SOps.bin rfl rfl rfl ?_
  refine SOps.assign rfl ?_
  refine SOps.nil ?_
  refine SCode.ret ?_
  exact ⟨_, Res.one (.tmp rfl), congrArg (fun b => DV.v (.bool b)) findI_nonneg, rfl⟩
theorem not_any_box (l : List Bx) : (!l.any (fun b => !boxB b)) = l.all boxB := by
  rw [Bool.eq_iff_iff]; simp
theorem sValid (hV : VS E) (l : List Bx) (w : Int) (hb : ∀ x ∈ l, x.word.size ≤ 1048576) : GCall Tryd.prog E 17 [DBxs l, .v (.int .i64 w)] [] (fun d H => d = .v (.bool (validL l w)) ∧ H = []) := by
  refine GCall.body (C := ⟨Tryd.prog, E, true⟩) Tryd.func17 rfl (fun _ => rfl) (by kernel_rfl) rfl ?_
  refine SCode.seqR ?_
  refine SOps.assign rfl ?_
  refine SOps.nil ?_
  refine SCode.seqR ?_
  refine SOps.move rfl ?_
  refine SOps.callP (wideW _) rfl ?_
  rintro _ rfl
  refine SOps.move rfl ?_
  refine SOps.caseB 7 rfl (fun hb1 => ?_) (fun hb1 => ?_)
  · try simp only [decide_eq_true_eq, decide_eq_false_iff_not, Bool.not_eq_true', Bool.not_eq_false', beq_iff_eq, bne_iff_ne, ne_eq, beq_eq_false_iff_ne, bne_eq_false_iff_eq, Int.not_lt, Int.not_le, Nat.not_lt, Nat.not_le, Int.ofNat_lt, Int.ofNat_le, Bool.not_eq_eq_eq_not, Bool.not_true, Bool.not_false] at hb1
    refine SOps.move rfl ?_
    refine SOps.lenM rfl sliceB_22_43_2 ?_
    refine SOps.bin rfl rfl rfl ?_
    refine SOps.pick rfl rfl ?_
    refine SOps.move rfl ?_
    refine SOps.caseB 12 rfl (fun hb2 => ?_) (fun hb2 => ?_)
    · try simp only [decide_eq_true_eq, decide_eq_false_iff_not, Bool.not_eq_true', Bool.not_eq_false', beq_iff_eq, bne_iff_ne, ne_eq, beq_eq_false_iff_ne, bne_eq_false_iff_eq, Int.not_lt, Int.not_le, Nat.not_lt, Nat.not_le, Int.ofNat_lt, Int.ofNat_le, Bool.not_eq_eq_eq_not, Bool.not_true, Bool.not_false] at hb2
      refine SOps.move rfl ?_
      refine SOps.callP (lContainsFuncB (fun b => !boxB b) l (fun x hx => sValid1 hV x (hb x hx))) rfl ?_
      rintro _ rfl
      refine SOps.un rfl rfl ?_
      refine SOps.pick rfl rfl ?_
      refine SOps.assign rfl ?_
      refine SOps.nil ?_
      refine SCode.ret ?_
      exact ⟨_, Res.one (.tmp rfl), congrArg (fun b => DV.v (.bool b)) (by simp only [validL, boxesB]; first | (rw [not_any_box]; simp_all; done) | (simp_all; done) | (simp_all [not_any_box]; omega)), rfl⟩
    · try simp only [decide_eq_true_eq, decide_eq_false_iff_not, Bool.not_eq_true', Bool.not_eq_false', beq_iff_eq, bne_iff_ne, ne_eq, beq_eq_false_iff_ne, bne_eq_false_iff_eq, Int.not_lt, Int.not_le, Nat.not_lt, Nat.not_le, Int.ofNat_lt, Int.ofNat_le, Bool.not_eq_eq_eq_not, Bool.not_true, Bool.not_false] at hb2
      refine SOps.skip rfl ?_
      refine SOps.skip rfl ?_
      refine SOps.skip rfl ?_
      refine SOps.pick rfl rfl ?_
      refine SOps.assign rfl ?_
      refine SOps.nil ?_
      refine SCode.ret ?_
      exact ⟨_, Res.one (.tmp rfl), congrArg (fun b => DV.v (.bool b)) (by simp only [validL, boxesB]; first | (rw [not_any_box]; simp_all; done) | (simp_all; done) | (simp_all [not_any_box]; omega)), rfl⟩
  · try simp only [decide_eq_true_eq, decide_eq_false_iff_not, Bool.not_eq_true', Bool.not_eq_false', beq_iff_eq, bne_iff_ne, ne_eq, beq_eq_false_iff_ne, bne_eq_false_iff_eq, Int.not_lt, Int.not_le, Nat.not_lt, Nat.not_le, Int.ofNat_lt, Int.ofNat_le, Bool.not_eq_eq_eq_not, Bool.not_true, Bool.not_false] at hb1
    refine SOps.skip rfl ?_
    refine SOps.skip rfl ?_
    refine SOps.skip rfl ?_
    refine SOps.pick rfl rfl ?_
    refine SOps.move rfl ?_
    refine SOps.skip rfl ?_
    refine SOps.skip rfl ?_
    refine SOps.skip rfl ?_
    refine SOps.pick rfl rfl ?_
    refine SOps.assign rfl ?_
    refine SOps.nil ?_
    refine SCode.ret ?_
    exact ⟨_, Res.one (.tmp rfl), congrArg (fun b => DV.v (.bool b)) (by simp only [validL, boxesB]; first | (rw [not_any_box]; simp_all; done) | (simp_all; done) | (simp_all [not_any_box]; omega)), rfl⟩
theorem wordB_iff {s : ByteArray} : wordB s = true ↔ s ≠ ⟨#[]⟩ ∧ utf8R s = true ∧ anySp s = false := by
  simp only [wordB, Bool.and_eq_true, decide_eq_true_eq, Bool.not_eq_true', and_assoc]
end Go.GH
namespace Go.GH
open Go Go.Lib
def sp1 : ByteArray := ⟨#[32]⟩
def hy1 : ByteArray := ⟨#[45]⟩
def catW : List ByteArray → ByteArray
  | [] => .empty
  | w :: ws => ws.foldl (fun a x => a ++ sp1 ++ x) w
theorem catW_snoc (ws : List ByteArray) (x : ByteArray) : catW (ws ++ [x]) = if ws = [] then x else catW ws ++ sp1 ++ x := by
  cases ws with
  | nil => rfl
  | cons w ws =>
    rw [if_neg (by simp)]
    show (ws ++ [x]).foldl _ w = _
    rw [List.foldl_append]; rfl
theorem catW_take {l : List ByteArray} {i : Nat} (h : i < l.length) : catW (l.take (i + 1)) = if i = 0 then l[i] else catW (l.take i) ++ sp1 ++ l[i] := by
  rw [List.take_add_one, List.getElem?_eq_getElem h]
  show catW (l.take i ++ [l[i]]) = _
  rw [catW_snoc]
  by_cases h0 : i = 0
  · subst h0; rfl
  · rw [if_neg h0, if_neg (by intro e; have h9 := congrArg List.length e; rw [List.length_take, List.length_nil] at h9; omega)]
theorem catW_size {M : Nat} : ∀ (i : Nat) {l : List ByteArray}, (∀ w ∈ l, w.size ≤ M) → i ≤ l.length → (catW (l.take i)).size ≤ (M + 1) * i
  | 0, l, h, _ => by rw [List.take_zero]; exact Nat.zero_le _
  | i + 1, l, h, hi => by
    have hil : i < l.length := by omega
    have ih := catW_size i h (by omega)
    have hw := h _ (List.getElem_mem hil)
    rw [catW_take hil, Nat.mul_add, Nat.mul_one]
    split
    · omega
    · rw [ByteArray.size_append, ByteArray.size_append]
      have : sp1.size = 1 := rfl
      omega
def textL (l : Ln) : ByteArray := if l.hyph then catW l.words ++ hy1 else catW l.words
theorem ba_list (x : ByteArray) : (⟨x.data.toList.toArray⟩ : ByteArray) = x := by
  cases x; simp
end Go.GH
namespace Go.GH
open Go Go.RowKit

def bytesD (s : ByteArray) : List (List DV) := s.data.toList.map encY
theorem bytesD_length (s : ByteArray) : (bytesD s).length = s.size := by simp [bytesD]
/-- What append does, of a nil slice or one that owns its block g. -/
theorem append_runS {P : Program} {w : World} {F : Nat → Prop} {T e sz by_ : Nat} (hT : sliceB P T e sz = true) (hE : elemB P e sz by_ = true) {x : Value} {es : List (List DV)} {U : TypeId} (s : ByteArray) (hU : strB P U = true) (hsz1 : sz = 1) (hF : ∀ b, F b → b < w.heap.size)
    (hx : (x = .slice none 0 0 ∧ es = []) ∨ ∃ g cap cs, x = .slice (some ⟨g, 0, none⟩) es.length cap ∧ ¬ F g ∧ es.length ≤ cap ∧ cap * sz ≤ cs.size ∧ w.heap[g]? = some (.cells cs e (0, 0)) ∧ ObjRep w F g (.row e sz es))
    (hne : bytesD s ≠ []) (hB : es.length + (bytesD s).length ≤ lenB) (hby : (es.length + (bytesD s).length) * by_ ≤ 140737488355328) (ty : TypeId) :
    ∃ g' cap' w', (Builtin.append_ #[T, U] ty #[x, .string s]).run P w = .ok (.slice (some ⟨g', 0, none⟩) (es.length + (bytesD s).length) cap') w' ∧ es.length + (bytesD s).length ≤ cap' ∧
      ((∃ A n c, x = .slice (some ⟨g', A, none⟩) n c) ∨ g' = w.heap.size) ∧ Step (· = g') w w' ∧ ObjRep w' F g' (.row e sz (es ++ bytesD s)) ∧
      (∃ cs, w'.heap[g']? = some (.cells cs e (0, 0)) ∧ cap' * sz ≤ cs.size) := by
  obtain ⟨hu, i0, hi0, hs0⟩ := sliceB_spec hT
  obtain ⟨i, z, hi, hz, hzs, hsz, hbs, hpos⟩ := elemB_spec hE
  obtain rfl : i0 = i := Option.some.inj (hi0.symm.trans hi)
  obtain ⟨ns, hns⟩ : ∃ ns, bytesD s = ns := ⟨_, rfl⟩
  rw [hns] at hne hB hby ⊢
  obtain ⟨news, hnews0⟩ : ∃ news, news = Lib.strCells s := ⟨_, rfl⟩
  have hsl : s.size = ns.length := by rw [← hns, bytesD_length]
  have hU' := strB_spec hU
  have hl : news.length = ns.length * sz := by rw [hnews0, Lib.strCells_length, hsl, hsz1, Nat.mul_one]
  have h1 : ∀ u ∈ news, u.oneCell' = true := fun u hu => by
    rw [hnews0, Lib.strCells, List.mem_map] at hu
    obtain ⟨y, _, rfl⟩ := hu
    rfl
  have hn : ∀ (i : Nat) e', ns[i]? = some e' → e'.length = sz ∧ ∀ (j : Nat) d, e'[j]? = some d → ∃ u, news[i * sz + j]? = some u ∧ Rep w F u d := fun i e' he => by
    rw [← hns, bytesD, List.getElem?_map] at he
    obtain ⟨y, hy, rfl⟩ := Option.map_eq_some_iff.1 he
    refine ⟨by rw [hsz1]; rfl, fun j d hj => ?_⟩
    have hj0 : j = 0 := by have h9 : j < 1 := (List.getElem?_eq_some_iff.1 hj).1; omega
    subst hj0
    simp only [encY, List.getElem?_cons_zero, Option.some.injEq] at hj
    subst hj
    refine ⟨.int .u8 y.toNat, ?_, .v ?_⟩
    · rw [hnews0, Lib.strCells, hsz1, Nat.mul_one, Nat.add_zero, List.getElem?_map, hy]; rfl
    · show IntKind.u8.has _
      have := y.toNat_lt
      simp only [IntKind.has, IntKind.min, IntKind.max, IntKind.signed, IntKind.bits]
      simp
      omega
  have hspos : 0 < s.size := by rw [hsl]; exact List.length_pos_iff.2 hne
  have hda : s.data.map (fun b => Value.int .u8 b.toNat) = news.toArray := by rw [hnews0, Lib.strCells, ← Array.toList_map, Array.toArray_toList]
  unfold lenB at hB
  -- a fresh block that holds olds and news
  have fresh : ∀ (olds : List Value) (extra : Array Value), olds.length = es.length * sz → (∀ (i : Nat) e', es[i]? = some e' → e'.length = sz ∧ ∀ (j : Nat) d, e'[j]? = some d → ∃ u, olds[i * sz + j]? = some u ∧ u.oneCell' = true ∧ Rep w F u d) →
      ObjRep (w.drew.alloc (.cells (olds.toArray ++ news.toArray ++ extra) e)) F w.heap.size (.row e sz (es ++ ns)) := fun olds extra ho hold => by
    have k := (Step.drew (fun _ => False) w).trans (Step.alloc (fun _ => False) w.drew (.cells (olds.toArray ++ news.toArray ++ extra) e))
    have hmono : ∀ {u d}, Rep w F u d → Rep (w.drew.alloc (.cells (olds.toArray ++ news.toArray ++ extra) e)) F u d := fun hr => hr.mono (fun b hb => k.block b (hF b hb) (fun x => x)) k.shape (fun _ h => h)
    refine ⟨_, heap_new' w.drew _, by simp [ho, hl, Nat.add_mul], by simp [lenB]; omega, fun q e' hq => ?_⟩
    rw [List.getElem?_append] at hq
    split at hq
    · rename_i hlt
      refine ⟨(hold q e' hq).1, fun j d hj => ?_⟩
      obtain ⟨u, h2, h3, h4⟩ := (hold q e' hq).2 j d hj
      have hlt2 := (List.getElem?_eq_some_iff.1 h2).1
      refine ⟨u, ?_, h3, hmono h4⟩
      rw [Array.getElem?_append, if_pos (by simp; omega), Array.getElem?_append, if_pos (by simpa using hlt2)]
      simpa using h2
    · rename_i hlt
      refine ⟨(hn _ e' hq).1, fun j d hj => ?_⟩
      obtain ⟨u, h2, h4⟩ := (hn _ e' hq).2 j d hj
      have hlt2 := (List.getElem?_eq_some_iff.1 h2).1
      refine ⟨u, ?_, h1 u (List.mem_of_getElem? h2), hmono h4⟩
      have e1 : q * sz + j = es.length * sz + ((q - es.length) * sz + j) := by rw [← Nat.add_assoc, ← Nat.add_mul]; congr 2; omega
      rw [e1, Array.getElem?_append, if_pos (by simp [ho]; omega), Array.getElem?_append, if_neg (by simp [ho])]
      simp only [List.size_toArray, ho, Nat.add_sub_cancel_left]
      simpa using h2
  have freshSt : ∀ o T, Step T w (w.drew.alloc o) := fun o T => (Step.drew T w).trans (Step.alloc T w.drew o)
  rcases hx with ⟨rfl, rfl⟩ | ⟨g, cap, cs, rfl, hgF, hcap, hcs, hg, hrow⟩
  · have hr := run_append_nil_string (P := P) (w := w) T U ty e i0 z hu hU' hi hz s hspos (by rw [hsl]; simp at hB; omega) (by rw [hsl, hbs]; simp at hby; omega)
    rw [hda, hsl] at hr
    refine ⟨w.heap.size, grownCap w ns.length 0 e, w.drew.alloc (.cells (news.toArray ++ Builtin.zeroCells z.cells (grownCap w ns.length 0 e - ns.length)) e), ?_, ?_, .inr rfl, freshSt _ _, ?_, _, heap_new' w.drew _, ?_⟩
    · simpa using hr
    · simpa using grownCap_ge w ns.length 0 e
    · have := fresh [] (Builtin.zeroCells z.cells (grownCap w ns.length 0 e - ns.length)) (by simp) (fun i e' h => by simp at h)
      simpa using this
    · have := grownCap_ge w ns.length 0 e
      simp only [Array.size_append, List.size_toArray, size_zeroCells, hzs, hl]
      rw [← Nat.add_mul]
      exact Nat.mul_le_mul_right _ (by omega)
  · by_cases hroom : es.length + ns.length ≤ cap
    · obtain ⟨cs', hg', k2, k3, k4⟩ := hrow
      obtain rfl : cs' = cs := by rw [hg] at hg'; simp at hg'; exact hg'.symm
      have hfit : es.length * sz + news.length ≤ cs'.size := by
        have : (es.length + ns.length) * sz ≤ cap * sz := Nat.mul_le_mul_right _ hroom
        rw [Nat.add_mul] at this
        omega
      have hr : (Builtin.append_ #[T, U] ty #[.slice (some ⟨g, 0, none⟩) es.length cap, .string s]).run P w = .ok (.slice (some ⟨g, 0, none⟩) (es.length + ns.length) cap) (w.setRow g (cs'.toList.take (es.length * sz) ++ news ++ cs'.toList.drop (es.length * sz + news.length)).toArray) := by
        have h := Lib.run_append_room_string (P := P) (w := w) T U ty e i0 hu hU' hi (by rw [hsz, hsz1]) g es.length cap cs' hg s (by rw [hsl]; exact hroom) (by rw [hl, hsz1, Nat.mul_one, Nat.mul_one, ← hsl] at hfit; exact hfit)
        rw [hnews0, Lib.strCells_length, hsz1, Nat.mul_one, ← hsl]; exact h
      have hheap := setRow_heap w g cs' (cs'.toList.take (es.length * sz) ++ news ++ cs'.toList.drop (es.length * sz + news.length)).toArray e (0, 0) hg
      have hsame : (cs'.toList.take (es.length * sz) ++ news ++ cs'.toList.drop (es.length * sz + news.length)).length = cs'.size := by simp; omega
      have hst : Step (· = g) w (w.setRow g (cs'.toList.take (es.length * sz) ++ news ++ cs'.toList.drop (es.length * sz + news.length)).toArray) :=
        ⟨rfl, rfl, rfl, by simp, fun b _ hb => setRow_other w g b _ hb, fun b s hb => by
          unfold World.shape? at *
          by_cases e1 : b = g
          · subst e1; rw [hheap]; rw [hg] at hb; simpa only [List.size_toArray, hsame] using hb
          · rw [setRow_other w g b _ e1]; exact hb⟩
      have hmono : ∀ {u d}, Rep w F u d → Rep (w.setRow g (cs'.toList.take (es.length * sz) ++ news ++ cs'.toList.drop (es.length * sz + news.length)).toArray) F u d := fun hr =>
        hr.mono (fun b hb => setRow_other w g b _ (fun e => hgF (e ▸ hb))) hst.shape (fun _ h => h)
      refine ⟨g, cap, _, hr, hroom, .inl ⟨0, _, _, rfl⟩, hst, ⟨_, hheap, ?_, by simp [lenB]; omega, fun q e' hq => ?_⟩, _, hheap, ?_⟩
      · simp only [List.size_toArray, hsame, List.length_append, Nat.add_mul]; omega
      · rw [List.getElem?_append] at hq
        split at hq
        · rename_i hlt
          refine ⟨(k4 q e' hq).1, fun j d hj => ?_⟩
          obtain ⟨u, h2, h3, h4⟩ := (k4 q e' hq).2 j d hj
          have hjl : j < sz := by rw [← (k4 q e' hq).1]; exact (List.getElem?_eq_some_iff.1 hj).1
          have : (q + 1) * sz ≤ es.length * sz := Nat.mul_le_mul_right _ (by omega)
          rw [Nat.add_mul] at this
          refine ⟨u, ?_, h3, hmono h4⟩
          simp only [List.getElem?_toArray]
          rw [List.getElem?_append, if_pos (by simp; omega), List.getElem?_append, if_pos (by simp; omega), List.getElem?_take, if_pos (by omega)]
          simpa using h2
        · rename_i hlt
          refine ⟨(hn _ e' hq).1, fun j d hj => ?_⟩
          obtain ⟨u, h2, h4⟩ := (hn _ e' hq).2 j d hj
          have hlt2 := (List.getElem?_eq_some_iff.1 h2).1
          refine ⟨u, ?_, h1 u (List.mem_of_getElem? h2), hmono h4⟩
          have e1 : q * sz + j = es.length * sz + ((q - es.length) * sz + j) := by rw [← Nat.add_assoc, ← Nat.add_mul]; congr 2; omega
          have e2 : (cs'.toList.take (es.length * sz)).length = es.length * sz := by simp; omega
          simp only [List.getElem?_toArray]
          rw [e1, List.getElem?_append, if_pos (by simp; omega), List.getElem?_append, if_neg (by rw [e2]; omega), e2, Nat.add_sub_cancel_left]
          exact h2
      · simp only [List.size_toArray, hsame]; exact hcs
    · obtain ⟨cs', hg', k2, k3, k4⟩ := hrow
      obtain rfl : cs' = cs := by rw [hg] at hg'; simp at hg'; exact hg'.symm
      have hr := Lib.run_append_grow_string (P := P) (w := w) T U ty e i0 z hu hU' hi hz ⟨g, 0, none⟩ es.length cap (cs'.toList.take (es.length * sz)) (by simp; rw [hsz]; omega)
        (fun j v hj => by
          rw [List.getElem?_take] at hj
          split at hj
          · rw [add_plain', cell_of_row w g _ cs' _ _ hg]; simpa using hj
          · cases hj) s (by rw [hsl]; omega) (by rw [hsl]; omega) (growslice_fits (by rw [hsl]; omega) (by rw [hsl, hbs]; exact hby))
      rw [← hnews0, hsl] at hr
      refine ⟨w.heap.size, _, _, hr, grownCap_ge _ _ _ _, .inr rfl, freshSt _ _, ?_, _, heap_new' w.drew _, ?_⟩
      · refine fresh _ _ (by simp; omega) (fun q e' hq => ⟨(k4 q e' hq).1, fun j d hj => ?_⟩)
        obtain ⟨u, h2, h3, h4⟩ := (k4 q e' hq).2 j d hj
        have hjl : j < sz := by rw [← (k4 q e' hq).1]; exact (List.getElem?_eq_some_iff.1 hj).1
        have hql : q < es.length := (List.getElem?_eq_some_iff.1 hq).1
        have : (q + 1) * sz ≤ es.length * sz := Nat.mul_le_mul_right _ (by omega)
        rw [Nat.add_mul] at this
        exact ⟨u, by rw [List.getElem?_take, if_pos (by omega)]; simpa using h2, h3, h4⟩
      · have := grownCap_ge w (es.length + ns.length) cap e
        simp only [Array.size_append, List.size_toArray, size_zeroCells, hzs, hl, List.length_take, Array.length_toList]
        rw [Nat.min_eq_left (by omega), ← Nat.add_mul, ← Nat.add_mul]
        exact Nat.mul_le_mul_right _ (by omega)


section
variable {C : Ctx} {E : Env} {base : Base} {F : Nat → Prop} {st : St} {a : Act} {w : World} {ops : Array Oper} {rest : List Oper} {R : St → Prop}
  {t : Tmp} {ty : TypeId} {pos : String} {aft : Array Edge} {g : Option (Nat × Bool)}

theorem exec_appendS (a : Act) (xo yo : Operand) (T U : TypeId) {P : Program} {w w' : World} {v : Value} (h : (Builtin.append_ #[T, U] ty #[a.eval xo, a.eval yo]).run P w = .ok v w') :
    (execOp a.eval ⟨some t, .call { callee := .builtin .append, args := #[xo, yo], argTypes := #[T, U] }, ty, pos, aft, g⟩).run P w = .ok (.value v) w' := by
  simp [execOp, resolve, invoke, builtin, h]

/-- append onto a nil slice. -/
theorem SOps.appendNilS {T e by_ : Nat} {xo yo : Operand} {U : TypeId} {s : ByteArray} (hT : sliceB C.P T e 1 = true) (hE : elemB C.P e 1 by_ = true) (hx : st.val xo = some (.v (.slice none 0 0))) (hy : st.val yo = some (.v (.string s)))
    (hU : strB C.P U = true) (hne : bytesD s ≠ []) (hB : (bytesD s).length ≤ lenB) (hby : (bytesD s).length * by_ ≤ 140737488355328)
    (hrest : ∀ b, st.fresh b → SOps C ops rest ⟨st.n, (t, .sl b 1 0 (bytesD s).length) :: st.slots, (b, .row e 1 (bytesD s)) :: st.heap⟩ R)
    (hg : st.wants ops g = some true := by rfl) (ht : Nat.blt t st.n = true := by rfl) :
    SOps C ops (⟨some t, .call { callee := .builtin .append, args := #[xo, yo], argTypes := #[T, U] }, ty, pos, aft, g⟩ :: rest) st R := by
  refine SOps.op (R1 := fun st' => ∃ b, st.fresh b ∧ st' = ⟨st.n, (t, .sl b 1 0 (bytesD s).length) :: st.slots, (b, .row e 1 (bytesD s)) :: st.heap⟩) hg ?_ (fun st' ⟨b, hb, e⟩ => e ▸ hrest b hb)
  intro base ok a w F hs K Q hK
  obtain ⟨g', cap', w', hr, hcap, hloc, hst, hrow, cs, hcs1, hcs2⟩ := append_runS (P := C.P) (es := []) hT hE s hU rfl (fun b hb => (hs.lt b hb).1) (.inl ⟨(hs.val hx).inv_v.1, rfl⟩) hne (by simpa using hB) (by simpa using hby) ty
  have hg' : g' = w.heap.size := by
    rcases hloc with ⟨A, n, c, h⟩ | h
    · rw [(hs.val hx).inv_v.1] at h; simp at h
    · exact h
  subst hg'
  unfold Oper.wp
  rw [exec_appendS a xo yo T U (by rw [(hs.val hy).inv_v.1]; exact hr), Oper.upon_value]
  have h1 := hs.world (hst.then (T' := fun _ => False) (Step.refl _ _) (fun _ _ h => h.elim) |>.mono (fun i hi h => absurd hi (by rw [h]; exact Nat.lt_irrefl _)))
  have hfresh : st.fresh w.heap.size := fun p hp e => Nat.lt_irrefl _ (e ▸ (hs.heap p hp).2.2.lt)
  refine hK _ _ _ ⟨w.heap.size, hfresh, rfl⟩ ⟨F, ?_⟩
  have hrow' : ObjRep w' F w.heap.size (.row e 1 (bytesD s)) := by simpa using hrow
  have h2 : SimF C.E base F ⟨st.n, st.slots, (w.heap.size, .row e 1 (bytesD s)) :: st.heap⟩ a w' := {
    keep := h1.keep, base_lt := h1.base_lt, sub := h1.sub, lt := h1.lt, env := h1.env, size := h1.size, slots := h1.slots
    heap := fun p hp => by
      rcases List.mem_cons.1 hp with rfl | hp
      · exact ⟨.inr hs.keep.size, fun hF => Nat.lt_irrefl _ (hs.lt _ hF).1, hrow'⟩
      · exact h1.heap p hp
    keys := by
      simp only [List.map_cons, List.nodup_cons]
      refine ⟨fun hm => ?_, h1.keys⟩
      obtain ⟨p, hp, e⟩ := List.mem_map.1 hm
      exact hfresh p hp e
    defers := h1.defers }
  refine SimF.put (st := ⟨st.n, st.slots, (w.heap.size, .row e 1 (bytesD s)) :: st.heap⟩) h2 (by simpa using ht) ?_
  have := Rep.sl (w := w') (F := F) (b := w.heap.size) (sz := 1) (off := 0) (len := (bytesD s).length) (cap := cap') (e := e) (n := cs.size) (by simpa using hcap) (by simp [World.shape?, hcs1]) (by simpa using hcs2) hB
  simpa using this

/-- append onto a slice that owns its row. -/
theorem SOps.appendOwnS (i : Nat) {T e by_ b n : Nat} {xo yo : Operand} {U : TypeId} {s : ByteArray} {es : List (List DV)} (hT : sliceB C.P T e 1 = true) (hE : elemB C.P e 1 by_ = true) (hx : st.val xo = some (.sl b 1 0 n)) (hy : st.val yo = some (.v (.string s)))
    (hi : st.heap[i]? = some (b, .row e 1 es)) (hn : es.length = n) (hU : strB C.P U = true) (hne : bytesD s ≠ []) (hB : n + (bytesD s).length ≤ lenB) (hby : (n + (bytesD s).length) * by_ ≤ 140737488355328)
    (hrest : ∀ b', (b' = b ∨ st.fresh b') → SOps C ops rest ⟨st.n, (t, .sl b' 1 0 (n + (bytesD s).length)) :: st.slots, st.heap.set i (b', .row e 1 (es ++ (bytesD s)))⟩ R)
    (hg : st.wants ops g = some true := by rfl) (ht : Nat.blt t st.n = true := by rfl) :
    SOps C ops (⟨some t, .call { callee := .builtin .append, args := #[xo, yo], argTypes := #[T, U] }, ty, pos, aft, g⟩ :: rest) st R := by
  refine SOps.op (R1 := fun st' => ∃ b', (b' = b ∨ st.fresh b') ∧ st' = ⟨st.n, (t, .sl b' 1 0 (n + (bytesD s).length)) :: st.slots, st.heap.set i (b', .row e 1 (es ++ (bytesD s)))⟩) hg ?_ (fun st' ⟨b', hb, e⟩ => e ▸ hrest b' hb)
  intro base ok a w F hs K Q hK
  have hmem := hs.heap _ (List.mem_of_getElem? hi)
  have h1 := hs.val hx
  have hyr := hs.val hy
  generalize hv : a.eval xo = v at h1
  cases h1 with
  | @sl b _ off len cap e' q q1 q2 q3 q4 =>
    have hrow0 := hmem.2.2
    obtain ⟨cs, k1, k2, k3, k4⟩ := hrow0
    have hsh : w.shape? b = some (e, cs.size) := by simp [World.shape?, k1]
    have hcapq : cap * 1 ≤ cs.size := by
      rw [hsh] at q2
      have := (Prod.mk.inj (Option.some.inj q2)).2
      rw [this]; simpa using q3
    obtain ⟨g', cap', w', hr, hcap, hloc, hst, hrow, cs', hcs1, hcs2⟩ := append_runS (P := C.P) (x := .slice (some ⟨b, 0, none⟩) n cap) (es := es) hT hE s hU rfl (fun b hb => (hs.lt b hb).1)
      (.inr ⟨b, cap, cs, by rw [hn], hmem.2.1, by rw [hn]; exact q1, hcapq, k1, hmem.2.2⟩) hne (by rw [hn]; exact hB) (by rw [hn]; exact hby) ty
    rw [hn] at hr hcap
    unfold Oper.wp
    rw [exec_appendS a xo yo T U (by rw [hv, hyr.inv_v.1]; simpa using hr), Oper.upon_value]
    have hrep : Rep w' F (.slice (some ⟨g', 0, none⟩) (n + (bytesD s).length) cap') (.sl g' 1 0 (n + (bytesD s).length)) := by
      have := Rep.sl (w := w') (F := F) (b := g') (sz := 1) (off := 0) (len := n + (bytesD s).length) (cap := cap') (e := e) (n := cs'.size) hcap (by simp [World.shape?, hcs1]) (by simpa using hcs2) hB
      simpa using this
    by_cases hgb : g' = b
    · subst hgb
      refine hK _ _ _ ⟨g', .inl rfl, rfl⟩ ⟨F, ?_⟩
      exact SimF.put (st := ⟨st.n, st.slots, st.heap.set i (g', .row e 1 (es ++ (bytesD s)))⟩) (hs.write hi hst hrow) (by simpa using ht) hrep
    · have hnew : g' = w.heap.size := by
        rcases hloc with ⟨A, n', c, h⟩ | h
        · injection h with h1; injection h1 with h1; injection h1 with h1 _; exact absurd h1.symm hgb
        · exact h
      subst hnew
      have hfresh : st.fresh w.heap.size := fun p hp e => Nat.lt_irrefl _ (e ▸ (hs.heap p hp).2.2.lt)
      have h2 := hs.world (hst.mono (T' := fun _ => False) (fun i hi h => absurd hi (by rw [h]; exact Nat.lt_irrefl _)))
      refine hK _ _ _ ⟨w.heap.size, .inr hfresh, rfl⟩ ⟨F, ?_⟩
      have h3 : SimF C.E base F ⟨st.n, st.slots, st.heap.set i (w.heap.size, .row e 1 (es ++ (bytesD s)))⟩ a w' := {
        keep := h2.keep, base_lt := h2.base_lt, sub := h2.sub, lt := h2.lt, env := h2.env, size := h2.size, slots := h2.slots
        heap := fun p hp => by
          rcases mem_set hp with rfl | ⟨j, hj, hp⟩
          · exact ⟨.inr hs.keep.size, fun hF => Nat.lt_irrefl _ (hs.lt _ hF).1, hrow⟩
          · exact h2.heap p (List.mem_of_getElem? hp)
        keys := by
          rw [List.map_set]
          exact nodup_set h2.keys (fun hm => by
            obtain ⟨p, hp, e⟩ := List.mem_map.1 hm
            exact hfresh p hp e)
        defers := h2.defers }
      exact SimF.put (st := ⟨st.n, st.slots, st.heap.set i (w.heap.size, .row e 1 (es ++ (bytesD s)))⟩) h3 (by simpa using ht) hrep
theorem SOps.appendAccS (H1 H2 : DHeap) {T e by_ b : Nat} {xo yo : Operand} {U : TypeId} {s : ByteArray} {es : List (List DV)} (hT : sliceB C.P T e 1 = true) (hE : elemB C.P e 1 by_ = true) (hx : st.val xo = some (accD 1 b es)) (hy : st.val yo = some (.v (.string s)))
    (hh : st.heap = H1 ++ (accH e 1 b es ++ H2)) (hU : strB C.P U = true) (hne : bytesD s ≠ []) (hB : es.length + (bytesD s).length ≤ lenB) (hby : (es.length + (bytesD s).length) * by_ ≤ 140737488355328)
    (hrest : ∀ b', SOps C ops rest ⟨st.n, (t, accD 1 b' (es ++ (bytesD s))) :: st.slots, H1 ++ (accH e 1 b' (es ++ (bytesD s)) ++ H2)⟩ R)
    (hg : st.wants ops g = some true := by rfl) (ht : Nat.blt t st.n = true := by rfl) :
    SOps C ops (⟨some t, .call { callee := .builtin .append, args := #[xo, yo], argTypes := #[T, U] }, ty, pos, aft, g⟩ :: rest) st R := by
  have hcons : ∀ b', accD 1 b' (es ++ (bytesD s)) = .sl b' 1 0 (es.length + (bytesD s).length) ∧ accH e 1 b' (es ++ (bytesD s)) = [(b', .row e 1 (es ++ (bytesD s)))] := fun b' => by
    cases hl : es ++ (bytesD s) with
    | nil => simp at hl; exact absurd hl.2 hne
    | cons x l =>
      have : es.length + (bytesD s).length = l.length + 1 := by rw [← List.length_append, hl]; rfl
      exact ⟨by simp [accD, this], rfl⟩
  cases es with
  | nil =>
    refine SOps.appendNilS hT hE hx hy hU hne (by simpa using hB) (by simpa using hby) (fun b' hb' => ?_) hg ht
    have := hrest b'
    rw [(hcons b').1, (hcons b').2] at this
    simp only [List.length_nil, Nat.zero_add, List.nil_append] at this
    refine SOps.weaken (st' := ⟨st.n, (t, .sl b' 1 0 (bytesD s).length) :: st.slots, H1 ++ ([(b', .row e 1 (bytesD s))] ++ H2)⟩) ⟨rfl, fun u e hu => .inl hu, (b', .row e 1 (bytesD s)) :: st.heap, ?_, List.Sublist.refl _⟩ this
    rw [hh]
    simp only [accH, List.nil_append, List.singleton_append]
    exact List.perm_middle
  | cons x l =>
    have hi : st.heap[H1.length]? = some (b, .row e 1 (x :: l)) := by rw [hh]; simp [accH]
    refine SOps.appendOwnS H1.length (n := (x :: l).length) hT hE hx hy hi rfl hU hne hB hby (fun b' hb' => ?_) hg ht
    have := hrest b'
    rw [(hcons b').1, (hcons b').2] at this
    have e1 : st.heap.set H1.length (b', .row e 1 (x :: l ++ (bytesD s))) = H1 ++ ([(b', .row e 1 (x :: l ++ (bytesD s)))] ++ H2) := by
      rw [hh]; simp [accH, List.set_append]
    rw [e1]
    exact this

theorem append_zeroS {P : Program} {w : World} {T U e sz : Nat} {s : ByteArray} (hT : sliceB P T e sz = true) (hU : strB P U = true) (h0 : s.size = 0) (ty : TypeId) (A : Option Addr) (len cap : Nat) (hcap : len ≤ cap) :
    (Builtin.append_ #[T, U] ty #[.slice A len cap, .string s]).run P w = .ok (.slice A len cap) w := by
  obtain ⟨hu, i, hi, hs⟩ := sliceB_spec hT
  have hU' := strB_spec hU
  have hd : s = ⟨#[]⟩ := by
    cases s with
    | mk d => simp at h0; rw [h0]; rfl
  subst hd
  unfold Builtin.append_
  simp only [List.getElem?_toArray, List.getElem?_cons_zero, List.getElem?_cons_succ, Sem.run_bind, run_underlying hu, run_underlying hU', Result.andThen_ok, sizeOf, typeInfo, run_program, hi, Sem.run_pure, pure_bind, Builtin.lenOf, Bool.false_eq_true, if_false, Bool.not_false, if_true]
  rw [if_pos (show len + (ByteArray.mk #[]).size ≤ cap from hcap)]
  cases A <;> simp [Builtin.firstCells, storeCells] <;> rfl
/-- A string, which may be empty, is appended to an accumulator. -/
theorem SOps.appendAccES (H1 H2 : DHeap) {T e by_ b : Nat} {xo yo : Operand} {U : TypeId} {s : ByteArray} {es : List (List DV)} (hT : sliceB C.P T e 1 = true) (hE : elemB C.P e 1 by_ = true) (hx : st.val xo = some (accD 1 b es)) (hy : st.val yo = some (.v (.string s)))
    (hh : st.heap = H1 ++ (accH e 1 b es ++ H2)) (hU : strB C.P U = true) (hB : es.length + (bytesD s).length ≤ lenB) (hby : (es.length + (bytesD s).length) * by_ ≤ 140737488355328)
    (hrest : ∀ b', SOps C ops rest ⟨st.n, (t, accD 1 b' (es ++ (bytesD s))) :: st.slots, H1 ++ (accH e 1 b' (es ++ (bytesD s)) ++ H2)⟩ R)
    (hg : st.wants ops g = some true := by rfl) (ht : Nat.blt t st.n = true := by rfl) :
    SOps C ops (⟨some t, .call { callee := .builtin .append, args := #[xo, yo], argTypes := #[T, U] }, ty, pos, aft, g⟩ :: rest) st R := by
  by_cases hne : bytesD s = []
  · have h0 : s.size = 0 := by rw [← bytesD_length, hne]; rfl
    have h1 := hrest b
    rw [hne, List.append_nil, ← hh] at h1
    refine SOps.val rfl hg ht (fun base a w F hs => ?_) h1
    have h2 := hs.val hx
    refine ⟨a.eval xo, ?_, h2⟩
    have key : ∃ A len cap, a.eval xo = .slice A len cap ∧ len ≤ cap := by
      generalize a.eval xo = v at h2
      cases es with
      | nil => exact ⟨none, 0, 0, h2.inv_v.1, Nat.le_refl _⟩
      | cons x l =>
        have h3 : Rep w F v (.sl b 1 0 (l.length + 1)) := h2
        cases h3 with
        | sl q1 q2 q3 q4 => exact ⟨_, _, _, rfl, q1⟩
    obtain ⟨A, len, cap, h4, h5⟩ := key
    have := append_zeroS (P := C.P) (w := w) hT hU h0 ty A len cap h5
    rw [exec_appendS a xo yo T U (v := .slice A len cap) (w' := w) (by rw [(hs.val hy).inv_v.1, h4]; exact this), h4]
  · exact SOps.appendAccS H1 H2 hT hE hx hy hh hU hne hB hby hrest hg ht

end
end Go.GH
namespace Go.GH
open Go Go.Proofs
variable {E : Env}

/-! #### strings.Builder -/
def adrB (b : Nat) : Bool → DV
  | true => .vref b 84 2
  | false => .v (.pointer none)
def bldH (b g : Nat) (used : Bool) (bs : List UInt8) : DHeap := (b, .row 84 2 [[adrB b used, accD 1 g (bs.map encY)]]) :: accH 5 1 g (bs.map encY)
theorem ptr_B : ptrB Tryd.prog 81 84 := ⟨by kernel_rfl, by
  have h : (Tryd.prog.info? 84).map (fun j => decide (j.size ≠ 0)) = some true := by kernel_rfl
  obtain ⟨j, h1, h2⟩ := Option.map_eq_some_iff.1 h
  exact ⟨j, h1, of_decide_eq_true h2⟩⟩
theorem up_B : Tryd.prog.underlying 98 = some .unsafePointer := by kernel_rfl
theorem lies_B : liesAt Tryd.prog Tryd.prog.depth 84 (2 / Tryd.prog.cellsOf 84) 0 84 1 = true := by kernel_rfl
theorem noEsc_B : noEscB Tryd.prog 69 := ⟨Tryd.f69, Tryd.func69, by kernel_rfl, by kernel_rfl, by kernel_rfl, by kernel_rfl⟩
theorem fld0_B : fieldB Tryd.prog 84 0 0 = true := by kernel_rfl
theorem fld1_B : fieldB Tryd.prog 84 1 1 = true := by kernel_rfl
theorem flatP_B : flatB Tryd.prog 81 = true := by kernel_rfl
theorem flatS_B : flatB Tryd.prog 82 = true := by kernel_rfl
theorem oneP_B : oneB Tryd.prog 81 = true := by kernel_rfl
theorem oneS_B : oneB Tryd.prog 82 = true := by kernel_rfl
theorem slice_B : sliceB Tryd.prog 82 5 1 = true := by kernel_rfl
theorem elem_B : elemB Tryd.prog 5 1 1 = true := by kernel_rfl
theorem zero_By : zeroIs Tryd.prog 5 (.int .u8 0) := by unfold zeroIs; kernel_rfl
theorem mixed_B : Tryd.prog.follows .mixedOrders = true := by kernel_rfl
theorem ptr_By : Tryd.prog.underlying 95 = some (.pointer 5) := by kernel_rfl
theorem cells_By : Tryd.prog.cellsOf 5 = 1 := by kernel_rfl
theorem bCopy (b : Nat) (used : Bool) (x : DV) (hx : x.one = true) : GCall Tryd.prog E 65 [.vref b 84 2] [(b, .row 84 2 [[adrB b used, x]])] (fun d H => d = .v (.tuple #[]) ∧ H = [(b, .row 84 2 [[adrB b true, x]])]) := by
  refine GCall.body (C := ⟨Tryd.prog, E, false⟩) Tryd.func65 rfl (fun h => by cases h) (by kernel_rfl) rfl ?_
  refine SCode.seqR ?_
  refine SOps.move rfl ?_
  refine SOps.nilCheck rfl rfl ?_
  refine SOps.fieldV rfl fld0_B ?_
  refine SOps.loadRef 0 0 0 rfl flatP_B rfl rfl rfl rfl ?_
  cases used with
  | true =>
    refine SOps.eqNil false ptr_B rfl (.inl ⟨rfl, rfl⟩) rfl ?_
    refine SOps.nil ?_
    refine SCode.cond rfl (fun h => by cases h) (fun _ => ?_)
    refine SCode.seqR ?_
    refine SOps.move rfl ?_
    refine SOps.nilCheck rfl rfl ?_
    refine SOps.fieldV rfl fld0_B ?_
    refine SOps.loadRef 0 0 0 rfl flatP_B rfl rfl rfl rfl ?_
    refine SOps.move rfl ?_
    refine SOps.eqPtr ptr_B rfl rfl ?_
    refine SOps.nil ?_
    refine SCode.cond rfl (fun h => by cases h) (fun _ => ?_)
    refine SCode.skip ?_
    exact ⟨_, Res.none, rfl, rfl⟩
  | false =>
    refine SOps.eqNil true ptr_B rfl (.inr ⟨rfl, rfl⟩) rfl ?_
    refine SOps.nil ?_
    refine SCode.cond rfl (fun _ => ?_) (fun h => by cases h)
    refine SCode.region ?_
    refine SOps.move rfl ?_
    refine SOps.move rfl ?_
    refine SOps.toUnsafe rfl ptr_B up_B (by decide) ?_
    refine SOps.noEscape noEsc_B rfl ?_
    refine SOps.fromUnsafe rfl up_B ptr_B lies_B ?_
    refine SOps.nilCheck rfl rfl ?_
    refine SOps.fieldV rfl fld0_B ?_
    refine SOps.store 0 0 0 rfl rfl oneP_B rfl rfl rfl (by decide) rfl ?_
    refine SOps.nil ?_
    exact ⟨_, Res.none, rfl, rfl⟩

theorem bWriteByte (b g : Nat) (used : Bool) (bs : List UInt8) (y : UInt8) (hl : bs.length ≤ 70368744177664) : GCall Tryd.prog E 55 [.vref b 84 2, .v (.int .u8 (y.toNat : Int))] (bldH b g used bs) (fun d H => ∃ g', d = .v .nilIface ∧ H = bldH b g' true (bs ++ [y])) := by
  refine GCall.body (C := ⟨Tryd.prog, E, false⟩) Tryd.func55 rfl (fun h => by cases h) (by kernel_rfl) rfl ?_
  refine SCode.seqR ?_
  refine SOps.assign rfl ?_
  refine SOps.nil ?_
  refine SCode.seqR ?_
  refine SOps.move rfl ?_
  refine SOps.call (H := [(b, .row 84 2 [[adrB b used, accD 1 g (bs.map encY)]])]) (G := accH 5 1 g (bs.map encY)) (bCopy b used _ (accD_one ..)) rfl rfl ?_
  rintro _ _ ⟨rfl, rfl⟩
  refine SOps.nil ?_
  refine SCode.seqR ?_
  refine SOps.move rfl ?_
  refine SOps.move rfl ?_
  refine SOps.nilCheck rfl rfl ?_
  refine SOps.fieldV rfl fld1_B ?_
  refine SOps.loadRef 0 0 1 rfl flatS_B rfl rfl rfl rfl ?_
  refine SOps.move rfl ?_
  refine SOps.litO slice_B zero_By rfl (fun b0 hb_0 => ?_)
  refine SOps.appendAcc [_, _] [] slice_B elem_B rfl rfl (by rw [List.append_nil]; rfl) (.own 0 rfl (Nat.le_refl _)) (by simp) (by simp [lenB]; omega) (by simp; omega) (fun g' => ?_)
  refine SOps.nilCheck rfl rfl ?_
  refine SOps.fieldV rfl fld1_B ?_
  refine SOps.store 1 0 1 rfl rfl oneS_B rfl rfl rfl (by decide) (accD_one ..) ?_
  refine SOps.nil ?_
  refine SCode.seqR ?_
  refine SOps.assign rfl ?_
  refine SOps.nil ?_
  refine SCode.weaken (st' := ⟨_, [(4, .v .nilIface)], bldH b g' true (bs ++ [y])⟩) (St.Le.ofSub ⟨rfl, trivial⟩ ?_) (SCode.ret ⟨_, Res.one (.tmp rfl), g', rfl, rfl⟩)
  have e1 : (bs ++ [y]).map encY = bs.map encY ++ [encY y] := by rw [List.map_append]; rfl
  unfold bldH
  rw [e1]
  simp only [List.append_nil]
  exact List.Sublist.cons _ (List.Sublist.refl _)
theorem str_B : strB Tryd.prog 9 = true := by kernel_rfl

theorem bWriteString (b g : Nat) (used : Bool) (bs : List UInt8) (s : ByteArray) (hl : bs.length + s.size ≤ 70368744177664) : GCall Tryd.prog E 56 [.vref b 84 2, .v (.string s)] (bldH b g used bs) (fun d H => ∃ g', d = .tup [.v (.int .i64 (s.size : Int)), .v .nilIface] ∧ H = bldH b g' true (bs ++ s.data.toList)) := by
  refine GCall.body (C := ⟨Tryd.prog, E, false⟩) Tryd.func56 rfl (fun h => by cases h) (by kernel_rfl) rfl ?_
  refine SCode.seqR ?_
  refine SOps.assign rfl ?_
  refine SOps.assign rfl ?_
  refine SOps.nil ?_
  refine SCode.seqR ?_
  refine SOps.move rfl ?_
  refine SOps.call (H := [(b, .row 84 2 [[adrB b used, accD 1 g (bs.map encY)]])]) (G := accH 5 1 g (bs.map encY)) (bCopy b used _ (accD_one ..)) rfl rfl ?_
  rintro _ _ ⟨rfl, rfl⟩
  refine SOps.nil ?_
  refine SCode.seqR ?_
  refine SOps.move rfl ?_
  refine SOps.move rfl ?_
  refine SOps.nilCheck rfl rfl ?_
  refine SOps.fieldV rfl fld1_B ?_
  refine SOps.loadRef 0 0 1 rfl flatS_B rfl rfl rfl rfl ?_
  refine SOps.move rfl ?_
  refine SOps.appendAccES [_] [] slice_B elem_B rfl rfl (by rw [List.append_nil]; rfl) str_B (by rw [bytesD_length, List.length_map]; simp only [lenB]; omega) (by rw [bytesD_length, List.length_map]; omega) (fun g' => ?_)
  refine SOps.nilCheck rfl rfl ?_
  refine SOps.fieldV rfl fld1_B ?_
  refine SOps.store 0 0 1 rfl rfl oneS_B rfl rfl rfl (by decide) (accD_one ..) ?_
  refine SOps.nil ?_
  refine SCode.seqR ?_
  refine SOps.move rfl ?_
  refine SOps.lenStr rfl str_B ?_
  refine SOps.assign rfl ?_
  refine SOps.assign rfl ?_
  refine SOps.nil ?_
  refine SCode.ret ⟨_, Res.two (.tmp rfl) (.tmp rfl), g', rfl, ?_⟩
  unfold bldH bytesD
  rw [List.map_append, List.append_nil]
  rfl

theorem bString (b g : Nat) (used : Bool) (bs : List UInt8) (hl : bs.length ≤ 70368744177664) : GCall Tryd.prog E 57 [.vref b 84 2] (bldH b g used bs) (fun d H => d = .v (.string ⟨bs.toArray⟩) ∧ H = []) := by
  refine GCall.body (C := ⟨Tryd.prog, E, false⟩) Tryd.func57 rfl (fun h => by cases h) (by kernel_rfl) rfl ?_
  refine SCode.seqR ?_
  refine SOps.assign rfl ?_
  refine SOps.nil ?_
  refine SCode.seq ?_
  refine SCode.drawSeqAt 10 (fun st => ∃ s2 : St, s2.Le st ∧ s2.get 2 = some (.v (.string ⟨bs.toArray⟩))) 8 mixed_B
    [(3, .vref b 84 2), (4, .vref b 84 2), (5, .ref b 1), (6, accD 1 g (bs.map encY)), (7, dataD g bs), (8, .vref b 84 2), (9, .vref b 84 2), (10, .ref b 1), (11, accD 1 g (bs.map encY)), (12, .v (.int .i64 (bs.length : Int)))] [3, 4, 5, 6, 7, 8, 9, 10, 11, 12]
    [[.inr 0], [.inl 0], [.inl 1], [.inl 2], [.inl 3], [.inr 0], [.inl 5], [.inl 6], [.inl 7], [.inl 8]] [[(0, .vref b 84 2)], [(3, .vref b 84 2)], [(4, .vref b 84 2)], [(5, .ref b 1)], [(6, accD 1 g (bs.map encY))], [(0, .vref b 84 2)], [(8, .vref b 84 2)], [(9, .vref b 84 2)], [(10, .ref b 1)], [(11, accD 1 g (bs.map encY))]]
    rfl (by kernel_rfl) (by kernel_rfl) (by kernel_rfl) (by kernel_rfl) rfl rfl ?_ ?_ ?_
  · refine OpsOk.cons (fun rest => SOps.move rfl (SOps.nil rfl)) ?_
    refine OpsOk.cons (fun rest => SOps.nilCheck rfl rfl (SOps.nil rfl)) ?_
    refine OpsOk.cons (fun rest => SOps.fieldV rfl fld1_B (SOps.nil rfl)) ?_
    refine OpsOk.cons (fun rest => SOps.loadRef 0 0 1 rfl flatS_B rfl rfl rfl rfl (SOps.nil rfl)) ?_
    refine OpsOk.cons (fun rest => SOps.sliceData rfl (SOps.nil rfl)) ?_
    refine OpsOk.cons (fun rest => SOps.move rfl (SOps.nil rfl)) ?_
    refine OpsOk.cons (fun rest => SOps.nilCheck rfl rfl (SOps.nil rfl)) ?_
    refine OpsOk.cons (fun rest => SOps.fieldV rfl fld1_B (SOps.nil rfl)) ?_
    refine OpsOk.cons (fun rest => SOps.loadRef 0 0 1 rfl flatS_B rfl rfl rfl rfl (SOps.nil rfl)) ?_
    refine OpsOk.cons (fun rest => SOps.lenAcc rfl slice_B (SOps.nil (by rw [List.length_map]; rfl))) ?_
    exact OpsOk.nil
  · refine SeqOk.cons (R1 := fun st => ∃ s2 : St, s2.Le st ∧ s2.n = 14 ∧ s2.get 13 = some (.v (.string ⟨bs.toArray⟩))) (fun st hle => SOps.weaken hle ?_) ?_
    · exact SOps.unsafeStr [_] [] ptr_By cells_By rfl rfl (by rw [List.append_nil]; rfl) (SOps.nil ⟨_, ⟨rfl, fun t d h => .inl h, _, .refl _, List.Sublist.refl _⟩, rfl, rfl⟩)
    · refine SeqOk.cons (fun st ⟨s2, h1, h2, h3⟩ => SOps.weaken h1 ?_) SeqOk.nil
      exact SOps.assign h3 (SOps.nil ⟨_, ⟨rfl, fun t d h => .inl h, _, .refl _, List.Sublist.refl _⟩, St.get_put_same s2 2 _⟩) rfl (by rw [h2]; rfl)
  · rintro st ⟨s2, h1, h2⟩
    refine ⟨⟨st.n, [(2, .v (.string ⟨bs.toArray⟩))], []⟩, ⟨rfl, fun t d h => .inl ?_, [], .refl _, List.nil_sublist _⟩, SCode.ret ⟨_, Res.one (.tmp rfl), rfl, rfl⟩⟩
    have h3 := h1.slots 2 _ h2
    have ht : t = 2 ∧ d = .v (.string ⟨bs.toArray⟩) := by
      have h : getL [(2, DV.v (.string ⟨bs.toArray⟩))] t = some d := h
      rw [getL_cons] at h
      split at h
      · rename_i e; exact ⟨e.symm, (Option.some.inj h).symm⟩
      · simp [getL] at h
    obtain ⟨rfl, rfl⟩ := ht
    rcases h3 with h3 | ⟨h3, _⟩
    · exact h3
    · cases h3

end Go.GH
namespace Go.GH
open Go Go.Proofs
variable {E : Env}
theorem fieldB_48_0_0 : fieldB Tryd.prog 48 0 0 = true := by kernel_rfl
theorem fieldB_48_1_1 : fieldB Tryd.prog 48 1 1 = true := by kernel_rfl
theorem flatB_4 : flatB Tryd.prog 4 = true := by kernel_rfl
theorem flatB_46 : flatB Tryd.prog 46 = true := by kernel_rfl
theorem sliceB_46_9_1 : sliceB Tryd.prog 46 9 1 = true := by kernel_rfl
end Go.GH
namespace Go.GH
open Go Go.Proofs
variable {E : Env}
theorem zeroBld : zeroIs Tryd.prog 84 (.agg #[.pointer none, .slice none 0 0]) := by unfold zeroIs; kernel_rfl
theorem sText (ln : Ln) (hw : ∀ w ∈ ln.words, w.size ≤ 1048576) (hl : ln.words.length ≤ 1048576) : GCall Tryd.prog E 29 [.agg (encLn ln)] [] (fun d H => d = .v (.string (textL ln)) ∧ H = []) := by
  refine GCall.body (C := ⟨Tryd.prog, E, true⟩) Tryd.func29 rfl (fun _ => rfl) (by kernel_rfl) rfl ?_
  refine SCode.seqR ?_
  refine SOps.boxAM rfl rfl ?_
  refine SOps.assign rfl ?_
  refine SOps.nil ?_
  refine SCode.seqR ?_
  refine SOps.allocV (sz := 2) zeroBld (fun b0 hb_0 => ?_)
  refine SOps.nil ?_
  refine SCode.seq ?_
  refine SCode.seqR ?_
  refine SOps.fieldPin rfl fieldB_48_0_0 ?_
  refine SOps.loadPin rfl flatB_46 ?_
  refine SOps.lenM rfl sliceB_46_9_1 ?_
  refine SOps.move rfl ?_
  refine SOps.nil ?_
  refine SCode.block ?_
  refine SCode.loop3 (fun (i : Nat) (g : Nat) (u : Bool) => (⟨24, [(1, .ipin (encLn ln)), (3, .vref b0 84 2), (7, DStrs ln.words), (8, .v (.int .i64 (ln.words.length : Int))), (9, .v (.int .i64 (i : Int)))], bldH b0 g u (catW (ln.words.take i)).data.toList⟩ : St)) (fun (i : Nat) (g : Nat) (u : Bool) => i ≤ ln.words.length) (fun (i : Nat) (g : Nat) (u : Bool) => ln.words.length - i) (0) (0) (false) (by exact Nat.zero_le _) (St.Le.of ⟨(by first | rfl | (show some _ = some _; simp)), (by first | rfl | (show some _ = some _; simp)), (by first | rfl | (show some _ = some _; simp)), (by first | rfl | (show some _ = some _; simp)), (by first | rfl | (show some _ = some _; simp)), trivial⟩ rfl (by first | rfl | (simp))) ?_
  rintro i g u hi
  have hcs := catW_size i hw hi
  have hcl : (catW (ln.words.take i)).data.toList.length = (catW (ln.words.take i)).size := by simp
  refine SCode.seqR ?_
  refine SOps.bin rfl rfl rfl ?_
  refine SOps.nil ?_
  refine SCode.seq ?_
  refine SCode.cond rfl (fun hc1 => ?_) (fun hc1 => ?_)
  · try simp only [decide_eq_true_eq, decide_eq_false_iff_not, Bool.not_eq_true', Bool.not_eq_false', beq_iff_eq, bne_iff_ne, ne_eq, beq_eq_false_iff_ne, bne_eq_false_iff_eq, Int.not_lt, Int.not_le, Nat.not_lt, Nat.not_le, Int.ofNat_lt, Int.ofNat_le, Bool.not_eq_eq_eq_not, Bool.not_true, Bool.not_false] at hc1
    refine SCode.skip ?_
    show SCode _ _ _ _
    refine SCode.seq ?_
    refine SCode.block ?_
    refine SCode.seqR ?_
    have hil : i < ln.words.length := by omega
    have hwi := hw _ (List.getElem_mem hil)
    have hct := catW_take hil
    refine SOps.move rfl ?_
    refine SOps.indexM (i) rfl rfl sliceB_46_9_1 (by first | omega | (simp only [lenB] <;> omega)) (by first | omega | (simp only [lenB] <;> omega)) ?_
    refine SOps.loadPin rfl flatB_9 ?_
    refine SOps.assign rfl ?_
    refine SOps.assign rfl ?_
    refine SOps.nil ?_
    refine SCode.seq ?_
    refine SCode.seqR ?_
    refine SOps.move rfl ?_
    refine SOps.bin rfl rfl rfl ?_
    refine SOps.nil ?_
    refine SCode.cond rfl (fun hc2 => ?_) (fun hc2 => ?_)
    · try simp only [decide_eq_true_eq, decide_eq_false_iff_not, Bool.not_eq_true', Bool.not_eq_false', beq_iff_eq, bne_iff_ne, ne_eq, beq_eq_false_iff_ne, bne_eq_false_iff_eq, Int.not_lt, Int.not_le, Nat.not_lt, Nat.not_le, Int.ofNat_lt, Int.ofNat_le, Bool.not_eq_eq_eq_not, Bool.not_true, Bool.not_false] at hc2
      have h0 : ¬ i = 0 := by omega
      have hctA : (catW (ln.words.take (i + 1))).data.toList = (catW (ln.words.take i)).data.toList ++ [32] ++ (ln.words[i]).data.toList := by rw [hct, if_neg h0, data_app2, data_app2]; rfl
      refine SCode.region ?_
      refine SOps.callR (bldH _ _ _ _) [] (bWriteByte _ _ _ _ 32 (by first | (simp; omega) | (simp [ByteArray.size_append]; omega))) rfl rfl ?_
      rintro _ _ ⟨g7, rfl, rfl⟩
      refine SOps.nil ?_
      show SCode _ _ _ _
      refine SCode.region ?_
      refine SOps.move rfl ?_
      refine SOps.callR (bldH _ _ _ _) [] (bWriteString _ _ _ _ _ (by first | (simp; omega) | (simp [ByteArray.size_append]; omega))) rfl rfl ?_
      rintro _ _ ⟨g7, rfl, rfl⟩
      refine SOps.nil ?_
      show SCode _ _ _ _
      refine SCode.region ?_
      refine SOps.addI rfl rfl (by first | omega | (simp only [lenB] <;> omega)) (by first | omega | (simp only [lenB] <;> omega)) ?_
      refine SOps.move rfl ?_
      refine SOps.nil ?_
      first
        | exact ⟨i + 1, g7, true, by omega, by omega, St.Le.of ⟨rfl, rfl, rfl, rfl, rfl, trivial⟩ rfl (congrArg (bldH b0 g7 true) hctA)⟩
        | exact ⟨i + 1, g7, true, by omega, by omega, St.Le.of ⟨rfl, rfl, rfl, rfl, rfl, trivial⟩ rfl (congrArg (bldH b0 g7 true) hctB)⟩
    · try simp only [decide_eq_true_eq, decide_eq_false_iff_not, Bool.not_eq_true', Bool.not_eq_false', beq_iff_eq, bne_iff_ne, ne_eq, beq_eq_false_iff_ne, bne_eq_false_iff_eq, Int.not_lt, Int.not_le, Nat.not_lt, Nat.not_le, Int.ofNat_lt, Int.ofNat_le, Bool.not_eq_eq_eq_not, Bool.not_true, Bool.not_false] at hc2
      have h0 : i = 0 := by omega
      have hctB : (catW (ln.words.take (i + 1))).data.toList = (catW (ln.words.take i)).data.toList ++ (ln.words[i]).data.toList := by rw [hct, if_pos h0, show (catW (ln.words.take i)) = .empty from by rw [h0]; rfl]; rfl
      refine SCode.skip ?_
      show SCode _ _ _ _
      refine SCode.region ?_
      refine SOps.move rfl ?_
      refine SOps.callR (bldH _ _ _ _) [] (bWriteString _ _ _ _ _ (by first | (simp; omega) | (simp [ByteArray.size_append]; omega))) rfl rfl ?_
      rintro _ _ ⟨g7, rfl, rfl⟩
      refine SOps.nil ?_
      show SCode _ _ _ _
      refine SCode.region ?_
      refine SOps.addI rfl rfl (by first | omega | (simp only [lenB] <;> omega)) (by first | omega | (simp only [lenB] <;> omega)) ?_
      refine SOps.move rfl ?_
      refine SOps.nil ?_
      first
        | exact ⟨i + 1, g7, true, by omega, by omega, St.Le.of ⟨rfl, rfl, rfl, rfl, rfl, trivial⟩ rfl (congrArg (bldH b0 g7 true) hctA)⟩
        | exact ⟨i + 1, g7, true, by omega, by omega, St.Le.of ⟨rfl, rfl, rfl, rfl, rfl, trivial⟩ rfl (congrArg (bldH b0 g7 true) hctB)⟩
  · try simp only [decide_eq_true_eq, decide_eq_false_iff_not, Bool.not_eq_true', Bool.not_eq_false', beq_iff_eq, bne_iff_ne, ne_eq, beq_eq_false_iff_ne, bne_eq_false_iff_eq, Int.not_lt, Int.not_le, Nat.not_lt, Nat.not_le, Int.ofNat_lt, Int.ofNat_le, Bool.not_eq_eq_eq_not, Bool.not_true, Bool.not_false] at hc1
    refine SCode.exit ?_
    show SCode _ _ _ _
    refine SCode.seq ?_
    refine SCode.seqR ?_
    refine SOps.fieldPin rfl fieldB_48_1_1 ?_
    refine SOps.loadPin rfl flatB_4 ?_
    refine SOps.nil ?_
    refine SCode.cond rfl (fun hc3 => ?_) (fun hc3 => ?_)
    · try simp only [decide_eq_true_eq, decide_eq_false_iff_not, Bool.not_eq_true', Bool.not_eq_false', beq_iff_eq, bne_iff_ne, ne_eq, beq_eq_false_iff_ne, bne_eq_false_iff_eq, Int.not_lt, Int.not_le, Nat.not_lt, Nat.not_le, Int.ofNat_lt, Int.ofNat_le, Bool.not_eq_eq_eq_not, Bool.not_true, Bool.not_false] at hc3
      have hk9 : ln.words.take i = ln.words := List.take_of_length_le (by omega)
      have hx : textL ln = catW ln.words ++ hy1 := by rw [textL, if_pos hc3]
      refine SCode.region ?_
      refine SOps.callR (bldH _ _ _ _) [] (bWriteByte _ _ _ _ 45 (by first | (simp; omega) | (simp [ByteArray.size_append]; omega))) rfl rfl ?_
      rintro _ _ ⟨g7, rfl, rfl⟩
      refine SOps.nil ?_
      show SCode _ _ _ _
      refine SCode.seqR ?_
      refine SOps.callR (bldH _ _ _ _) [] (bString _ _ _ _ (by first | (simp; omega) | (simp [ByteArray.size_append]; omega))) rfl rfl ?_
      rintro _ _ ⟨rfl, rfl⟩
      refine SOps.assign rfl ?_
      refine SOps.nil ?_
      refine SCode.ret ?_
      exact ⟨_, Res.one (.tmp rfl), (by rw [hx]; exact congrArg (fun z => DV.v (.string z)) (by rw [hk9]; exact ba_list (catW ln.words ++ hy1))), rfl⟩
    · try simp only [decide_eq_true_eq, decide_eq_false_iff_not, Bool.not_eq_true', Bool.not_eq_false', beq_iff_eq, bne_iff_ne, ne_eq, beq_eq_false_iff_ne, bne_eq_false_iff_eq, Int.not_lt, Int.not_le, Nat.not_lt, Nat.not_le, Int.ofNat_lt, Int.ofNat_le, Bool.not_eq_eq_eq_not, Bool.not_true, Bool.not_false] at hc3
      have hk9 : ln.words.take i = ln.words := List.take_of_length_le (by omega)
      have hx : textL ln = catW ln.words := by rw [textL, if_neg (by rw [hc3]; simp)]
      refine SCode.skip ?_
      show SCode _ _ _ _
      refine SCode.seqR ?_
      refine SOps.callR (bldH _ _ _ _) [] (bString _ _ _ _ (by first | (simp; omega) | (simp [ByteArray.size_append]; omega))) rfl rfl ?_
      rintro _ _ ⟨rfl, rfl⟩
      refine SOps.assign rfl ?_
      refine SOps.nil ?_
      refine SCode.ret ?_
      exact ⟨_, Res.one (.tmp rfl), (by rw [hx]; exact congrArg (fun z => DV.v (.string z)) (by rw [hk9] <;> exact ba_list (catW ln.words))), rfl⟩
end Go.GH
namespace Go.GH
open Go Go.Lib
def bigB (n m : Nat) (b : Bx) : Bool := decide (n < b.word.size) || decide (m < b.pts.length)
def cntB (l : List Bx) : Nat := 1 + (l.map (fun b => 1 + b.pts.length)).sum
def manyB (l : List Bx) : Bool := l.any (bigB 100 20) || decide (40 < l.length)
def bigL (l : Ln) : Bool := decide (30 < l.words.length) || l.words.any (fun w => decide (300 < w.size))
def wideLs (l : List Ln) : Bool := decide (30 < l.length) || l.any bigL
theorem cntB_take {l : List Bx} {i : Nat} (h : i < l.length) : cntB (l.take (i + 1)) = cntB (l.take i) + (1 + (l[i]).pts.length) := by
  unfold cntB
  rw [List.take_add_one, List.getElem?_eq_getElem h, List.map_append, List.sum_append]
  show 1 + (_ + ([1 + (l[i]).pts.length]).sum) = _
  rw [List.sum_cons, List.sum_nil]
  omega
theorem manyB_bad {l : List Bx} {i : Nat} (h : i < l.length) (h2 : bigB 100 20 l[i] = true) : manyB l = true := by
  unfold manyB; rw [List.any_eq_true.2 ⟨_, List.getElem_mem h, h2⟩]; rfl
theorem bigB_iff {n m : Nat} {b : Bx} : bigB n m b = true ↔ n < b.word.size ∨ m < b.pts.length := by simp [bigB]
end Go.GH
namespace Go.GH
open Go Go.Proofs
variable {E : Env}
theorem aggB_48_2 : aggB Tryd.prog 48 2 = true := by kernel_rfl
theorem sliceB_25_48_2 : sliceB Tryd.prog 25 48 2 = true := by kernel_rfl
theorem zeroIs_48 : zeroIs Tryd.prog 48 (.agg #[.slice none 0 0, .bool false]) := by unfold zeroIs; kernel_rfl
theorem lMany (l : List Bx)  : GCall Tryd.prog E 25 [DBxs l] [] (fun d H => d = .v (.bool (manyB l)) ∧ H = []) := by
  refine GCall.body (C := ⟨Tryd.prog, E, true⟩) Tryd.func25 rfl (fun _ => rfl) (by kernel_rfl) rfl ?_
  refine SCode.seqR ?_
  refine SOps.assign rfl ?_
  refine SOps.nil ?_
  refine SCode.seq ?_
  refine SCode.seqR ?_
  refine SOps.move rfl ?_
  refine SOps.lenM rfl sliceB_22_43_2 ?_
  refine SOps.move rfl ?_
  refine SOps.nil ?_
  refine SCode.block ?_
  refine SCode.loop1 (fun (k : Nat) => (⟨25, [(0, DBxs l), (5, DBxs l), (6, .v (.int .i64 (l.length : Int))), (7, .v (.int .i64 (k : Int)))], []⟩ : St)) (fun (k : Nat) => k ≤ l.length ∧ ∀ x ∈ l.take k, bigB 100 20 x = false) (fun (k : Nat) => l.length - k) (0) (by exact ⟨Nat.zero_le _, by simp⟩) (St.Le.of ⟨(by first | rfl | (show some _ = some _; simp)), (by first | rfl | (show some _ = some _; simp)), (by first | rfl | (show some _ = some _; simp)), (by first | rfl | (show some _ = some _; simp)), trivial⟩ rfl (by first | rfl | (simp))) ?_
  rintro k ⟨hk, hg⟩
  refine SCode.fact (isl_len (t := 5) rfl) (fun hB => ?_)
  simp only [List.length_map, lenB] at hB
  refine SCode.seqR ?_
  refine SOps.bin rfl rfl rfl ?_
  refine SOps.nil ?_
  refine SCode.seq ?_
  refine SCode.cond rfl (fun hc1 => ?_) (fun hc1 => ?_)
  · try simp only [decide_eq_true_eq, decide_eq_false_iff_not, Bool.not_eq_true', Bool.not_eq_false', beq_iff_eq, bne_iff_ne, ne_eq, beq_eq_false_iff_ne, bne_eq_false_iff_eq, Int.not_lt, Int.not_le, Nat.not_lt, Nat.not_le, Int.ofNat_lt, Int.ofNat_le, Bool.not_eq_eq_eq_not, Bool.not_true, Bool.not_false] at hc1
    refine SCode.skip ?_
    show SCode _ _ _ _
    refine SCode.seq ?_
    refine SCode.block ?_
    refine SCode.seqR ?_
    refine SOps.indexM (k) rfl rfl sliceB_22_43_2 (by first | omega | (simp only [lenB] <;> omega)) (by first | omega | (simp only [lenB] <;> omega)) ?_
    refine SOps.loadPinA rfl aggB_43_2 (Nat.le_of_ble_eq_true rfl) ?_
    refine SOps.alloc (sz := 2) zeroIs_43 (fun b0 hb_0 => ?_)
    refine SOps.storeAM 0 rfl rfl aggB_43_2 rfl ?_
    refine SOps.freezeRef (t := 4) 0 0 rfl rfl rfl rfl rfl ?_
    refine SOps.nil ?_
    refine SCode.seqR ?_
    have hkl : k < l.length := by omega
    refine SOps.fieldPin rfl fieldB_43_0_0 ?_
    refine SOps.loadPin rfl flatB_9 ?_
    refine SOps.lenStr rfl strB_9 ?_
    refine SOps.bin rfl rfl rfl ?_
    refine SOps.move rfl ?_
    refine SOps.caseB 15 rfl (fun hb2 => ?_) (fun hb2 => ?_)
    · try simp only [decide_eq_true_eq, decide_eq_false_iff_not, Bool.not_eq_true', Bool.not_eq_false', beq_iff_eq, bne_iff_ne, ne_eq, beq_eq_false_iff_ne, bne_eq_false_iff_eq, Int.not_lt, Int.not_le, Nat.not_lt, Nat.not_le, Int.ofNat_lt, Int.ofNat_le, Bool.not_eq_eq_eq_not, Bool.not_true, Bool.not_false] at hb2
      refine SOps.skip rfl ?_
      refine SOps.skip rfl ?_
      refine SOps.skip rfl ?_
      refine SOps.skip rfl ?_
      refine SOps.pick rfl rfl ?_
      refine SOps.nil ?_
      refine SCode.cond rfl (fun _ => ?_) (fun h => by cases h)
      refine SCode.seqR ?_
      refine SOps.assign rfl ?_
      refine SOps.nil ?_
      refine SCode.ret ?_
      exact ⟨_, Res.one (.tmp rfl), congrArg (fun b => DV.v (.bool b)) (by first | exact (manyB_bad hkl (bigB_iff.2 (by omega))).symm | (have hkk : l.take k = l := List.take_of_length_le (by omega); rw [hkk] at hg; unfold manyB; rw [List.any_eq_false.2 (fun x hx => by rw [hg x hx]; simp), Bool.false_or]; exact decide_eq_decide.2 (by omega))), rfl⟩
    · try simp only [decide_eq_true_eq, decide_eq_false_iff_not, Bool.not_eq_true', Bool.not_eq_false', beq_iff_eq, bne_iff_ne, ne_eq, beq_eq_false_iff_ne, bne_eq_false_iff_eq, Int.not_lt, Int.not_le, Nat.not_lt, Nat.not_le, Int.ofNat_lt, Int.ofNat_le, Bool.not_eq_eq_eq_not, Bool.not_true, Bool.not_false] at hb2
      refine SOps.fieldPin rfl fieldB_43_1_1 ?_
      refine SOps.loadPin rfl flatB_41 ?_
      refine SOps.lenM rfl sliceB_41_3_1 ?_
      refine SOps.bin rfl rfl rfl ?_
      refine SOps.pick rfl rfl ?_
      refine SOps.nil ?_
      refine SCode.cond rfl (fun hc3 => ?_) (fun hc3 => ?_)
      · try simp only [decide_eq_true_eq, decide_eq_false_iff_not, Bool.not_eq_true', Bool.not_eq_false', beq_iff_eq, bne_iff_ne, ne_eq, beq_eq_false_iff_ne, bne_eq_false_iff_eq, Int.not_lt, Int.not_le, Nat.not_lt, Nat.not_le, Int.ofNat_lt, Int.ofNat_le, Bool.not_eq_eq_eq_not, Bool.not_true, Bool.not_false] at hc3
        refine SCode.seqR ?_
        refine SOps.assign rfl ?_
        refine SOps.nil ?_
        refine SCode.ret ?_
        exact ⟨_, Res.one (.tmp rfl), congrArg (fun b => DV.v (.bool b)) (by first | exact (manyB_bad hkl (bigB_iff.2 (by omega))).symm | (have hkk : l.take k = l := List.take_of_length_le (by omega); rw [hkk] at hg; unfold manyB; rw [List.any_eq_false.2 (fun x hx => by rw [hg x hx]; simp), Bool.false_or]; exact decide_eq_decide.2 (by omega))), rfl⟩
      · try simp only [decide_eq_true_eq, decide_eq_false_iff_not, Bool.not_eq_true', Bool.not_eq_false', beq_iff_eq, bne_iff_ne, ne_eq, beq_eq_false_iff_ne, bne_eq_false_iff_eq, Int.not_lt, Int.not_le, Nat.not_lt, Nat.not_le, Int.ofNat_lt, Int.ofNat_le, Bool.not_eq_eq_eq_not, Bool.not_true, Bool.not_false] at hc3
        refine SCode.skip ?_
        show SCode _ _ _ _
        refine SCode.region ?_
        refine SOps.addI rfl rfl (by first | omega | (simp only [lenB] <;> omega)) (by first | omega | (simp only [lenB] <;> omega)) ?_
        refine SOps.move rfl ?_
        refine SOps.nil ?_
        exact ⟨k + 1, ⟨by omega, take_more hg hkl (Bool.eq_false_iff.2 (fun h => by rw [bigB_iff] at h; omega))⟩, by omega, St.Le.of ⟨rfl, rfl, rfl, rfl, trivial⟩⟩
  · try simp only [decide_eq_true_eq, decide_eq_false_iff_not, Bool.not_eq_true', Bool.not_eq_false', beq_iff_eq, bne_iff_ne, ne_eq, beq_eq_false_iff_ne, bne_eq_false_iff_eq, Int.not_lt, Int.not_le, Nat.not_lt, Nat.not_le, Int.ofNat_lt, Int.ofNat_le, Bool.not_eq_eq_eq_not, Bool.not_true, Bool.not_false] at hc1
    refine SCode.exit ?_
    show SCode _ _ _ _
    refine SCode.seqR ?_
    refine SOps.move rfl ?_
    refine SOps.lenM rfl sliceB_22_43_2 ?_
    refine SOps.bin rfl rfl rfl ?_
    refine SOps.assign rfl ?_
    refine SOps.nil ?_
    refine SCode.ret ?_
    exact ⟨_, Res.one (.tmp rfl), congrArg (fun b => DV.v (.bool b)) (by first | exact (manyB_bad hkl (bigB_iff.2 (by omega))).symm | (have hkk : l.take k = l := List.take_of_length_le (by omega); rw [hkk] at hg; unfold manyB; rw [List.any_eq_false.2 (fun x hx => by rw [hg x hx]; simp), Bool.false_or]; exact decide_eq_decide.2 (by omega))), rfl⟩
theorem wide_bad {l : List Ln} {k : Nat} (h : k < l.length) (h2 : bigL l[k] = true) : wideLs l = true := by
  unfold wideLs; rw [List.any_eq_true.2 ⟨_, List.getElem_mem h, h2⟩, Bool.or_true]
theorem bigL_word {ln : Ln} {i : Nat} (h : i < ln.words.length) (h2 : 300 < (ln.words[i]).size) : bigL ln = true := by
  unfold bigL; rw [List.any_eq_true.2 ⟨_, List.getElem_mem h, decide_eq_true h2⟩, Bool.or_true]
theorem bigL_ok {ln : Ln} (h : ln.words.length ≤ 30) (h2 : ∀ w ∈ ln.words, w.size ≤ 300) : bigL ln = false := by
  unfold bigL
  rw [decide_eq_false (by omega), List.any_eq_false.2 (fun w hw => by rw [decide_eq_false (by have := h2 w hw; omega)]; simp)]; rfl
theorem bigL_iff {ln : Ln} : bigL ln = false ↔ ln.words.length ≤ 30 ∧ ∀ w ∈ ln.words, w.size ≤ 300 := by
  constructor
  · intro h
    unfold bigL at h
    rw [Bool.or_eq_false_iff, decide_eq_false_iff_not, List.any_eq_false] at h
    exact ⟨by omega, fun w hw => by have := h.2 w hw; simp at this; omega⟩
  · exact fun h => bigL_ok h.1 h.2
theorem lWide (l : List Ln)  : GCall Tryd.prog E 28 [DLns l] [] (fun d H => d = .v (.bool (wideLs l)) ∧ H = []) := by
  refine GCall.body (C := ⟨Tryd.prog, E, true⟩) Tryd.func28 rfl (fun _ => rfl) (by kernel_rfl) rfl ?_
  refine SCode.seqR ?_
  refine SOps.assign rfl ?_
  refine SOps.nil ?_
  refine SCode.seq ?_
  refine SCode.seqR ?_
  refine SOps.move rfl ?_
  refine SOps.lenM rfl sliceB_25_48_2 ?_
  refine SOps.bin rfl rfl rfl ?_
  refine SOps.nil ?_
  refine SCode.cond rfl (fun hc1 => ?_) (fun hc1 => ?_)
  · try simp only [decide_eq_true_eq, decide_eq_false_iff_not, Bool.not_eq_true', Bool.not_eq_false', beq_iff_eq, bne_iff_ne, ne_eq, beq_eq_false_iff_ne, bne_eq_false_iff_eq, Int.not_lt, Int.not_le, Nat.not_lt, Nat.not_le, Int.ofNat_lt, Int.ofNat_le, Bool.not_eq_eq_eq_not, Bool.not_true, Bool.not_false] at hc1
    refine SCode.seqR ?_
    refine SOps.assign rfl ?_
    refine SOps.nil ?_
    refine SCode.ret ?_
    exact ⟨_, Res.one (.tmp rfl), congrArg (fun b => DV.v (.bool b)) (by first | (unfold wideLs; rw [decide_eq_true (show 30 < l.length by omega)]; rfl) | exact (wide_bad hkl (bigL_word hil (by omega))).symm | (exact (wide_bad hkl (by unfold bigL; rw [decide_eq_true (by omega)]; rfl)).symm) | (unfold wideLs; rw [decide_eq_false (show ¬ 30 < l.length by omega), List.any_eq_false.2 (fun x hx => by rw [all_of (show l.length ≤ k by omega) hg x hx]; simp)]; rfl)), rfl⟩
  · try simp only [decide_eq_true_eq, decide_eq_false_iff_not, Bool.not_eq_true', Bool.not_eq_false', beq_iff_eq, bne_iff_ne, ne_eq, beq_eq_false_iff_ne, bne_eq_false_iff_eq, Int.not_lt, Int.not_le, Nat.not_lt, Nat.not_le, Int.ofNat_lt, Int.ofNat_le, Bool.not_eq_eq_eq_not, Bool.not_true, Bool.not_false] at hc1
    refine SCode.skip ?_
    show SCode _ _ _ _
    refine SCode.seq ?_
    refine SCode.seqR ?_
    refine SOps.move rfl ?_
    refine SOps.lenM rfl sliceB_25_48_2 ?_
    refine SOps.move rfl ?_
    refine SOps.nil ?_
    refine SCode.block ?_
    refine SCode.loop1 (fun (k : Nat) => (⟨32, [(10, DLns l), (11, .v (.int .i64 (l.length : Int))), (12, .v (.int .i64 (k : Int)))], []⟩ : St)) (fun (k : Nat) => k ≤ l.length ∧ ∀ x ∈ l.take k, bigL x = false) (fun (k : Nat) => l.length - k) (0) (by exact ⟨Nat.zero_le _, by simp⟩) (St.Le.of ⟨(by first | rfl | (show some _ = some _; simp)), (by first | rfl | (show some _ = some _; simp)), (by first | rfl | (show some _ = some _; simp)), trivial⟩ rfl (by first | rfl | (simp))) ?_
    rintro k ⟨hk, hg⟩
    refine SCode.fact (isl_len (t := 10) rfl) (fun hB => ?_)
    simp only [List.length_map, lenB] at hB
    refine SCode.seqR ?_
    refine SOps.bin rfl rfl rfl ?_
    refine SOps.nil ?_
    refine SCode.seq ?_
    refine SCode.cond rfl (fun hc2 => ?_) (fun hc2 => ?_)
    · try simp only [decide_eq_true_eq, decide_eq_false_iff_not, Bool.not_eq_true', Bool.not_eq_false', beq_iff_eq, bne_iff_ne, ne_eq, beq_eq_false_iff_ne, bne_eq_false_iff_eq, Int.not_lt, Int.not_le, Nat.not_lt, Nat.not_le, Int.ofNat_lt, Int.ofNat_le, Bool.not_eq_eq_eq_not, Bool.not_true, Bool.not_false] at hc2
      refine SCode.skip ?_
      show SCode _ _ _ _
      refine SCode.seq ?_
      refine SCode.block ?_
      refine SCode.seqR ?_
      refine SOps.indexM (k) rfl rfl sliceB_25_48_2 (by first | omega | (simp only [lenB] <;> omega)) (by first | omega | (simp only [lenB] <;> omega)) ?_
      refine SOps.loadPinA rfl aggB_48_2 (Nat.le_of_ble_eq_true rfl) ?_
      refine SOps.alloc (sz := 2) zeroIs_48 (fun b0 hb_0 => ?_)
      refine SOps.storeAM 0 rfl rfl aggB_48_2 rfl ?_
      refine SOps.freezeRef (t := 4) 0 0 rfl rfl rfl rfl rfl ?_
      refine SOps.nil ?_
      refine SCode.seq ?_
      refine SCode.seqR ?_
      have hkl : k < l.length := by omega
      refine SOps.fieldPin rfl fieldB_48_0_0 ?_
      refine SOps.loadPin rfl flatB_46 ?_
      refine SOps.lenM rfl sliceB_46_9_1 ?_
      refine SOps.bin rfl rfl rfl ?_
      refine SOps.nil ?_
      refine SCode.cond rfl (fun hc3 => ?_) (fun hc3 => ?_)
      · try simp only [decide_eq_true_eq, decide_eq_false_iff_not, Bool.not_eq_true', Bool.not_eq_false', beq_iff_eq, bne_iff_ne, ne_eq, beq_eq_false_iff_ne, bne_eq_false_iff_eq, Int.not_lt, Int.not_le, Nat.not_lt, Nat.not_le, Int.ofNat_lt, Int.ofNat_le, Bool.not_eq_eq_eq_not, Bool.not_true, Bool.not_false] at hc3
        refine SCode.seqR ?_
        refine SOps.assign rfl ?_
        refine SOps.nil ?_
        refine SCode.ret ?_
        exact ⟨_, Res.one (.tmp rfl), congrArg (fun b => DV.v (.bool b)) (by first | (unfold wideLs; rw [decide_eq_true (show 30 < l.length by omega)]; rfl) | exact (wide_bad hkl (bigL_word hil (by omega))).symm | (exact (wide_bad hkl (by unfold bigL; rw [decide_eq_true (by omega)]; rfl)).symm) | (unfold wideLs; rw [decide_eq_false (show ¬ 30 < l.length by omega), List.any_eq_false.2 (fun x hx => by rw [all_of (show l.length ≤ k by omega) hg x hx]; simp)]; rfl)), rfl⟩
      · try simp only [decide_eq_true_eq, decide_eq_false_iff_not, Bool.not_eq_true', Bool.not_eq_false', beq_iff_eq, bne_iff_ne, ne_eq, beq_eq_false_iff_ne, bne_eq_false_iff_eq, Int.not_lt, Int.not_le, Nat.not_lt, Nat.not_le, Int.ofNat_lt, Int.ofNat_le, Bool.not_eq_eq_eq_not, Bool.not_true, Bool.not_false] at hc3
        refine SCode.skip ?_
        show SCode _ _ _ _
        refine SCode.seqR ?_
        refine SOps.fieldPin rfl fieldB_48_0_0 ?_
        refine SOps.loadPin rfl flatB_46 ?_
        refine SOps.lenM rfl sliceB_46_9_1 ?_
        refine SOps.move rfl ?_
        refine SOps.nil ?_
        refine SCode.block ?_
        refine SCode.loop1 (fun (i : Nat) => (⟨32, [(10, DLns l), (11, .v (.int .i64 (l.length : Int))), (12, .v (.int .i64 (k : Int))), (21, DStrs (l[k]).words), (22, .v (.int .i64 ((l[k]).words.length : Int))), (23, .v (.int .i64 (i : Int)))], []⟩ : St)) (fun (i : Nat) => i ≤ (l[k]).words.length ∧ ∀ w ∈ (l[k]).words.take i, w.size ≤ 300) (fun (i : Nat) => (l[k]).words.length - i) (0) (by exact ⟨Nat.zero_le _, by simp⟩) (St.Le.of ⟨(by first | rfl | (show some _ = some _; simp)), (by first | rfl | (show some _ = some _; simp)), (by first | rfl | (show some _ = some _; simp)), (by first | rfl | (show some _ = some _; simp)), (by first | rfl | (show some _ = some _; simp)), (by first | rfl | (show some _ = some _; simp)), trivial⟩ rfl (by first | rfl | (simp))) ?_
        rintro i ⟨hi, hf⟩
        refine SCode.seqR ?_
        refine SOps.bin rfl rfl rfl ?_
        refine SOps.nil ?_
        refine SCode.seq ?_
        refine SCode.cond rfl (fun hc4 => ?_) (fun hc4 => ?_)
        · try simp only [decide_eq_true_eq, decide_eq_false_iff_not, Bool.not_eq_true', Bool.not_eq_false', beq_iff_eq, bne_iff_ne, ne_eq, beq_eq_false_iff_ne, bne_eq_false_iff_eq, Int.not_lt, Int.not_le, Nat.not_lt, Nat.not_le, Int.ofNat_lt, Int.ofNat_le, Bool.not_eq_eq_eq_not, Bool.not_true, Bool.not_false] at hc4
          refine SCode.skip ?_
          show SCode _ _ _ _
          refine SCode.seq ?_
          refine SCode.block ?_
          refine SCode.seqR ?_
          refine SOps.indexM (i) rfl rfl sliceB_46_9_1 (by first | omega | (simp only [lenB] <;> omega)) (by first | omega | (simp only [lenB] <;> omega)) ?_
          refine SOps.loadPin rfl flatB_9 ?_
          refine SOps.assign rfl ?_
          refine SOps.nil ?_
          refine SCode.seqR ?_
          have hil : i < (l[k]).words.length := by omega
          refine SOps.move rfl ?_
          refine SOps.lenStr rfl strB_9 ?_
          refine SOps.bin rfl rfl rfl ?_
          refine SOps.nil ?_
          refine SCode.cond rfl (fun hc5 => ?_) (fun hc5 => ?_)
          · try simp only [decide_eq_true_eq, decide_eq_false_iff_not, Bool.not_eq_true', Bool.not_eq_false', beq_iff_eq, bne_iff_ne, ne_eq, beq_eq_false_iff_ne, bne_eq_false_iff_eq, Int.not_lt, Int.not_le, Nat.not_lt, Nat.not_le, Int.ofNat_lt, Int.ofNat_le, Bool.not_eq_eq_eq_not, Bool.not_true, Bool.not_false] at hc5
            refine SCode.seqR ?_
            refine SOps.assign rfl ?_
            refine SOps.nil ?_
            refine SCode.ret ?_
            exact ⟨_, Res.one (.tmp rfl), congrArg (fun b => DV.v (.bool b)) (by first | (unfold wideLs; rw [decide_eq_true (show 30 < l.length by omega)]; rfl) | exact (wide_bad hkl (bigL_word hil (by omega))).symm | (exact (wide_bad hkl (by unfold bigL; rw [decide_eq_true (by omega)]; rfl)).symm) | (unfold wideLs; rw [decide_eq_false (show ¬ 30 < l.length by omega), List.any_eq_false.2 (fun x hx => by rw [all_of (show l.length ≤ k by omega) hg x hx]; simp)]; rfl)), rfl⟩
          · try simp only [decide_eq_true_eq, decide_eq_false_iff_not, Bool.not_eq_true', Bool.not_eq_false', beq_iff_eq, bne_iff_ne, ne_eq, beq_eq_false_iff_ne, bne_eq_false_iff_eq, Int.not_lt, Int.not_le, Nat.not_lt, Nat.not_le, Int.ofNat_lt, Int.ofNat_le, Bool.not_eq_eq_eq_not, Bool.not_true, Bool.not_false] at hc5
            refine SCode.skip ?_
            show SCode _ _ _ _
            refine SCode.region ?_
            refine SOps.addI rfl rfl (by first | omega | (simp only [lenB] <;> omega)) (by first | omega | (simp only [lenB] <;> omega)) ?_
            refine SOps.move rfl ?_
            refine SOps.nil ?_
            exact ⟨i + 1, ⟨by omega, take_more hf hil (by omega)⟩, by omega, St.Le.of ⟨rfl, rfl, rfl, rfl, rfl, rfl, trivial⟩⟩
        · try simp only [decide_eq_true_eq, decide_eq_false_iff_not, Bool.not_eq_true', Bool.not_eq_false', beq_iff_eq, bne_iff_ne, ne_eq, beq_eq_false_iff_ne, bne_eq_false_iff_eq, Int.not_lt, Int.not_le, Nat.not_lt, Nat.not_le, Int.ofNat_lt, Int.ofNat_le, Bool.not_eq_eq_eq_not, Bool.not_true, Bool.not_false] at hc4
          refine SCode.exit ?_
          show SCode _ _ _ _
          refine SCode.region ?_
          refine SOps.addI rfl rfl (by first | omega | (simp only [lenB] <;> omega)) (by first | omega | (simp only [lenB] <;> omega)) ?_
          refine SOps.move rfl ?_
          refine SOps.nil ?_
          exact ⟨k + 1, ⟨by omega, take_more hg hkl (bigL_ok (by omega) (all_of (by omega) hf))⟩, by omega, St.Le.of ⟨rfl, rfl, rfl, trivial⟩⟩
    · try simp only [decide_eq_true_eq, decide_eq_false_iff_not, Bool.not_eq_true', Bool.not_eq_false', beq_iff_eq, bne_iff_ne, ne_eq, beq_eq_false_iff_ne, bne_eq_false_iff_eq, Int.not_lt, Int.not_le, Nat.not_lt, Nat.not_le, Int.ofNat_lt, Int.ofNat_le, Bool.not_eq_eq_eq_not, Bool.not_true, Bool.not_false] at hc2
      refine SCode.exit ?_
      show SCode _ _ _ _
      refine SCode.seqR ?_
      refine SOps.assign rfl ?_
      refine SOps.nil ?_
      refine SCode.ret ?_
      exact ⟨_, Res.one (.tmp rfl), congrArg (fun b => DV.v (.bool b)) (by first | (unfold wideLs; rw [decide_eq_true (show 30 < l.length by omega)]; rfl) | exact (wide_bad hkl (bigL_word hil (by omega))).symm | (exact (wide_bad hkl (by unfold bigL; rw [decide_eq_true (by omega)]; rfl)).symm) | (unfold wideLs; rw [decide_eq_false (show ¬ 30 < l.length by omega), List.any_eq_false.2 (fun x hx => by rw [all_of (show l.length ≤ k by omega) hg x hx]; simp)]; rfl)), rfl⟩
theorem lIndexFuncS {f : FuncId} {cap : List DV} (q : ByteArray → Bool) (l : List ByteArray) (hf : ∀ x ∈ l, GCall Tryd.prog E f ([.v (.string x)] ++ cap) [] (fun d H => d = .v (.bool (q x)) ∧ H = [])) : GCall Tryd.prog E 66 [DStrs l, .fn f cap] [] (fun d H => d = .v (.int .i64 (findI q l)) ∧ H = []) := by
  refine GCall.body (C := ⟨Tryd.prog, E, true⟩) Tryd.func66 rfl (fun _ => rfl) (by kernel_rfl) rfl ?_
  refine SCode.seqR ?_
  refine SOps.assign rfl ?_
  refine SOps.nil ?_
  refine SCode.seq ?_
  refine SCode.seqR ?_
  refine SOps.move rfl ?_
  refine SOps.lenM rfl sliceB_46_9_1 ?_
  refine SOps.move rfl ?_
  refine SOps.nil ?_
  refine SCode.block ?_
  refine SCode.loop1 (fun (i : Nat) => (⟨19, [(0, DStrs l), (1, .fn f cap), (4, .v (.int .i64 0)), (7, .v (.int .i64 (l.length : Int))), (8, .v (.int .i64 (i : Int)))], []⟩ : St)) (fun (i : Nat) => i ≤ l.length ∧ ∀ x ∈ l.take i, q x = false) (fun (i : Nat) => l.length - i) (0) (by simp) (St.Le.of ⟨(by first | rfl | (show some _ = some _; simp)), (by first | rfl | (show some _ = some _; simp)), (by first | rfl | (show some _ = some _; simp)), (by first | rfl | (show some _ = some _; simp)), (by first | rfl | (show some _ = some _; simp)), trivial⟩ rfl (by first | rfl | (simp))) ?_
  rintro i ⟨hi, hq⟩
  refine SCode.fact (isl_len (t := 0) rfl) (fun hB => ?_)
  simp only [List.length_map, lenB] at hB
  refine SCode.seqR ?_
  refine SOps.bin rfl rfl rfl ?_
  refine SOps.nil ?_
  refine SCode.seq ?_
  refine SCode.cond rfl (fun hc1 => ?_) (fun hc1 => ?_)
  · try simp only [decide_eq_true_eq, decide_eq_false_iff_not, Bool.not_eq_true', Bool.not_eq_false', beq_iff_eq, bne_iff_ne, ne_eq, beq_eq_false_iff_ne, bne_eq_false_iff_eq, Int.not_lt, Int.not_le, Nat.not_lt, Nat.not_le, Int.ofNat_lt, Int.ofNat_le, Bool.not_eq_eq_eq_not, Bool.not_true, Bool.not_false] at hc1
    refine SCode.skip ?_
    show SCode _ _ _ _
    refine SCode.seq ?_
    refine SCode.block ?_
    refine SCode.seqR ?_
    refine SOps.move rfl ?_
    refine SOps.assign rfl ?_
    refine SOps.nil ?_
    refine SCode.seqR ?_
    refine SOps.move rfl ?_
    refine SOps.move rfl ?_
    refine SOps.move rfl ?_
    refine SOps.indexM (i) rfl rfl sliceB_46_9_1 (by omega) (by omega) ?_
    refine SOps.loadPin rfl flatB_9 ?_
    refine SOps.callFn (ds := [_]) rfl (hf _ (List.getElem_mem (by omega))) rfl ?_
    rintro _ _ ⟨rfl, rfl⟩
    refine SOps.nil ?_
    refine SCode.cond rfl (fun hc2 => ?_) (fun hc2 => ?_)
    · try simp only [decide_eq_true_eq, decide_eq_false_iff_not, Bool.not_eq_true', Bool.not_eq_false', beq_iff_eq, bne_iff_ne, ne_eq, beq_eq_false_iff_ne, bne_eq_false_iff_eq, Int.not_lt, Int.not_le, Nat.not_lt, Nat.not_le, Int.ofNat_lt, Int.ofNat_le, Bool.not_eq_eq_eq_not, Bool.not_true, Bool.not_false] at hc2
      refine SCode.seqR ?_
      refine SOps.move rfl ?_
      refine SOps.assign rfl ?_
      refine SOps.nil ?_
      refine SCode.ret ?_
      exact ⟨_, Res.one (.tmp rfl), by rw [findI_at hq (by omega) hc2], rfl⟩
    · try simp only [decide_eq_true_eq, decide_eq_false_iff_not, Bool.not_eq_true', Bool.not_eq_false', beq_iff_eq, bne_iff_ne, ne_eq, beq_eq_false_iff_ne, bne_eq_false_iff_eq, Int.not_lt, Int.not_le, Nat.not_lt, Nat.not_le, Int.ofNat_lt, Int.ofNat_le, Bool.not_eq_eq_eq_not, Bool.not_true, Bool.not_false] at hc2
      refine SCode.skip ?_
      show SCode _ _ _ _
      refine SCode.region ?_
      refine SOps.addI rfl rfl (by omega) (by omega) ?_
      refine SOps.move rfl ?_
      refine SOps.nil ?_
      exact ⟨i + 1, by exact ⟨by omega, take_more hq (by omega) hc2⟩, by omega, (St.Le.of ⟨(by first | rfl | (show some _ = some _; simp)), (by first | rfl | (show some _ = some _; simp)), (by first | rfl | (show some _ = some _; simp)), (by first | rfl | (show some _ = some _; simp)), (by first | rfl | (show some _ = some _; simp)), trivial⟩ rfl (by first | rfl | (simp)))⟩
  · try simp only [decide_eq_true_eq, decide_eq_false_iff_not, Bool.not_eq_true', Bool.not_eq_false', beq_iff_eq, bne_iff_ne, ne_eq, beq_eq_false_iff_ne, bne_eq_false_iff_eq, Int.not_lt, Int.not_le, Nat.not_lt, Nat.not_le, Int.ofNat_lt, Int.ofNat_le, Bool.not_eq_eq_eq_not, Bool.not_true, Bool.not_false] at hc1
    refine SCode.exit ?_
    show SCode _ _ _ _
    refine SCode.seqR ?_
    refine SOps.assign rfl ?_
    refine SOps.nil ?_
    refine SCode.ret ?_
    exact ⟨_, Res.one (.tmp rfl), by rw [findI_none (all_of (by omega) hq)], rfl⟩
theorem lContainsFuncS {f : FuncId} {cap : List DV} (q : ByteArray → Bool) (l : List ByteArray) (hf : ∀ x ∈ l, GCall Tryd.prog E f ([.v (.string x)] ++ cap) [] (fun d H => d = .v (.bool (q x)) ∧ H = [])) : GCall Tryd.prog E 58 [DStrs l, .fn f cap] [] (fun d H => d = .v (.bool (l.any q)) ∧ H = []) := by
  refine GCall.body (C := ⟨Tryd.prog, E, true⟩) Tryd.func58 rfl (fun _ => rfl) (by kernel_rfl) rfl ?_
  refine SCode.seqR ?_
  refine SOps.assign rfl ?_
  refine SOps.nil ?_
  refine SCode.seqR ?_
  refine SOps.move rfl ?_
  refine SOps.move rfl ?_
  refine SOps.callP (lIndexFuncS q l hf) rfl ?_
  rintro _ rfl
  refine SOps.bin rfl rfl rfl ?_
  refine SOps.assign rfl ?_
  refine SOps.nil ?_
  refine SCode.ret ?_
  exact ⟨_, Res.one (.tmp rfl), congrArg (fun b => DV.v (.bool b)) findI_nonneg, rfl⟩
theorem sCost1 (hV : VS E) (s : ByteArray) (hs : s.size ≤ 1048576) : GCall Tryd.prog E 59 [.v (.string s)] [] (fun d H => d = .v (.bool (!wordB s)) ∧ H = []) := by
  refine GCall.body (C := ⟨Tryd.prog, E, true⟩) Tryd.func59 rfl (fun _ => rfl) (by kernel_rfl) rfl ?_
  refine SCode.seqR ?_
  refine SOps.assign rfl ?_
  refine SOps.nil ?_
  refine SCode.seqR ?_
  refine SOps.move rfl ?_
  refine SOps.callP (sPrintable hV _ (by assumption)) rfl ?_
  rintro _ rfl
  refine SOps.un rfl rfl ?_
  refine SOps.assign rfl ?_
  refine SOps.nil ?_
  refine SCode.ret ?_
  exact ⟨_, Res.one (.tmp rfl), rfl, rfl⟩
theorem lTexts (x : List ByteArray) (l : List Bx)  : GCall Tryd.prog E 62 [DStrs x, DBxs l] [] (fun d H => d = .v (.bool (decide (x = l.map (·.word)))) ∧ H = []) := by
  refine GCall.body (C := ⟨Tryd.prog, E, true⟩) Tryd.func62 rfl (fun _ => rfl) (by kernel_rfl) rfl ?_
  refine SCode.seqR ?_
  refine SOps.assign rfl ?_
  refine SOps.nil ?_
  refine SCode.seq ?_
  refine SCode.seqR ?_
  refine SOps.move rfl ?_
  refine SOps.lenM rfl sliceB_46_9_1 ?_
  refine SOps.move rfl ?_
  refine SOps.lenM rfl sliceB_22_43_2 ?_
  refine SOps.bin rfl rfl rfl ?_
  refine SOps.nil ?_
  refine SCode.cond rfl (fun hc1 => ?_) (fun hc1 => ?_)
  · try simp only [decide_eq_true_eq, decide_eq_false_iff_not, Bool.not_eq_true', Bool.not_eq_false', beq_iff_eq, bne_iff_ne, ne_eq, beq_eq_false_iff_ne, bne_eq_false_iff_eq, Int.not_lt, Int.not_le, Nat.not_lt, Nat.not_le, Int.ofNat_lt, Int.ofNat_le, Bool.not_eq_eq_eq_not, Bool.not_true, Bool.not_false] at hc1
    refine SCode.seqR ?_
    refine SOps.assign rfl ?_
    refine SOps.nil ?_
    refine SCode.ret ?_
    exact ⟨_, Res.one (.tmp rfl), congrArg (fun b => DV.v (.bool b)) ((decide_eq_false (fun e => hc1 (by rw [e]; simp))).symm), rfl⟩
  · try simp only [decide_eq_true_eq, decide_eq_false_iff_not, Bool.not_eq_true', Bool.not_eq_false', beq_iff_eq, bne_iff_ne, ne_eq, beq_eq_false_iff_ne, bne_eq_false_iff_eq, Int.not_lt, Int.not_le, Nat.not_lt, Nat.not_le, Int.ofNat_lt, Int.ofNat_le, Bool.not_eq_eq_eq_not, Bool.not_true, Bool.not_false] at hc1
    refine SCode.skip ?_
    show SCode _ _ _ _
    refine SCode.seq ?_
    refine SCode.seqR ?_
    refine SOps.assign rfl ?_
    refine SOps.nil ?_
    refine SCode.block ?_
    refine SCode.loop1 (fun (i : Nat) => (⟨27, [(0, DStrs x), (1, DBxs l), (5, .v (.int .i64 (i : Int)))], []⟩ : St)) (fun (i : Nat) => i ≤ x.length ∧ x.take i = (l.map (·.word)).take i) (fun (i : Nat) => x.length - i) (0) (by simp) (St.Le.of ⟨(by first | rfl | (show some _ = some _; simp)), (by first | rfl | (show some _ = some _; simp)), (by first | rfl | (show some _ = some _; simp)), trivial⟩ rfl (by first | rfl | (simp))) ?_
    rintro i ⟨hi, hf⟩
    refine SCode.fact (isl_len (t := 0) rfl) (fun hB => ?_)
    simp only [List.length_map, lenB] at hB
    refine SCode.seq ?_
    refine SCode.seqR ?_
    refine SOps.move rfl ?_
    refine SOps.move rfl ?_
    refine SOps.lenM rfl sliceB_46_9_1 ?_
    refine SOps.bin rfl rfl rfl ?_
    refine SOps.nil ?_
    refine SCode.cond rfl (fun hc2 => ?_) (fun hc2 => ?_)
    · try simp only [decide_eq_true_eq, decide_eq_false_iff_not, Bool.not_eq_true', Bool.not_eq_false', beq_iff_eq, bne_iff_ne, ne_eq, beq_eq_false_iff_ne, bne_eq_false_iff_eq, Int.not_lt, Int.not_le, Nat.not_lt, Nat.not_le, Int.ofNat_lt, Int.ofNat_le, Bool.not_eq_eq_eq_not, Bool.not_true, Bool.not_false] at hc2
      refine SCode.skip ?_
      show SCode _ _ _ _
      refine SCode.seq ?_
      refine SCode.block ?_
      refine SCode.seq ?_
      have hx : i < x.length := by omega
      have hyl : i < l.length := by omega
      have hy : i < (l.map (·.word)).length := by simpa using hyl
      apply SCode.drawAuto mixed_ [17, 18, 19, 20, 21, 22, 23, 24, 25, 26] [[.inr 0], [.inr 5], [.inl 0, .inl 1], [.inl 2], [.inr 1], [.inr 5], [.inl 4, .inl 5], [.inl 6], [.inl 7], [.inl 3, .inl 8]]
      · kernel_rfl
      · kernel_rfl
      · apply DOk.cons 17 
        · rfl
        · exact (NeedIs.inr _ rfl NeedIs.nil)
        · intro rest
          refine SOps.move rfl ?_
          exact SOps.nil rfl
        apply DOk.cons 18 
        · rfl
        · exact (NeedIs.inr _ rfl NeedIs.nil)
        · intro rest
          refine SOps.move rfl ?_
          exact SOps.nil rfl
        apply DOk.cons 19 
        · rfl
        · exact (NeedIs.inl 1 _ _ rfl rfl (NeedIs.inl 0 _ _ rfl rfl NeedIs.nil))
        · intro rest
          refine SOps.indexM (i) rfl rfl sliceB_46_9_1 (by first | omega | (simp only [lenB] <;> omega)) (by first | omega | (simp only [lenB] <;> omega)) ?_
          exact SOps.nil rfl
        apply DOk.cons 20 
        · rfl
        · exact (NeedIs.inl 0 _ _ rfl rfl NeedIs.nil)
        · intro rest
          refine SOps.loadPin rfl flatB_9 ?_
          exact SOps.nil rfl
        apply DOk.cons 21 
        · rfl
        · exact (NeedIs.inr _ rfl NeedIs.nil)
        · intro rest
          refine SOps.move rfl ?_
          exact SOps.nil rfl
        apply DOk.cons 22 
        · rfl
        · exact (NeedIs.inr _ rfl NeedIs.nil)
        · intro rest
          refine SOps.move rfl ?_
          exact SOps.nil rfl
        apply DOk.cons 23 
        · rfl
        · exact (NeedIs.inl 1 _ _ rfl rfl (NeedIs.inl 0 _ _ rfl rfl NeedIs.nil))
        · intro rest
          refine SOps.indexM (i) rfl rfl sliceB_22_43_2 (by first | omega | (simp only [lenB] <;> omega)) (by first | omega | (simp only [lenB] <;> omega)) ?_
          exact SOps.nil rfl
        apply DOk.cons 24 
        · rfl
        · exact (NeedIs.inl 0 _ _ rfl rfl NeedIs.nil)
        · intro rest
          refine SOps.fieldPin rfl fieldB_43_0_0 ?_
          exact SOps.nil rfl
        apply DOk.cons 25 
        · rfl
        · exact (NeedIs.inl 0 _ _ rfl rfl NeedIs.nil)
        · intro rest
          refine SOps.loadPin rfl flatB_9 ?_
          exact SOps.nil rfl
        apply DOk.cons 26 
        · rfl
        · exact (NeedIs.inl 5 _ _ rfl rfl (NeedIs.inl 0 _ _ rfl rfl NeedIs.nil))
        · intro rest
          refine SOps.bin rfl rfl rfl ?_
          exact SOps.nil rfl
        exact DOk.nil
      · rfl
      · show SCode _ _ _ _
        refine SCode.cond rfl (fun hc3 => ?_) (fun hc3 => ?_)
        · try simp only [decide_eq_true_eq, decide_eq_false_iff_not, Bool.not_eq_true', Bool.not_eq_false', beq_iff_eq, bne_iff_ne, ne_eq, beq_eq_false_iff_ne, bne_eq_false_iff_eq, Int.not_lt, Int.not_le, Nat.not_lt, Nat.not_le, Int.ofNat_lt, Int.ofNat_le, Bool.not_eq_eq_eq_not, Bool.not_true, Bool.not_false] at hc3
          refine SCode.seqR ?_
          refine SOps.assign rfl ?_
          refine SOps.nil ?_
          refine SCode.ret ?_
          exact ⟨_, Res.one (.tmp rfl), congrArg (fun b => DV.v (.bool b)) ((decide_eq_false (fun e => by subst e; simp at hc3)).symm), rfl⟩
        · try simp only [decide_eq_true_eq, decide_eq_false_iff_not, Bool.not_eq_true', Bool.not_eq_false', beq_iff_eq, bne_iff_ne, ne_eq, beq_eq_false_iff_ne, bne_eq_false_iff_eq, Int.not_lt, Int.not_le, Nat.not_lt, Nat.not_le, Int.ofNat_lt, Int.ofNat_le, Bool.not_eq_eq_eq_not, Bool.not_true, Bool.not_false] at hc3
          refine SCode.skip ?_
          show SCode _ _ _ _
          refine SCode.region ?_
          refine SOps.move rfl ?_
          refine SOps.addI rfl rfl (by first | omega | (simp only [lenB] <;> omega)) (by first | omega | (simp only [lenB] <;> omega)) ?_
          refine SOps.assign rfl ?_
          refine SOps.nil ?_
          exact ⟨i + 1, by exact ⟨by omega, take_eq_succ hx hy hf (by simpa using hc3)⟩, by omega, (St.Le.of ⟨(by first | rfl | (show some _ = some _; simp)), (by first | rfl | (show some _ = some _; simp)), (by first | rfl | (show some _ = some _; simp)), trivial⟩ rfl (by first | rfl | (simp)))⟩
    · try simp only [decide_eq_true_eq, decide_eq_false_iff_not, Bool.not_eq_true', Bool.not_eq_false', beq_iff_eq, bne_iff_ne, ne_eq, beq_eq_false_iff_ne, bne_eq_false_iff_eq, Int.not_lt, Int.not_le, Nat.not_lt, Nat.not_le, Int.ofNat_lt, Int.ofNat_le, Bool.not_eq_eq_eq_not, Bool.not_true, Bool.not_false] at hc2
      refine SCode.exit ?_
      show SCode _ _ _ _
      refine SCode.seqR ?_
      refine SOps.assign rfl ?_
      refine SOps.nil ?_
      refine SCode.ret ?_
      exact ⟨_, Res.one (.tmp rfl), congrArg (fun b => DV.v (.bool b)) ((decide_eq_true (take_full (by omega) (by rw [List.length_map]; omega) hf)).symm), rfl⟩
end Go.GH
namespace Go.GH
open Go Go.Lib
def freeL (w : Int) (l : Ln) : Int := w - (wlen (textL l) : Int)
def lnAt (l : List Ln) (i : Nat) : Ln := l.getD i ⟨[], false⟩
def costAt (l : List Ln) (w p : Int) (i : Nat) : Int := (if i + 1 < l.length then freeL w (lnAt l i) * freeL w (lnAt l i) else 0) + (if (lnAt l i).hyph then p else 0)
def sumK (l : List Ln) (w p : Int) : Nat → Int
  | 0 => 0
  | k + 1 => sumK l w p k + costAt l w p k
def sumL (l : List Ln) (w p : Int) : Int := sumK l w p l.length
/-- Lines of which no text is long. -/
def LnOK (l : Ln) : Prop := l.words.length ≤ 1000 ∧ ∀ w ∈ l.words, w.size ≤ 1000
theorem lnAt_lt {l : List Ln} {i : Nat} (h : i < l.length) : lnAt l i = l[i] := by
  unfold lnAt; rw [List.getD_eq_getElem?_getD, List.getElem?_eq_getElem h]; rfl
theorem LnOK.size {l : Ln} (h : LnOK l) : wlen (textL l) ≤ 1001001 := by
  have h1 := catW_size l.words.length h.2 (Nat.le_refl _)
  rw [List.take_length] at h1
  have h2 : (1000 + 1) * l.words.length ≤ 1001 * 1000 := Nat.mul_le_mul_left _ h.1
  have h3 : (textL l).size ≤ 1001001 := by
    unfold textL
    split
    · rw [ByteArray.size_append]; have : hy1.size = 1 := rfl; omega
    · omega
  have := runes_len (textL l)
  unfold wlen; omega
theorem LnOK.words {l : Ln} (h : LnOK l) : (∀ w ∈ l.words, w.size ≤ 1048576) ∧ l.words.length ≤ 1048576 :=
  ⟨fun w hw => by have := h.2 w hw; omega, by have := h.1; omega⟩
theorem freeL_bound {w : Int} {l : Ln} (h : LnOK l) (h1 : 0 ≤ w) (h2 : w ≤ 1000) : -1100000 ≤ freeL w l ∧ freeL w l ≤ 1100000 := by
  have := h.size
  unfold freeL; omega
theorem sq_bound {x : Int} (h1 : -1100000 ≤ x) (h2 : x ≤ 1100000) : 0 ≤ x * x ∧ x * x ≤ 1210000000000 := by
  rcases Int.le_total 0 x with h | h
  · exact ⟨Int.mul_nonneg h h, by have := Int.mul_le_mul h2 h2 h (by omega); omega⟩
  · have h3 : 0 ≤ -x := by omega
    have e : x * x = (-x) * (-x) := by rw [Int.neg_mul_neg]
    rw [e]
    exact ⟨Int.mul_nonneg h3 h3, by have := Int.mul_le_mul (show -x ≤ 1100000 by omega) (show -x ≤ 1100000 by omega) h3 (by omega); omega⟩
theorem costAt_bound {l : List Ln} {w p : Int} (h : ∀ x ∈ l, LnOK x) (h1 : 0 ≤ w) (h2 : w ≤ 1000) (h3 : 0 ≤ p) (h4 : p ≤ 1000000) {i : Nat} (hi : i < l.length) : 0 ≤ costAt l w p i ∧ costAt l w p i ≤ 1210001000000 := by
  have hx := h _ (List.getElem_mem hi)
  rw [← lnAt_lt hi] at hx
  have hf := freeL_bound hx h1 h2
  have hs := sq_bound hf.1 hf.2
  unfold costAt
  split <;> split <;> omega
theorem sumK_bound {l : List Ln} {w p : Int} (h : ∀ x ∈ l, LnOK x) (h1 : 0 ≤ w) (h2 : w ≤ 1000) (h3 : 0 ≤ p) (h4 : p ≤ 1000000) : ∀ (k : Nat), k ≤ l.length → 0 ≤ sumK l w p k ∧ sumK l w p k ≤ 1210001000000 * k
  | 0, _ => by simp [sumK]
  | k + 1, hk => by
    have ih := sumK_bound h h1 h2 h3 h4 k (by omega)
    have hc := costAt_bound h h1 h2 h3 h4 (i := k) (by omega)
    rw [sumK]
    omega
end Go.GH
namespace Go.GH
open Go Go.Proofs
variable {E : Env}
end Go.GH
namespace Go.GH
open Go Go.Lib
def badLn (n k : Nat) (ln : Ln) : Bool := decide (ln.words.length = 0) || (ln.hyph && decide (k + 1 = n)) || ln.words.any (fun w => !wordB w)
def badsL (l : List Ln) : Bool := (List.range l.length).any (fun k => badLn l.length k (lnAt l k))
def costBad (l : List Ln) (w p : Int) : Bool := !wideB w || !penB p || decide (1000 < l.length) || badsL l
def tightL (l : List Ln) (w : Int) : Bool := l.any (fun ln => decide (freeL w ln < 0))
def costL (l : List Ln) (w p : Int) : Int × Int := if costBad l w p then (0, 1) else if tightL l w then (0, 2) else (sumL l w p, 0)
def tupC (x : Int × Int) : DV := .tup [.v (.int .i64 x.1), .v (.int .i64 x.2)]
theorem bads_at {l : List Ln} {k : Nat} (h : k < l.length) (h2 : badLn l.length k l[k] = true) : badsL l = true :=
  List.any_eq_true.2 ⟨k, List.mem_range.2 h, by rw [lnAt_lt h]; exact h2⟩
theorem bads_none {l : List Ln} (h : ∀ j, j < l.length → badLn l.length j (lnAt l j) = false) : badsL l = false :=
  List.any_eq_false.2 (fun k hk => by rw [h k (List.mem_range.1 hk)]; simp)
theorem bads_step {l : List Ln} {k : Nat} (hf : ∀ j, j < k → badLn l.length j (lnAt l j) = false) (h : k < l.length) (h2 : badLn l.length k l[k] = false) : ∀ j, j < k + 1 → badLn l.length j (lnAt l j) = false := fun j hj => by
  rcases Nat.lt_or_ge j k with h3 | h3
  · exact hf j h3
  · obtain rfl : j = k := by omega
    rw [lnAt_lt h]; exact h2
theorem badLn_of {n k : Nat} {ln : Ln} (h1 : ¬ ln.words.length = 0) (h2 : ln.hyph = false ∨ ¬ k + 1 = n) (h3 : ln.words.any (fun w => !wordB w) = false) : badLn n k ln = false := by
  unfold badLn
  rw [h3, decide_eq_false h1]
  rcases h2 with h2 | h2
  · rw [h2]; rfl
  · rw [decide_eq_false h2, Bool.and_false]; rfl
theorem badLn_1 {n k : Nat} {ln : Ln} (h1 : ln.words.length = 0) : badLn n k ln = true := by unfold badLn; rw [decide_eq_true h1]; rfl
theorem badLn_2 {n k : Nat} {ln : Ln} (h1 : ln.hyph = true) (h2 : k + 1 = n) : badLn n k ln = true := by unfold badLn; rw [h1, decide_eq_true h2]; simp
theorem badLn_3 {n k : Nat} {ln : Ln} (h1 : ln.words.any (fun w => !wordB w) = true) : badLn n k ln = true := by unfold badLn; rw [h1, Bool.or_true]
theorem cost_bad {l : List Ln} {w p : Int} (h : costBad l w p = true) : costL l w p = (0, 1) := by unfold costL; rw [if_pos h]
theorem cost_tight {l : List Ln} {w p : Int} (h : costBad l w p = false) (h2 : tightL l w = true) : costL l w p = (0, 2) := by unfold costL; rw [if_neg (by rw [h]; simp), if_pos h2]
theorem cost_ok {l : List Ln} {w p : Int} (h : costBad l w p = false) (h2 : tightL l w = false) : costL l w p = (sumL l w p, 0) := by unfold costL; rw [if_neg (by rw [h]; simp), if_neg (by rw [h2]; simp)]
theorem tight_at {l : List Ln} {w : Int} {k : Nat} (h : k < l.length) (h2 : freeL w l[k] < 0) : tightL l w = true := List.any_eq_true.2 ⟨_, List.getElem_mem h, decide_eq_true h2⟩
theorem tight_none {l : List Ln} {w : Int} (h : ∀ x ∈ l, ¬ freeL w x < 0) : tightL l w = false := List.any_eq_false.2 (fun x hx => by rw [decide_eq_false (h x hx)]; simp)
theorem costBad_of {l : List Ln} {w p : Int} (h1 : wideB w = true) (h2 : penB p = true) (h3 : ¬ 1000 < l.length) (h4 : badsL l = false) : costBad l w p = false := by unfold costBad; rw [h1, h2, decide_eq_false h3, h4]; rfl
theorem costBad_4 {l : List Ln} {w p : Int} (h : badsL l = true) : costBad l w p = true := by unfold costBad; rw [h, Bool.or_true]
theorem penB_iff {p : Int} : penB p = true ↔ 0 ≤ p ∧ p ≤ 1000000 := by simp [penB]
theorem wideB_iff {p : Int} : wideB p = true ↔ 1 ≤ p ∧ p ≤ 200 := by simp [wideB]
theorem costBad_0 {l : List Ln} {w p : Int} (h : wideB w = false ∨ p < 0 ∨ 1000000 < p ∨ 1000 < l.length) : costBad l w p = true := by
  unfold costBad
  rcases h with h | h | h | h
  · rw [h]; rfl
  · rw [show penB p = false from Bool.eq_false_iff.2 (fun h2 => by have := penB_iff.1 h2; omega)]; simp
  · rw [show penB p = false from Bool.eq_false_iff.2 (fun h2 => by have := penB_iff.1 h2; omega)]; simp
  · rw [decide_eq_true h]; simp
end Go.GH
