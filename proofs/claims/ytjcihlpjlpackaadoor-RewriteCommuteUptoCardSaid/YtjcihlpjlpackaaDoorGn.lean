/-
  The same rules where a slice's elements are told by a list of plain data and its encoding; literals; searches in maps. Proved here: each from the rule it stands for. No conditions.
-/
import Derived.Test.YtjcihlpjlpackaaDoorGm
set_option linter.unusedVariables false
set_option linter.unusedSimpArgs false
namespace Go.GH
open Go Go.RowKit
section
variable {C : Ctx} {E : Env} {base : Base} {F : Nat → Prop} {st : St} {a : Act} {w : World} {ops : Array Oper} {rest : List Oper} {R : St → Prop}
  {t : Tmp} {ty : TypeId} {pos : String} {aft : Array Edge} {g : Option (Nat × Bool)} {α : Type}

/-- Own memory that is named no more. -/
theorem SCode.drop {c : Code} {Q : Exit → St → Prop} (h : SCode C c ⟨st.n, st.slots, []⟩ Q) : SCode C c st Q :=
  SCode.weaken (st' := ⟨st.n, st.slots, []⟩) ⟨rfl, fun t d h => .inl h, [], .refl _, List.nil_sublist _⟩ h
theorem SOps.lenM {T e sz n1 : Nat} {xo : Operand} {nn : Bool} {f : α → List DV} {xs : List α} (hx : st.val xo = some (.isl nn n1 (xs.map f))) (hT : sliceB C.P T e sz = true) (hrest : SOps C ops rest (st.put t (.v (.int .i64 xs.length))) R)
    (hg : st.wants ops g = some true := by rfl) (ht : Nat.blt t st.n = true := by rfl) : SOps C ops (⟨some t, .call { callee := .builtin .len, args := #[xo], argTypes := #[T] }, ty, pos, aft, g⟩ :: rest) st R :=
  SOps.lenIsl hx hT (by rw [List.length_map]; exact hrest) hg ht
theorem SOps.indexM {T e sz : Nat} {xo io : Operand} {nn : Bool} {f : α → List DV} {xs : List α} {k : IntKind} {m : Int} (i : Nat) (hx : st.val xo = some (.isl nn sz (xs.map f))) (hi : st.val io = some (.v (.int k m)))
    (hT : sliceB C.P T e sz = true) (hm : m = (i : Int)) (hlt : i < xs.length) (hrest : SOps C ops rest (st.put t (.ipin (f (xs[i]'hlt)))) R)
    (hg : st.wants ops g = some true := by rfl) (ht : Nat.blt t st.n = true := by rfl) : SOps C ops (⟨some t, .indexAddr T xo io, ty, pos, aft, g⟩ :: rest) st R :=
  SOps.indexIsl i hx (hm ▸ hi) hT (by rw [List.getElem?_map, List.getElem?_eq_getElem hlt]; rfl) hrest hg ht
/-- An own row's element. -/
theorem SOps.indexS {T e sz b off len : Nat} {xo io : Operand} {k : IntKind} {m : Int} (i : Nat) (hx : st.val xo = some (.sl b sz off len)) (hi : st.val io = some (.v (.int k m)))
    (hT : sliceB C.P T e sz = true) (hm : m = (i : Int)) (hlt : i < len) (hrest : SOps C ops rest (st.put t (.ref b ((off + i) * sz))) R)
    (hg : st.wants ops g = some true := by rfl) (ht : Nat.blt t st.n = true := by rfl) : SOps C ops (⟨some t, .indexAddr T xo io, ty, pos, aft, g⟩ :: rest) st R :=
  SOps.indexSl i hx (hm ▸ hi) hT hlt hrest hg ht
theorem SOps.strIndexM {T : TypeId} {xo io : Operand} {s : ByteArray} {k : IntKind} {m : Int} (i : Nat) (hx : st.val xo = some (.v (.string s))) (hi : st.val io = some (.v (.int k m))) (hT : strB C.P T = true) (hm : m = (i : Int)) (hlt : i < s.size)
    (hrest : SOps C ops rest (st.put t (.v (.int .u8 (s[i]'hlt).toNat))) R)
    (hg : st.wants ops g = some true := by rfl) (ht : Nat.blt t st.n = true := by rfl) : SOps C ops (⟨some t, .index T xo io, ty, pos, aft, g⟩ :: rest) st R :=
  SOps.strIndex i hx (hm ▸ hi) hT hlt hrest hg ht
theorem Bnd.at {st : St} {x : Operand} {d : Nat} {k : IntKind} {m : Int} (n : Nat) (h : st.val x = Option.some (DV.v (.int k m))) (hm : m = (n : Int)) : Bnd st (Option.some x) d n := by
  subst hm; exact .some h
theorem SOps.sliceM {T e sz n1 : Nat} {xo : Operand} {lo hi : Option Operand} {nn : Bool} {f : α → List DV} {xs : List α} (l h : Nat) (hT : sliceB C.P T e sz = true) (hx : st.val xo = some (.isl nn sz (xs.map f))) (hl : Bnd st lo 0 l) (hh : Bnd st hi xs.length h) (h1 : l ≤ h) (h2 : h ≤ xs.length)
    (hrest : SOps C ops rest (st.put t (.isl nn sz (((xs.drop l).take (h - l)).map f))) R)
    (hg : st.wants ops g = some true := by rfl) (ht : Nat.blt t st.n = true := by rfl) : SOps C ops (⟨some t, .slice T xo lo hi none, ty, pos, aft, g⟩ :: rest) st R :=
  SOps.sliceIsl (n1 := n1) l h hT hx hl (by rw [List.length_map]; exact hh) h1 (by rw [List.length_map]; exact h2) (by rw [← List.map_drop, ← List.map_take]; exact hrest) hg ht
/-- A cut from l to the end. -/
theorem SOps.sliceD {T e sz n1 : Nat} {xo lo : Operand} {nn : Bool} {f : α → List DV} {xs : List α} {k : IntKind} {m : Int} (l : Nat) (hT : sliceB C.P T e sz = true) (hx : st.val xo = some (.isl nn sz (xs.map f))) (hl : st.val lo = some (.v (.int k m))) (hm : m = (l : Int)) (h2 : l ≤ xs.length)
    (hrest : SOps C ops rest (st.put t (.isl nn sz ((xs.drop l).map f))) R)
    (hg : st.wants ops g = some true := by rfl) (ht : Nat.blt t st.n = true := by rfl) : SOps C ops (⟨some t, .slice T xo (some lo) none none, ty, pos, aft, g⟩ :: rest) st R :=
  SOps.sliceM (n1 := n1) l xs.length hT hx (.at l hl hm) .none h2 (Nat.le_refl _) (by rw [List.take_of_length_le (by simp)]; exact hrest) hg ht
/-- A cut of the first h. -/
theorem SOps.sliceT {T e sz n1 : Nat} {xo hi : Operand} {nn : Bool} {f : α → List DV} {xs : List α} {k : IntKind} {m : Int} (h : Nat) (hT : sliceB C.P T e sz = true) (hx : st.val xo = some (.isl nn sz (xs.map f))) (hh : st.val hi = some (.v (.int k m))) (hm : m = (h : Int)) (h2 : h ≤ xs.length)
    (hrest : SOps C ops rest (st.put t (.isl nn sz ((xs.take h).map f))) R)
    (hg : st.wants ops g = some true := by rfl) (ht : Nat.blt t st.n = true := by rfl) : SOps C ops (⟨some t, .slice T xo none (some hi) none, ty, pos, aft, g⟩ :: rest) st R :=
  SOps.sliceM (n1 := n1) 0 h hT hx .none (.at h hh hm) (Nat.zero_le _) h2 hrest hg ht

theorem SOps.forget {l : List Oper} {n sz : Nat} {slots : List (Nat × DV)} {heap : DHeap} {es : List (List DV)} (h : SOps C ops l ⟨n, (t, .isl false sz es) :: slots, heap⟩ R) : SOps C ops l ⟨n, (t, .isl true sz es) :: slots, heap⟩ R := by
  intro base ok a w ⟨F, hs⟩
  have hs2 : SimF C.E base F (St.put ⟨n, (t, .isl true sz es) :: slots, heap⟩ t (.isl false sz es)) a w := SimF.relabel hs (d := .isl true sz es) (St.get_put_same ⟨n, slots, _⟩ t _) (fun hv => by
    generalize a.tmps.getD t undef = v at hv
    cases hv with
    | isl xs hlen hcap hB hnn hA hsz hc hr => exact .isl xs hlen hcap hB (fun h => by cases h) hA hsz hc hr)
  exact SOps.shadow h base ok a w ⟨F, hs2⟩
/-- A nil slice is a slice of nothing. -/
theorem SOps.nilIsl {l : List Oper} {sz : Nat} (hd : st.get t = some (.v (.slice none 0 0))) (h : SOps C ops l ⟨st.n, (t, .isl false sz []) :: st.slots, st.heap⟩ R) : SOps C ops l st R := by
  intro base ok a w ⟨F, hs⟩
  exact h base ok a w ⟨F, SimF.relabel hs hd (fun hv => by
    rw [hv.inv_v.1]
    exact .isl (b := 0) (o := 0) (fun _ _ => undef) rfl (by omega) (by simp [lenB]) (fun h => by cases h) (fun h => absurd rfl h) (fun i e h => by simp at h) (fun i e j d h => by simp at h) (fun i e j d h => by simp at h))⟩
theorem SOps.runesF {src dst e : TypeId} {xo : Operand} {s : ByteArray} (hp : C.pu = true) (hx : st.val xo = some (.v (.string s))) (hS : strB C.P src = true) (hT : sliceB C.P dst e 1 = true) (hE : intB C.P e .i32 = true)
    (hrest : SOps C ops rest (st.put t (.isl false 1 ((runes s).map rcell))) R)
    (hg : st.wants ops g = some true := by rfl) (ht : Nat.blt t st.n = true := by rfl) : SOps C ops (⟨some t, .convert src dst xo, ty, pos, aft, g⟩ :: rest) st R :=
  SOps.convRunesF hp hx hS hT hE (SOps.forget hrest) hg ht
/-- An own row, let go. -/
theorem SOps.freezeS {l : List Oper} (i : Nat) {b elem sz len : Nat} {es : List (List DV)} (hp : C.pu = true) (hi : st.heap[i]? = some (b, .row elem sz es)) (hd : st.get t = some (.sl b sz 0 len)) (hle : len = es.length)
    (h : SOps C ops l ⟨st.n, (t, .isl false sz es) :: st.slots, st.heap.eraseIdx i⟩ R) : SOps C ops l st R :=
  SOps.freeze (t := t) i hp hi hd (by omega) (by rw [List.drop_zero, List.take_of_length_le (by omega)]; exact SOps.forget h)

/-- A slice literal that is written no more. -/
theorem SOps.litF {T e sz n : Nat} {z : Value} {parts : Array (Nat × Operand)} {qs : List (Nat × Nat × DV)} {ds : List DV} (hp : C.pu = true) (hT : sliceB C.P T e sz = true) (hz : zeroIs C.P e z) (hds : st.vals (parts.toList.map (·.2)) = some ds)
    (hrest : SOps C ops rest (st.put t (.isl false sz (ds.map ecells))) R)
    (hq : st.parts ((List.range n).map (fun i => (i * sz, sz))) parts.toList = some qs := by rfl)
    (hf : dfill (zrow z sz n) qs = some ((ds.map ecells).flatten) := by rfl) (hl : ((ds.map ecells).all (fun e => Nat.beq e.length sz)) = true := by rfl) (h1 : qs.all (fun q => (ecells q.2.2).all DV.one) = true := by rfl)
    (hn : Nat.ble (n * sz) 16777216 = true := by rfl) (hel : (ds.map ecells).length = n := by rfl) (hnl : Nat.ble n 16777216 = true := by rfl) (hzs : z.cells.size = sz := by rfl) (hb : zcellsB z = true := by rfl)
    (hg : st.wants ops g = some true := by rfl) (ht : Nat.blt t st.n = true := by rfl) : SOps C ops (⟨some t, .buildSlice T n parts, ty, pos, aft, g⟩ :: rest) st R :=
  SOps.buildSliceF hp hT hz hq hf rfl (fun e he => Nat.eq_of_beq_eq_true (List.all_eq_true.1 hl e he)) (fun q hq c hc => List.all_eq_true.1 (List.all_eq_true.1 h1 q hq) c hc) (SOps.forget hrest) hn hel hnl hzs hb hg ht
/-- A slice literal that the call goes on to write. -/
theorem SOps.litO {T e sz n : Nat} {z : Value} {parts : Array (Nat × Operand)} {qs : List (Nat × Nat × DV)} {ds : List DV} (hT : sliceB C.P T e sz = true) (hz : zeroIs C.P e z) (hds : st.vals (parts.toList.map (·.2)) = some ds)
    (hrest : ∀ b, st.fresh b → SOps C ops rest ⟨st.n, (t, .sl b sz 0 n) :: st.slots, (b, .row e sz (ds.map ecells)) :: st.heap⟩ R)
    (hq : st.parts ((List.range n).map (fun i => (i * sz, sz))) parts.toList = some qs := by rfl)
    (hf : dfill (zrow z sz n) qs = some ((ds.map ecells).flatten) := by rfl) (hl : ((ds.map ecells).all (fun e => Nat.beq e.length sz)) = true := by rfl) (h1 : qs.all (fun q => (ecells q.2.2).all DV.one) = true := by rfl)
    (hn : Nat.ble (n * sz) 16777216 = true := by rfl) (hel : (ds.map ecells).length = n := by rfl) (hnl : Nat.ble n 16777216 = true := by rfl) (hzs : z.cells.size = sz := by rfl) (hb : zcellsB z = true := by rfl)
    (hg : st.wants ops g = some true := by rfl) (ht : Nat.blt t st.n = true := by rfl) : SOps C ops (⟨some t, .buildSlice T n parts, ty, pos, aft, g⟩ :: rest) st R :=
  SOps.buildSlice hT hz hq hf rfl (fun e he => Nat.eq_of_beq_eq_true (List.all_eq_true.1 hl e he)) (fun q hq c hc => List.all_eq_true.1 (List.all_eq_true.1 h1 q hq) c hc) hrest hn hel hnl hzs hb hg ht

theorem SOps.boxAM {T : Nat} {xo : Operand} {ds : List DV} (hp : C.pu = true) (hx : st.val xo = some (.agg ds)) (hrest : SOps C ops rest (st.put t (.ipin ds)) R) (hd : ds.all DV.one = true := by rfl)
    (hg : st.wants ops g = some true := by rfl) (ht : Nat.blt t st.n = true := by rfl) : SOps C ops (⟨some t, .box T xo, ty, pos, aft, g⟩ :: rest) st R :=
  SOps.boxAF (sz := 0) hp hx (fun d h => List.all_eq_true.1 hd d h) hrest hg ht
/-- A whole element, written: the first of row i. -/
theorem SOps.storeAM (i : Nat) {T b elem sz : Nat} {xo yo : Operand} {e ds : List DV} (hx : st.val xo = some (.ref b 0)) (hy : st.val yo = some (.agg ds)) (hT : aggB C.P T sz = true)
    (hi : st.heap[i]? = some (b, .row elem sz [e]))
    (hrest : SOps C ops rest ⟨st.n, st.slots, st.heap.set i (b, .row elem sz [ds])⟩ R) (hds : ds.length = sz := by rfl) (hd : ds.all DV.one = true := by rfl)
    (hg : st.wants ops g = some true := by rfl) : SOps C ops (⟨none, .store T xo yo, ty, pos, aft, g⟩ :: rest) st R :=
  SOps.storeA i 0 hx hy hT hi (Nat.zero_mul _).symm rfl hds (fun d h => List.all_eq_true.1 hd d h) hrest hg
theorem SOps.storeM (i : Nat) {T b elem : Nat} {xo yo : Operand} {d0 d : DV} (hx : st.val xo = some (.ref b 0)) (hy : st.val yo = some d) (hT : oneB C.P T = true)
    (hi : st.heap[i]? = some (b, .row elem 1 [[d0]])) (hrest : SOps C ops rest ⟨st.n, st.slots, st.heap.set i (b, .row elem 1 [[d]])⟩ R) (hd : d.one = true := by rfl)
    (hg : st.wants ops g = some true := by rfl) : SOps C ops (⟨none, .store T xo yo, ty, pos, aft, g⟩ :: rest) st R :=
  SOps.store i 0 0 hx hy hT hi rfl rfl (Nat.one_pos) hd hrest hg

/-- A search in a map, both ways. -/
theorem SOps.lookupIM {β : Type} {T K V : Nat} {d : TypeDesc} {xo ko : Operand} {es : List (Value × DV)} {k z : Value} {c : Bool} (o : Option β) (gg : β → DV) (hx : st.val xo = some (.imap es)) (hk : st.val ko = some (.v k)) (hT : mapB C.P T K V d) (hks : ∀ p ∈ es, isKey d p.1 = true) (hz : zeroIs C.P V z)
    (hlk : lookupL es k = o.map gg) (hS : ∀ y, o = some y → SOps C ops rest (st.put t (lookRes c (some (gg y)) z)) R) (hN : o = none → SOps C ops rest (st.put t (lookRes c none z)) R) (hkk : isKey d k = true := by rfl) (hsz : scalB z = true := by rfl)
    (hg : st.wants ops g = some true := by rfl) (ht : Nat.blt t st.n = true := by rfl) : SOps C ops (⟨some t, .lookup T xo ko c, ty, pos, aft, g⟩ :: rest) st R := by
  refine SOps.lookupI hx hk hT hkk hks hz hsz ?_ hg ht
  rw [hlk]
  cases o with
  | none => exact hN rfl
  | some y => exact hS y rfl
theorem SOps.lookupOM {β : Type} (i : Nat) {T K V b : Nat} {d : TypeDesc} {xo ko : Operand} {es : List (Value × DV)} {k z : Value} {c : Bool} (o : Option β) (gg : β → DV) (hx : st.val xo = some (.mp b)) (hi : st.heap[i]? = some (b, .map es)) (hk : st.val ko = some (.v k)) (hT : mapB C.P T K V d) (hks : ∀ p ∈ es, isKey d p.1 = true) (hz : zeroIs C.P V z)
    (hlk : lookupL es k = o.map gg) (hS : ∀ y, o = some y → SOps C ops rest (st.put t (lookRes c (some (gg y)) z)) R) (hN : o = none → SOps C ops rest (st.put t (lookRes c none z)) R) (hkk : isKey d k = true := by rfl) (hsz : scalB z = true := by rfl)
    (hg : st.wants ops g = some true := by rfl) (ht : Nat.blt t st.n = true := by rfl) : SOps C ops (⟨some t, .lookup T xo ko c, ty, pos, aft, g⟩ :: rest) st R := by
  refine SOps.lookupO i hx hi hk hT hkk hks hz hsz ?_ hg ht
  rw [hlk]
  cases o with
  | none => exact hN rfl
  | some y => exact hS y rfl
/-! #### bytes and strings -/
def encY (b : UInt8) : List DV := [.v (.int .u8 (b.toNat : Int))]
theorem foldl_push (bs : List UInt8) : ∀ s : ByteArray, (bs.map (fun b => (b.toNat : Int))).foldl (fun r n => r.push (UInt8.ofNat n.toNat)) s = s ++ ⟨bs.toArray⟩ := by
  induction bs with
  | nil => intro s; apply ByteArray.ext; simp
  | cons b bs ih =>
    intro s
    simp only [List.map_cons, List.foldl_cons, ih]
    apply ByteArray.ext
    simp
theorem SOps.convBytesStr {src dst e : TypeId} {xo : Operand} {nn : Bool} {bs : List UInt8} (hx : st.val xo = some (.isl nn 1 (bs.map encY))) (hS : sliceB C.P src e 1 = true) (hE : intB C.P e .u8 = true) (hD : strB C.P dst = true)
    (hrest : SOps C ops rest (st.put t (.v (.string ⟨bs.toArray⟩))) R)
    (hg : st.wants ops g = some true := by rfl) (ht : Nat.blt t st.n = true := by rfl) : SOps C ops (⟨some t, .convert src dst xo, ty, pos, aft, g⟩ :: rest) st R :=
  SOps.val rfl hg ht (fun base a w F hs => by
    have h1 := hs.val hx
    generalize hv : a.eval xo = v at h1
    rw [show execOp a.eval ⟨some t, .convert src dst xo, ty, pos, aft, g⟩ = (do pure (.value (← convert src dst (a.eval xo)))) from rfl, hv]
    generalize hes : bs.map encY = es at h1
    cases h1 with
    | @isl A len cap nn sz es b o xs hlen hcap hB' hnn hA hsz hc hr =>
      subst hes
      simp only [List.length_map] at hlen hB'
      refine ⟨.string ⟨bs.toArray⟩, ?_, .v (by simp only [scal]; show bs.toArray.size ≤ _; simpa using hB')⟩
      have hfold : (bs.map (fun b => (b.toNat : Int))).foldl (fun r n => r.push (UInt8.ofNat n.toNat)) ByteArray.empty = ⟨bs.toArray⟩ := by
        rw [foldl_push]; apply ByteArray.ext; simp
      cases bs with
      | nil =>
        have hl0 : len = 0 := by simpa using hlen
        subst hl0
        rw [Sem.run_bind, run_convert_bytes_string w src dst e _ _ _ (sliceB_spec hS).1 (intB_spec hE) (strB_spec hD)]
        cases A with
        | none => rfl
        | some ad => rw [run_bytesToString w ad 0 cap [] (by simp [loadCells, loadCellsFrom])]; rfl
      | cons y bs =>
        obtain ⟨rfl, hF⟩ := hA (by simp)
        rw [Sem.run_bind, run_convert_bytes_string w src dst e _ _ _ (sliceB_spec hS).1 (intB_spec hE) (strB_spec hD)]
        rw [run_bytesToString w ⟨b, o, none⟩ len cap ((y :: bs).map (fun b => (b.toNat : Int))) ?_, hfold]
        · rfl
        · have hcell : ∀ j, j < len → w.cell? (Addr.add ⟨b, o, none⟩ j) = some (.int .u8 (((y :: bs).map (fun b => (b.toNat : Int))).getD j 0)) := fun j hj => by
            have hlt : j < (y :: bs).length := by rw [← hlen]; exact hj
            have he : ((y :: bs).map encY)[j]? = some (encY (y :: bs)[j]) := by rw [List.getElem?_map, List.getElem?_eq_getElem hlt]; rfl
            have h3 := (hc j _ 0 _ he rfl).1
            have h4 := (hr j _ 0 _ he rfl).inv_v.1
            rw [add_plain', List.getD_eq_getElem?_getD, List.getElem?_map, List.getElem?_eq_getElem hlt]
            simp only [Nat.mul_one, Nat.add_zero] at h3
            rw [h3, h4]; rfl
          rw [run_loadCells w ⟨b, o, none⟩ len _ hcell]
          congr 1
          rw [range_map_take (Value.int .u8) ((y :: bs).map (fun b => (b.toNat : Int))) len (by rw [List.length_map]; omega), List.take_of_length_le (by rw [List.length_map]; omega)]) hrest
/-! #### arguments told otherwise -/
theorem GCall.args {P : Program} {E : Env} {f : FuncId} {ds ds' : List DV} {H : DHeap} {R : DV → DHeap → Prop} (h : GCall P E f ds H R) (hl : ds'.length = ds.length)
    (hc : ∀ (j : Nat) d d', ds[j]? = some d → ds'[j]? = some d' → ∀ w F x, Rep w F x d' → Rep w F x d) : GCall P E f ds' H R :=
  ⟨h.1, fun w F vs h1 h2 h3 h4 h5 h6 => h.2 w F vs h1 h2 (h3.trans hl) (fun j x d hx hd => by
    have hlt : j < ds'.length := by rw [hl]; exact (List.getElem?_eq_some_iff.1 hd).1
    exact hc j d _ hd (List.getElem?_eq_getElem hlt) w F x (h4 j x _ hx (List.getElem?_eq_getElem hlt))) h5 h6⟩
theorem Rep.nilIsl {w : World} {F : Nat → Prop} {x : Value} {sz : Nat} (h : Rep w F x (.v (.slice none 0 0))) : Rep w F x (.isl false sz []) := by
  rw [h.inv_v.1]
  exact .isl (b := 0) (o := 0) (fun _ _ => undef) rfl (by omega) (by simp [lenB]) (fun h => by cases h) (fun h => absurd rfl h) (fun i e h => by simp at h) (fun i e j d h => by simp at h) (fun i e j d h => by simp at h)
/-- The first argument nil. -/
theorem GCall.nil0 {P : Program} {E : Env} {f : FuncId} {sz : Nat} {ds : List DV} {H : DHeap} {R : DV → DHeap → Prop} (h : GCall P E f (.isl false sz [] :: ds) H R) : GCall P E f (.v (.slice none 0 0) :: ds) H R :=
  h.args rfl (fun j d d' hd hd' w F x hr => by
    cases j with
    | zero => simp at hd hd'; subst hd; subst hd'; exact hr.nilIsl
    | succ j => simp only [List.getElem?_cons_succ] at hd hd'; rw [hd] at hd'; cases hd'; exact hr)
theorem SOps.buildM {T : TypeId} {z : Value} {ps : List (Nat × Nat)} {parts : Array (Nat × Operand)} {qs : List (Nat × Nat × DV)} {ds : List DV} (hT : placesB C.P T ps = true) (hz : zeroIs C.P T z) (hq : st.parts ps parts.toList = some qs)
    (hf : dfill (z.cells.toList.map DV.v) qs = some ds) (hrest : SOps C ops rest (st.put t (.agg ds)) R) (h1 : qs.all (fun q => (ecells q.2.2).all DV.one) = true := by rfl) (hb : zcellsB z = true := by rfl)
    (hg : st.wants ops g = some true := by rfl) (ht : Nat.blt t st.n = true := by rfl) : SOps C ops (⟨some t, .build T parts, ty, pos, aft, g⟩ :: rest) st R :=
  SOps.build hT hz hq hf (fun q hq c hc => List.all_eq_true.1 (List.all_eq_true.1 h1 q hq) c hc) hrest hb hg ht
end
end Go.GH
