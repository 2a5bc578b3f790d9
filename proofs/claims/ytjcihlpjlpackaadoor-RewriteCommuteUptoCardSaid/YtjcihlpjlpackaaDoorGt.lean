/-
  Rules for rows of one's own whose elements have an encoding, for rows within rows, and for shifts. No conditions.
-/
import Derived.Test.YtjcihlpjlpackaaDoorGs
set_option linter.unusedVariables false
set_option linter.unusedSimpArgs false
namespace Go.GH
open Go Go.RowKit
section
variable {α : Type} {C : Ctx} {E : Env} {base : Base} {F : Nat → Prop} {st : St} {a : Act} {w : World} {ops : Array Oper} {rest : List Oper} {R : St → Prop}
  {t : Tmp} {ty : TypeId} {pos : String} {aft : Array Edge} {g : Option (Nat × Bool)}
theorem SOps.storeK (i k : Nat) {T b o elem : Nat} {xo yo : Operand} {f : α → List DV} {xs : List α} {v : α} {d : DV} (hx : st.val xo = some (.ref b o)) (hy : st.val yo = some d) (hT : oneB C.P T = true)
    (hi : st.heap[i]? = some (b, .row elem 1 (xs.map f))) (ho : o = k) (hk : k < xs.length) (hf : f v = [d]) (h1 : ∀ x, (f x).length = 1)
    (hrest : SOps C ops rest ⟨st.n, st.slots, st.heap.set i (b, .row elem 1 ((xs.set k v).map f))⟩ R) (hd : d.one = true := by rfl)
    (hg : st.wants ops g = some true := by rfl) : SOps C ops (⟨none, .store T xo yo, ty, pos, aft, g⟩ :: rest) st R := by
  refine SOps.store i k 0 (e := f (xs[k]'hk)) hx hy hT hi (by omega) (by rw [List.getElem?_map, List.getElem?_eq_getElem hk]; rfl) (by omega) hd ?_ hg
  have e1 : (f (xs[k]'hk)).set 0 d = f v := by
    have := h1 (xs[k]'hk)
    rw [hf]
    match hq : f (xs[k]'hk), this with
    | [y], _ => rfl
  rw [e1, ← List.map_set]
  exact hrest
theorem SOps.storeAK (i k : Nat) {T b o elem sz : Nat} {xo yo : Operand} {f : α → List DV} {xs : List α} {v : α} (hx : st.val xo = some (.ref b o)) (hy : st.val yo = some (.agg (f v))) (hT : aggB C.P T sz = true)
    (hi : st.heap[i]? = some (b, .row elem sz (xs.map f))) (ho : o = k * sz) (hk : k < xs.length) (hds : (f v).length = sz)
    (hrest : SOps C ops rest ⟨st.n, st.slots, st.heap.set i (b, .row elem sz ((xs.set k v).map f))⟩ R) (hd : (f v).all DV.one = true)
    (hg : st.wants ops g = some true := by rfl) : SOps C ops (⟨none, .store T xo yo, ty, pos, aft, g⟩ :: rest) st R := by
  refine SOps.storeA i k (e := f (xs[k]'hk)) hx hy hT hi ho (by rw [List.getElem?_map, List.getElem?_eq_getElem hk]; rfl) hds (fun d h => List.all_eq_true.1 hd d h) ?_ hg
  rw [← List.map_set]
  exact hrest
theorem SOps.loadK (i k : Nat) {T b o elem : Nat} {xo : Operand} {f : α → List DV} {xs : List α} {d : DV} (hx : st.val xo = some (.ref b o)) (hT : flatB C.P T = true)
    (hi : st.heap[i]? = some (b, .row elem 1 (xs.map f))) (ho : o = k) (hk : k < xs.length) (hf : f (xs[k]'hk) = [d]) (hrest : SOps C ops rest (st.put t d) R)
    (hg : st.wants ops g = some true := by rfl) (ht : Nat.blt t st.n = true := by rfl) : SOps C ops (⟨some t, .load T xo, ty, pos, aft, g⟩ :: rest) st R :=
  SOps.loadRef i k 0 (e := f (xs[k]'hk)) hx hT hi (by omega) (by rw [List.getElem?_map, List.getElem?_eq_getElem hk]; rfl) (by rw [hf]; rfl) hrest hg ht
theorem SOps.loadAK (i k : Nat) {T b o elem sz : Nat} {xo : Operand} {f : α → List DV} {xs : List α} (hx : st.val xo = some (.ref b o)) (hT : aggB C.P T sz = true)
    (hi : st.heap[i]? = some (b, .row elem sz (xs.map f))) (ho : o = k * sz) (hk : k < xs.length) (hf : (f (xs[k]'hk)).length = sz) (hrest : SOps C ops rest (st.put t (.agg (f (xs[k]'hk)))) R)
    (hg : st.wants ops g = some true := by rfl) (ht : Nat.blt t st.n = true := by rfl) : SOps C ops (⟨some t, .load T xo, ty, pos, aft, g⟩ :: rest) st R :=
  SOps.loadRefA i k 0 (e := f (xs[k]'hk)) (n := sz) hx hT hi (by omega) (by rw [List.getElem?_map, List.getElem?_eq_getElem hk]; rfl) (by omega) (by rw [List.drop_zero, List.take_of_length_le (by omega)]; exact hrest) hg ht

theorem rep_row {w : World} {F : Nat → Prop} {b elem sz : Nat} {es : List (List DV)} {v : Value} (ho : ObjRep w F b (.row elem sz es)) (hv : Rep w F v (.sl b sz 0 es.length)) : Rep w (fun c => F c ∨ c = b) v (.isl false sz es) := by
  obtain ⟨cs, k1, k2, k3, k4⟩ := ho
  cases hv with
  | @sl b sz off len cap e n q1 q2 q3 q4 =>
    refine .isl (b := b) (o := 0 * sz) (fun i j => cs.getD (i * sz + j) undef) rfl q1 k3 (fun h => by cases h) (fun _ => ⟨rfl, .inr rfl⟩) (fun i e he => (k4 _ _ he).1) (fun i e j d he hj => ?_) (fun i e j d he hj => ?_)
    · obtain ⟨x, hx, ho, hr⟩ := (k4 _ _ he).2 j d hj
      have e1 : cs.getD (i * sz + j) undef = x := by simp [Array.getD_eq_getD_getElem?, hx]
      rw [e1]
      exact ⟨by rw [cell_of_row w b _ cs _ _ k1, ← hx, Nat.zero_mul, Nat.zero_add], ho⟩
    · obtain ⟨x, hx, ho, hr⟩ := (k4 _ _ he).2 j d hj
      have e1 : cs.getD (i * sz + j) undef = x := by simp [Array.getD_eq_getD_getElem?, hx]
      rw [e1]
      exact hr.mono (fun _ _ => rfl) (fun _ _ h => h) (fun _ h => .inl h)
/-- A row that stands in a row of one's own, and is written no more. -/
theorem SOps.freezeIn {l : List Oper} (i i' k j : Nat) {b bT elem elem2 sz sz2 : Nat} {es : List (List DV)} {rows : List (List DV)} {row : List DV} (hp : C.pu = true) (hi : st.heap[i]? = some (b, .row elem2 sz2 es)) (hi' : (st.heap.eraseIdx i)[i']? = some (bT, .row elem sz rows))
    (hk : rows[k]? = some row) (hj : row[j]? = some (.sl b sz2 0 es.length))
    (h : SOps C ops l ⟨st.n, st.slots, (st.heap.eraseIdx i).set i' (bT, .row elem sz (rows.set k (row.set j (.isl false sz2 es))))⟩ R) : SOps C ops l st R := by
  intro base ok a w ⟨F, hs⟩
  have hmem := hs.heap _ (List.mem_of_getElem? hi)
  have hnew : base.w.heap.size ≤ b := hmem.1.resolve_left (ok hp b)
  have hT0 := hs.heap (bT, .row elem sz rows) ((List.eraseIdx_sublist ..).subset (List.mem_of_getElem? hi'))
  have h2 := hs.letGo hi hnew
  have hT := (h2.heap (bT, .row elem sz rows) (List.mem_of_getElem? hi')).2.2
  refine h base ok a w ⟨_, h2.write (w' := w) hi' (Step.refl _ _) ?_⟩
  obtain ⟨cs, k1, k2, k3, k4⟩ := hT
  obtain ⟨cs0, k10, _, _, k40⟩ := hT0.2.2
  have hkl := (List.getElem?_eq_some_iff.1 hk).1
  refine ⟨cs, k1, by simpa using k2, by simpa using k3, fun q e hq => ?_⟩
  rw [List.getElem?_set] at hq
  split at hq
  · rename_i hkq
    subst hkq
    obtain rfl := Option.some.inj hq
    obtain ⟨m1, m2⟩ := k4 _ _ hk
    refine ⟨by simpa using m1, fun u d hd => ?_⟩
    rw [List.getElem?_set] at hd
    split at hd
    · rename_i hju
      subst hju
      split at hd
      · obtain rfl := Option.some.inj hd
        obtain ⟨x, hx, ho, hr⟩ := (k40 _ _ hk).2 _ _ hj
        have hcs : cs0 = cs := by
          have := k10.symm.trans k1
          simpa using this
        subst hcs
        exact ⟨x, hx, ho, rep_row hmem.2.2 hr⟩
      · cases hd
    · exact m2 u d hd
  · exact k4 q e hq

/-! #### functions with their first arguments -/
theorem SOps.makeFuncB {f : FuncId} {xs : Array Operand} {ds : List DV} (hx : st.vals xs.toList = some ds) (hrest : SOps C ops rest (st.put t (.bfn f ds)) R)
    (hg : st.wants ops g = some true := by rfl) (ht : Nat.blt t st.n = true := by rfl) : SOps C ops (⟨some t, .makeFunc (.func f) xs #[], ty, pos, aft, g⟩ :: rest) st R :=
  SOps.val rfl hg ht (fun base a w F hs => by
    obtain ⟨h1, h2⟩ := hs.vals xs.toList ds hx
    refine ⟨.func (.func f) (xs.map a.eval) #[], by simp [execOp, Instr.makeFunc], .bfn (by simpa using h1) (fun j x d hj hd => ?_)⟩
    rw [eval_args] at hj
    obtain ⟨y, hy, rfl⟩ := Option.map_eq_some_iff.1 hj
    exact h2 j y d hy hd) hrest
theorem SOps.callB {f : FuncId} {xo : Operand} {xs : Array Operand} {ats : Array TypeId} {fst ds : List DV} {Rr : DV → Prop} (hx : st.val xo = some (.bfn f fst)) (hf : GCall C.P C.E f (fst ++ ds) [] (fun d H' => Rr d ∧ H' = [])) (hxs : st.vals xs.toList = some ds)
    (hrest : ∀ d, Rr d → SOps C ops rest (st.put t d) R)
    (hg : st.wants ops g = some true := by rfl) (ht : Nat.blt t st.n = true := by rfl) :
    SOps C ops (⟨some t, .call { callee := .value xo, args := xs, argTypes := ats }, ty, pos, aft, g⟩ :: rest) st R := by
  refine SOps.op (R1 := fun st' => ∃ d, Rr d ∧ st' = st.put t d) hg ?_ (fun st' ⟨d, h1, h2⟩ => h2 ▸ hrest d h1)
  intro base ok a w F hs K Q hK
  obtain ⟨h1, h2⟩ := hs.vals xs.toList ds hxs
  have h3 := hs.val hx
  generalize hv : a.eval xo = v at h3
  cases h3 with
  | @bfn _ us _ hl hr =>
    refine upon_call (H := []) (G := st.heap) hf rfl ht (vs := us ++ xs.map a.eval) rfl hs (by simp [← h1, hl]) (fun j x d hx hd => ?_) (fun d H' a' w' r s => ?_) ?_
    · rw [Array.getElem?_append, hl] at hx
      rw [List.getElem?_append] at hd
      split at hx
      · rename_i hlt
        rw [if_pos hlt] at hd
        exact hr _ x d hx hd
      · rename_i hlt
        rw [if_neg hlt] at hd
        rw [eval_args] at hx
        obtain ⟨y, hy, rfl⟩ := Option.map_eq_some_iff.1 hx
        exact h2 _ y d hy hd
    · obtain ⟨r1, rfl⟩ := r
      exact hK _ _ _ ⟨d, r1, rfl⟩ s
    · have := run_callFunc hf.1 (us ++ xs.map a.eval) w
      rw [show execOp a.eval ⟨some t, .call { callee := .value xo, args := xs, argTypes := ats }, ty, pos, aft, g⟩ = (do let d ← Deferred.ofValue (a.eval xo) (xs.map a.eval); invoke d.target d.args) from rfl, hv]
      simp only [Deferred.ofValue, invoke, pure_bind]
      simpa using this
/-- make([]T, n), told by an encoding. -/
theorem SOps.makeK {T e sz by_ : Nat} {z : Value} {lo co : Operand} {kl kc : IntKind} {m m' : Int} {f : α → List DV} (n : Nat) (v : α) (hT : sliceB C.P T e sz = true) (hE : elemB C.P e sz by_ = true) (hz : zeroIs C.P e z) (hlo : st.val lo = some (.v (.int kl m))) (hco : st.val co = some (.v (.int kc m'))) (hm : m = (n : Int)) (hm' : m' = (n : Int))
    (hf : z.cells.toList.map DV.v = f v) (hby : n * by_ ≤ 281474976710656) (hB : n ≤ lenB) (hrest : ∀ b, st.fresh b → SOps C ops rest ⟨st.n, (t, .sl b sz 0 n) :: st.slots, (b, .row e sz ((List.replicate n v).map f)) :: st.heap⟩ R) (hb : zcellsB z = true := by rfl)
    (hg : st.wants ops g = some true := by rfl) (ht : Nat.blt t st.n = true := by rfl) : SOps C ops (⟨some t, .makeSlice T lo co, ty, pos, aft, g⟩ :: rest) st R := by
  subst hm; subst hm'
  refine SOps.makeSlice n hT hE hz hlo hco hby hB (fun b hb' => ?_) hb hg ht
  rw [hf, ← List.map_replicate]
  exact hrest b hb'

/-! #### shifts and bits of small sets -/
theorem u8hasN {n : Nat} (h : n < 256) : IntKind.u8.has (n : Int) := by
  simp only [IntKind.has, IntKind.min, IntKind.max, IntKind.signed, IntKind.bits]
  have e : (2 : Int) ^ 8 = 256 := by decide
  simp only [Bool.false_eq_true, if_false, e]
  omega
theorem u8wrapN {n : Nat} (h : n < 256) : IntKind.u8.wrap (n : Int) = n := by
  unfold IntKind.wrap
  simp only [IntKind.signed, IntKind.bits]
  have e : (2 : Int) ^ 8 = 256 := by decide
  simp only [Bool.false_and, Bool.false_eq_true, if_false, e]
  omega
theorem SOps.shrN {T T2 : TypeId} {xo yo : Operand} {s k : Nat} {m : Int} (hx : st.val xo = some (.v (.int .u8 (s : Int)))) (hy : st.val yo = some (.v (.int .i64 m))) (hm : m = (k : Int)) (hk : k ≤ 8) (hs : s < 256)
    (hrest : SOps C ops rest (st.put t (.v (.int .u8 ((s >>> k : Nat) : Int)))) R)
    (hg : st.wants ops g = some true := by rfl) (ht : Nat.blt t st.n = true := by rfl) : SOps C ops (⟨some t, .binOp .shr T xo yo T2, ty, pos, aft, g⟩ :: rest) st R :=
  have hlt : s >>> k < 256 := Nat.lt_of_le_of_lt (by rw [Nat.shiftRight_eq_div_pow]; exact Nat.div_le_self ..) hs
  SOps.binRun hx hy (z := .int .u8 ((s >>> k : Nat) : Int)) (fun w => by
    subst hm
    have h0 : ¬ ((k : Int) < 0) := by omega
    have hk' : min ((k : Int)).toNat IntKind.u8.bits = k := by simp [IntKind.bits]; omega
    have e : ((s : Int)).fdiv (2 ^ k) = ((s >>> k : Nat) : Int) := by
      rw [show ((2 : Int) ^ k) = ((2 ^ k : Nat) : Int) from (by simp), Int.fdiv_eq_ediv_of_nonneg _ (Int.natCast_nonneg _), Nat.shiftRight_eq_div_pow]; exact (Int.natCast_ediv _ _).symm
    simp only [eqGuard, binOp, Op.shift, h0, hk', e, if_false]
    rfl) (u8hasN hlt) hrest hg ht
theorem SOps.shlN {T T2 : TypeId} {xo yo : Operand} {k : Nat} {m : Int} (hx : st.val xo = some (.v (.int .u8 1))) (hy : st.val yo = some (.v (.int .i64 m))) (hm : m = (k : Int)) (hk : k < 8)
    (hrest : SOps C ops rest (st.put t (.v (.int .u8 ((2 ^ k : Nat) : Int)))) R)
    (hg : st.wants ops g = some true := by rfl) (ht : Nat.blt t st.n = true := by rfl) : SOps C ops (⟨some t, .binOp .shl T xo yo T2, ty, pos, aft, g⟩ :: rest) st R :=
  have hlt : 2 ^ k < 256 := Nat.pow_lt_pow_right (by decide) hk
  SOps.binRun hx hy (z := .int .u8 ((2 ^ k : Nat) : Int)) (fun w => by
    subst hm
    have h0 : ¬ ((k : Int) < 0) := by omega
    have hk' : min ((k : Int)).toNat IntKind.u8.bits = k := by simp [IntKind.bits]; omega
    have e : IntKind.u8.wrap (1 * 2 ^ k) = ((2 ^ k : Nat) : Int) := by
      rw [Int.one_mul, ← u8wrapN hlt]; push_cast; rfl
    simp only [eqGuard, binOp, Op.shift, h0, hk', e, if_false]
    rfl) (u8hasN hlt) hrest hg ht
theorem u8and {x y : Nat} (hx : x < 256) (hy : y < 256) : IntKind.u8.wrap (BitVec.ofInt IntKind.u8.bits (x : Int) &&& BitVec.ofInt IntKind.u8.bits (y : Int)).toNat = ((x &&& y : Nat) : Int) := by
  have e : (BitVec.ofInt IntKind.u8.bits (x : Int) &&& BitVec.ofInt IntKind.u8.bits (y : Int)).toNat = x &&& y := by
    rw [BitVec.toNat_and]
    simp only [IntKind.bits, BitVec.ofInt_natCast, BitVec.toNat_ofNat]
    rw [Nat.mod_eq_of_lt hx, Nat.mod_eq_of_lt hy]
  rw [e]
  exact u8wrapN (Nat.lt_of_le_of_lt Nat.and_le_left hx)
theorem u8or {x y : Nat} (hx : x < 256) (hy : y < 256) : IntKind.u8.wrap (BitVec.ofInt IntKind.u8.bits (x : Int) ||| BitVec.ofInt IntKind.u8.bits (y : Int)).toNat = ((x ||| y : Nat) : Int) := by
  have e : (BitVec.ofInt IntKind.u8.bits (x : Int) ||| BitVec.ofInt IntKind.u8.bits (y : Int)).toNat = x ||| y := by
    rw [BitVec.toNat_or]
    simp only [IntKind.bits, BitVec.ofInt_natCast, BitVec.toNat_ofNat]
    rw [Nat.mod_eq_of_lt hx, Nat.mod_eq_of_lt hy]
  rw [e]
  exact u8wrapN (Nat.or_lt_two_pow (n := 8) hx hy)
theorem SOps.andN {T T2 : TypeId} {xo yo : Operand} {x y : Nat} (hx : st.val xo = some (.v (.int .u8 (x : Int)))) (hy : st.val yo = some (.v (.int .u8 (y : Int)))) (h1 : x < 256) (h2 : y < 256)
    (hrest : SOps C ops rest (st.put t (.v (.int .u8 ((x &&& y : Nat) : Int)))) R)
    (hg : st.wants ops g = some true := by rfl) (ht : Nat.blt t st.n = true := by rfl) : SOps C ops (⟨some t, .binOp .and T xo yo T2, ty, pos, aft, g⟩ :: rest) st R :=
  SOps.bits hx hy rfl (by rw [u8and h1 h2]; exact hrest) hg ht
theorem SOps.orN {T T2 : TypeId} {xo yo : Operand} {x y : Nat} (hx : st.val xo = some (.v (.int .u8 (x : Int)))) (hy : st.val yo = some (.v (.int .u8 (y : Int)))) (h1 : x < 256) (h2 : y < 256)
    (hrest : SOps C ops rest (st.put t (.v (.int .u8 ((x ||| y : Nat) : Int)))) R)
    (hg : st.wants ops g = some true := by rfl) (ht : Nat.blt t st.n = true := by rfl) : SOps C ops (⟨some t, .binOp .or T xo yo T2, ty, pos, aft, g⟩ :: rest) st R :=
  SOps.bits hx hy rfl (by rw [u8or h1 h2]; exact hrest) hg ht
end
end Go.GH
