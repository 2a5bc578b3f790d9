/-
  Rules for variables that are written once, for accumulators that begin as nil, for maps, bits and strings, over abstract states. Proved here: each rule, from the model's own steps. No conditions.
-/
import Derived.Test.YtjcihlpjlpackaaDoorGi
import Derived.MapKept
set_option linter.unusedVariables false
set_option linter.unusedSimpArgs false
namespace Go.GH
open Go Go.RowKit

section
variable {C : Ctx} {E : Env} {base : Base} {F : Nat → Prop} {st : St} {a : Act} {w : World} {ops : Array Oper} {rest : List Oper} {R : St → Prop}
  {t : Tmp} {ty : TypeId} {pos : String} {aft : Array Edge} {g : Option (Nat × Bool)}

/-! #### rows that are written no more -/
theorem SOps.letGoAs {l : List Oper} (i : Nat) {b : Nat} {o : DO} {d d' : DV} (hp : C.pu = true) (hi : st.heap[i]? = some (b, o)) (hd : st.get t = some d)
    (hr : ∀ (w : World) (F : Nat → Prop) (v : Value), ObjRep w F b o → Rep w F v d → Rep w (fun c => F c ∨ c = b) v d')
    (h : SOps C ops l ⟨st.n, (t, d') :: st.slots, st.heap.eraseIdx i⟩ R) : SOps C ops l st R := by
  intro base ok a w ⟨F, hs⟩
  have hmem := hs.heap _ (List.mem_of_getElem? hi)
  have hnew : base.w.heap.size ≤ b := hmem.1.resolve_left (ok hp b)
  have h2 := hs.letGo hi hnew
  exact h base ok a w ⟨_, SimF.relabel (st := ⟨st.n, st.slots, st.heap.eraseIdx i⟩) h2 hd (fun _ => hr w F _ hmem.2.2 (hs.slots t _ hd).2)⟩
/-- A variable that is written no more: its address is from here on an address of memory that never turns. -/
theorem SOps.freezeRef {l : List Oper} (i k : Nat) {b o elem sz : Nat} {es : List (List DV)} {e : List DV} (hp : C.pu = true) (hi : st.heap[i]? = some (b, .row elem sz es)) (hd : st.get t = some (.ref b o)) (ho : o = k * sz) (hk : es[k]? = some e)
    (h : SOps C ops l ⟨st.n, (t, .ipin e) :: st.slots, st.heap.eraseIdx i⟩ R) : SOps C ops l st R :=
  SOps.letGoAs i hp hi hd (fun w F v ho' hv => by
    subst ho
    obtain ⟨cs, k1, k2, k3, k4⟩ := ho'
    cases hv with
    | ref =>
      refine .ipin (fun j => cs.getD (k * sz + j) undef) (.inr rfl) (fun j d hj => ?_) (fun j d hj => ?_)
      · obtain ⟨x, hx, hone, hr⟩ := (k4 _ _ hk).2 j d hj
        have e1 : cs.getD (k * sz + j) undef = x := by simp [Array.getD_eq_getD_getElem?, hx]
        rw [e1]
        exact ⟨by rw [cell_of_row w b _ cs _ _ k1, ← hx], hone⟩
      · obtain ⟨x, hx, hone, hr⟩ := (k4 _ _ hk).2 j d hj
        have e1 : cs.getD (k * sz + j) undef = x := by simp [Array.getD_eq_getD_getElem?, hx]
        rw [e1]
        exact hr.mono (fun _ _ => rfl) (fun _ _ h => h) (fun _ h => .inl h)) h
/-- A map that is written no more. -/
theorem SOps.freezeMap {l : List Oper} (i : Nat) {b : Nat} {es : List (Value × DV)} (hp : C.pu = true) (hi : st.heap[i]? = some (b, .map es)) (hd : st.get t = some (.mp b))
    (h : SOps C ops l ⟨st.n, (t, .imap es) :: st.slots, st.heap.eraseIdx i⟩ R) : SOps C ops l st R :=
  SOps.letGoAs i hp hi hd (fun w F v ho hv => by
    obtain ⟨ents, clock, k1, k2, k3⟩ := ho
    cases hv with
    | mp =>
      refine .imap (clock := clock) (fun j => ((ents[j]?).map (·.val)).getD undef) (.inr rfl) k1 k2 (fun j p hj => ?_) (fun j p hj => ?_)
      · obtain ⟨e, he, hk, hr⟩ := k3 j p hj
        simp [he, hk]
      · obtain ⟨e, he, hk, hr⟩ := k3 j p hj
        simp only [he, Option.map_some, Option.getD_some]
        exact hr.mono (fun _ _ => rfl) (fun _ _ h => h) (fun _ h => .inl h)) h

theorem SOps.shadow {l : List Oper} {d d' : DV} {n : Nat} {slots : List (Nat × DV)} {heap : DHeap} (h : SOps C ops l ⟨n, (t, d') :: slots, heap⟩ R) : SOps C ops l ⟨n, (t, d') :: (t, d) :: slots, heap⟩ R :=
  SOps.weaken (st' := ⟨n, (t, d') :: slots, heap⟩) ⟨rfl, fun u e hu => .inl (by
    revert hu
    simp only [St.get, getL]
    cases Nat.beq t u <;> exact id), heap, .refl _, List.Sublist.refl _⟩ h
theorem SOps.boxF {T : Nat} {xo : Operand} {d : DV} (hp : C.pu = true) (hx : st.val xo = some d) (hd : d.one = true) (hrest : SOps C ops rest (st.put t (.ipin [d])) R)
    (hg : st.wants ops g = some true := by rfl) (ht : Nat.blt t st.n = true := by rfl) : SOps C ops (⟨some t, .box T xo, ty, pos, aft, g⟩ :: rest) st R :=
  SOps.box hx hd (fun b hb => SOps.freezeRef (t := t) (b := b) (o := 0) 0 0 hp rfl (St.get_put_same ⟨st.n, st.slots, _⟩ t _) (by simp) rfl (SOps.shadow hrest)) hg ht
theorem SOps.boxAF {T sz : Nat} {xo : Operand} {ds : List DV} (hp : C.pu = true) (hx : st.val xo = some (.agg ds)) (hd : ∀ d ∈ ds, d.one = true) (hrest : SOps C ops rest (st.put t (.ipin ds)) R)
    (hg : st.wants ops g = some true := by rfl) (ht : Nat.blt t st.n = true := by rfl) : SOps C ops (⟨some t, .box T xo, ty, pos, aft, g⟩ :: rest) st R :=
  SOps.boxA hx rfl hd (fun b hb => SOps.freezeRef (t := t) (b := b) (o := 0) 0 0 hp rfl (St.get_put_same ⟨st.n, st.slots, _⟩ t _) (by simp) rfl (SOps.shadow hrest)) hg ht
theorem SOps.buildSliceF {T e sz n : Nat} {z : Value} {parts : Array (Nat × Operand)} {qs : List (Nat × Nat × DV)} {ds : List DV} {es : List (List DV)} (hp : C.pu = true) (hT : sliceB C.P T e sz = true) (hz : zeroIs C.P e z) (hq : st.parts ((List.range n).map (fun i => (i * sz, sz))) parts.toList = some qs)
    (hf : dfill (zrow z sz n) qs = some ds) (he : es.flatten = ds) (hl : ∀ e ∈ es, e.length = sz) (h1 : ∀ q ∈ qs, ∀ c ∈ ecells q.2.2, c.one = true) (hrest : SOps C ops rest (st.put t (.isl true sz es)) R)
    (hn : Nat.ble (n * sz) 16777216 = true := by rfl) (hel : es.length = n := by rfl) (hnl : Nat.ble n 16777216 = true := by rfl) (hzs : z.cells.size = sz := by rfl) (hb : zcellsB z = true := by rfl)
    (hg : st.wants ops g = some true := by rfl) (ht : Nat.blt t st.n = true := by rfl) : SOps C ops (⟨some t, .buildSlice T n parts, ty, pos, aft, g⟩ :: rest) st R :=
  SOps.buildSlice hT hz hq hf he hl h1 (fun b hb' => SOps.freeze (t := t) 0 hp rfl (St.get_put_same ⟨st.n, st.slots, _⟩ t _) (by omega) (by rw [List.drop_zero, List.take_of_length_le (by omega)]; exact SOps.shadow hrest)) hn hel hnl hzs hb hg ht
theorem SOps.convRunesF {src dst e : TypeId} {xo : Operand} {s : ByteArray} (hp : C.pu = true) (hx : st.val xo = some (.v (.string s))) (hS : strB C.P src = true) (hT : sliceB C.P dst e 1 = true) (hE : intB C.P e .i32 = true)
    (hrest : SOps C ops rest (st.put t (.isl true 1 ((runes s).map rcell))) R)
    (hg : st.wants ops g = some true := by rfl) (ht : Nat.blt t st.n = true := by rfl) : SOps C ops (⟨some t, .convert src dst xo, ty, pos, aft, g⟩ :: rest) st R :=
  SOps.convRunes hx hS hT hE (fun b hb' => SOps.freeze (t := t) 0 hp rfl (St.get_put_same ⟨st.n, st.slots, _⟩ t _) (by simp) (by rw [List.drop_zero, List.take_of_length_le (by simp)]; exact SOps.shadow hrest)) hg ht

/-! #### accumulators: nil, or a row of the call's own -/
def accD (sz b : Nat) : List (List DV) → DV
  | [] => .v (.slice none 0 0)
  | e :: es => .sl b sz 0 (es.length + 1)
def accH (e sz b : Nat) : List (List DV) → DHeap
  | [] => []
  | x :: es => [(b, .row e sz (x :: es))]

theorem SOps.appendAcc (H1 H2 : DHeap) {T e sz by_ b : Nat} {xo yo : Operand} {d : DV} {es ns : List (List DV)} (hT : sliceB C.P T e sz = true) (hE : elemB C.P e sz by_ = true) (hx : st.val xo = some (accD sz b es)) (hy : st.val yo = some d)
    (hh : st.heap = H1 ++ (accH e sz b es ++ H2)) (hs' : SrcD st d sz ns) (hne : ns ≠ []) (hB : es.length + ns.length ≤ lenB) (hby : (es.length + ns.length) * by_ ≤ 140737488355328)
    (hrest : ∀ b', SOps C ops rest ⟨st.n, (t, accD sz b' (es ++ ns)) :: st.slots, H1 ++ (accH e sz b' (es ++ ns) ++ H2)⟩ R)
    (hg : st.wants ops g = some true := by rfl) (ht : Nat.blt t st.n = true := by rfl) :
    SOps C ops (⟨some t, .call { callee := .builtin .append, args := #[xo, yo], argTypes := #[T, T] }, ty, pos, aft, g⟩ :: rest) st R := by
  have hcons : ∀ b', accD sz b' (es ++ ns) = .sl b' sz 0 (es.length + ns.length) ∧ accH e sz b' (es ++ ns) = [(b', .row e sz (es ++ ns))] := fun b' => by
    cases hl : es ++ ns with
    | nil => simp at hl; exact absurd hl.2 hne
    | cons x l =>
      have : es.length + ns.length = l.length + 1 := by rw [← List.length_append, hl]; rfl
      exact ⟨by simp [accD, this], rfl⟩
  cases es with
  | nil =>
    refine SOps.appendNil hT hE hx hy hs' hne (by simpa using hB) (by simpa using hby) (fun b' hb' => ?_) hg ht
    have := hrest b'
    rw [(hcons b').1, (hcons b').2] at this
    simp only [List.length_nil, Nat.zero_add, List.nil_append] at this
    refine SOps.weaken (st' := ⟨st.n, (t, .sl b' sz 0 ns.length) :: st.slots, H1 ++ ([(b', .row e sz ns)] ++ H2)⟩) ⟨rfl, fun u e hu => .inl hu, (b', .row e sz ns) :: st.heap, ?_, List.Sublist.refl _⟩ this
    rw [hh]
    simp only [accH, List.nil_append, List.singleton_append]
    exact List.perm_middle
  | cons x l =>
    have hi : st.heap[H1.length]? = some (b, .row e sz (x :: l)) := by rw [hh]; simp [accH]
    refine SOps.appendOwn H1.length (n := (x :: l).length) hT hE hx hy hi rfl hs' hne hB hby (fun b' hb' => ?_) hg ht
    have := hrest b'
    rw [(hcons b').1, (hcons b').2] at this
    have e1 : st.heap.set H1.length (b', .row e sz (x :: l ++ ns)) = H1 ++ ([(b', .row e sz (x :: l ++ ns))] ++ H2) := by
      rw [hh]; simp [accH, List.set_append]
    rw [e1]
    exact this
theorem SOps.lenAcc {T e sz b n1 : Nat} {xo : Operand} {es : List (List DV)} (hx : st.val xo = some (accD n1 b es)) (hT : sliceB C.P T e sz = true) (hrest : SOps C ops rest (st.put t (.v (.int .i64 es.length))) R)
    (hg : st.wants ops g = some true := by rfl) (ht : Nat.blt t st.n = true := by rfl) : SOps C ops (⟨some t, .call { callee := .builtin .len, args := #[xo], argTypes := #[T] }, ty, pos, aft, g⟩ :: rest) st R := by
  cases es with
  | nil => exact SOps.lenNil hx hT hrest hg ht
  | cons x l => exact SOps.lenSl hx hT hrest hg ht
/-- An accumulator that is written no more. -/
theorem SOps.freezeAcc {l : List Oper} (H1 H2 : DHeap) {e sz b : Nat} {es : List (List DV)} (hp : C.pu = true) (hd : st.get t = some (accD sz b es)) (hh : st.heap = H1 ++ (accH e sz b es ++ H2))
    (h : SOps C ops l ⟨st.n, (t, .isl false sz es) :: st.slots, H1 ++ H2⟩ R) : SOps C ops l st R := by
  cases es with
  | nil =>
    intro base ok a w ⟨F, hs⟩
    have e1 : st.heap = H1 ++ H2 := by rw [hh]; rfl
    have hs2 : SimF C.E base F ⟨st.n, st.slots, H1 ++ H2⟩ a w := e1 ▸ hs
    refine h base ok a w ⟨F, SimF.relabel (st := ⟨st.n, st.slots, H1 ++ H2⟩) hs2 hd (fun hv => ?_)⟩
    rw [hv.inv_v.1]
    exact .isl (b := 0) (o := 0) (fun _ _ => undef) rfl (by omega) (by simp [lenB]) (fun h => by cases h) (fun h => absurd rfl h) (fun i e h => by simp at h) (fun i e j d h => by simp at h) (fun i e j d h => by simp at h)
  | cons x l' =>
    have hi : st.heap[H1.length]? = some (b, .row e sz (x :: l')) := by rw [hh]; simp [accH]
    refine SOps.freeze (t := t) H1.length hp hi hd (by simp) ?_
    have e1 : st.heap.eraseIdx H1.length = H1 ++ H2 := by
      rw [hh, List.eraseIdx_append_of_length_le (by simp)]; simp [accH]
    rw [e1, List.drop_zero, List.take_of_length_le (by simp)]
    intro base ok a w ⟨F, hs⟩
    have hs2 : SimF C.E base F (St.put ⟨st.n, (t, .isl true sz (x :: l')) :: st.slots, H1 ++ H2⟩ t (.isl false sz (x :: l'))) a w := SimF.relabel hs (d := .isl true sz (x :: l')) (St.get_put_same ⟨st.n, st.slots, _⟩ t _) (fun hv => by
      generalize a.tmps.getD t undef = v at hv
      cases hv with
      | isl xs hlen hcap hB hnn hA hsz hc hr => exact .isl xs hlen hcap hB (fun h => by cases h) hA hsz hc hr)
    exact h base ok a w ⟨F, hs2.weaken ⟨rfl, fun u e hu => .inl (by
      revert hu
      simp only [St.get, St.put, getL]
      by_cases htu : Nat.beq t u = true
      · simp [htu]
      · simp [htu]), _, .refl _, List.Sublist.refl _⟩⟩

/-- A whole element is written. -/
theorem row_setA {P : Program} {F : Nat → Prop} {b elem sz k : Nat} {es : List (List DV)} (hF : ¬ F b) : ∀ (us : List Value) (ds e : List DV) (j : Nat) (w : World), ObjRep w F b (.row elem sz es) → es[k]? = some e → us.length = ds.length → j + us.length ≤ sz →
    (∀ x ∈ us, x.oneCell' = true) → (∀ (i : Nat) x d, us[i]? = some x → ds[i]? = some d → Rep w F x d) →
    ∃ w', (storeCells ⟨b, k * sz, none⟩ us j).run P w = .ok () w' ∧ Step (· = b) w w' ∧ ObjRep w' F b (.row elem sz (es.set k (e.take j ++ ds ++ e.drop (j + ds.length)))) := by
  intro us
  induction us generalizing es with
  | nil =>
    intro ds e j w h hk hl hj h1 hr
    obtain rfl : ds = [] := List.eq_nil_of_length_eq_zero hl.symm
    refine ⟨w, by simp [storeCells], Step.refl _ _, ?_⟩
    have : es.set k (e.take j ++ [] ++ e.drop (j + ([] : List DV).length)) = es := by
      simp only [List.append_nil, List.length_nil, Nat.add_zero, List.take_append_drop]
      apply List.ext_getElem?
      intro i
      rw [List.getElem?_set]
      split
      · rename_i hki; subst hki; split
        · exact hk.symm
        · rename_i hn; exact absurd (List.getElem?_eq_some_iff.1 hk).1 hn
      · rfl
    rw [this]
    exact h
  | cons x us ih =>
    intro ds e j w h hk hl hj h1 hr
    cases ds with
    | nil => simp at hl
    | cons d ds =>
      simp only [List.length_cons] at hl hj
      obtain ⟨⟨y, hc⟩, hf⟩ := row_lt h hk (show j < sz by omega)
      have hone := h1 x (List.mem_cons_self ..)
      have hx := hr 0 x d rfl rfl
      have hst : Step (· = b) w (w.setCell ⟨b, k * sz + j, none⟩ x) := Step.setCell w ⟨b, k * sz + j, none⟩ x
      have hrow := row_set hF h hk (show j < sz by omega) hone hx
      have hkl : k < es.length := (List.getElem?_eq_some_iff.1 hk).1
      have hel : e.length = sz := by obtain ⟨cs, _, _, _, h4⟩ := h; exact (h4 _ _ hk).1
      have hmono : ∀ {u d}, Rep w F u d → Rep (w.setCell ⟨b, k * sz + j, none⟩ x) F u d := fun hy =>
        hy.mono (fun c hc => heap_setCell_other w ⟨b, k * sz + j, none⟩ c x (fun e => hF ((show c = b from e) ▸ hc))) (fun c s hs => by rw [shape?_setCell]; exact hs) (fun _ h => h)
      obtain ⟨w', r1, r2, r3⟩ := ih (es := es.set k (e.set j d)) ds (e.set j d) (j + 1) (w.setCell ⟨b, k * sz + j, none⟩ x) hrow (by simp [hkl]) (by omega) (by omega) (fun z hz => h1 z (List.mem_cons_of_mem _ hz)) (fun i z dd hz hd => hmono (hr (i + 1) z dd (by simpa using hz) (by simpa using hd)))
      refine ⟨w', ?_, hst.trans r2, ?_⟩
      · simp only [storeCells, Sem.run_bind, add_plain', run_store P w _ _ _ hone, hc, hf]
        simpa using r1
      · rw [List.set_set] at r3
        have e1 : List.take (j + 1) (e.set j d) ++ ds ++ List.drop (j + 1 + ds.length) (e.set j d) = e.take j ++ (d :: ds) ++ e.drop (j + (d :: ds).length) := by
          rw [List.drop_set_of_lt (by omega), List.take_set, List.take_add_one, List.length_cons]
          have hjl : j < e.length := by omega
          rw [List.getElem?_eq_getElem hjl]
          simp only [Option.toList_some]
          rw [List.set_append_right _ _ (by simp; omega)]
          simp [Nat.min_eq_left (Nat.le_of_lt hjl), show j + 1 + ds.length = j + (ds.length + 1) from by omega]
        rw [e1] at r3
        exact r3
theorem SOps.storeA (i k : Nat) {T b o elem sz : Nat} {xo yo : Operand} {es : List (List DV)} {e ds : List DV} (hx : st.val xo = some (.ref b o)) (hy : st.val yo = some (.agg ds)) (hT : aggB C.P T sz = true)
    (hi : st.heap[i]? = some (b, .row elem sz es)) (ho : o = k * sz) (hk : es[k]? = some e) (hds : ds.length = sz) (hd : ∀ d ∈ ds, d.one = true)
    (hrest : SOps C ops rest ⟨st.n, st.slots, st.heap.set i (b, .row elem sz (es.set k ds))⟩ R)
    (hg : st.wants ops g = some true := by rfl) : SOps C ops (⟨none, .store T xo yo, ty, pos, aft, g⟩ :: rest) st R := by
  refine SOps.op (R1 := (· = ⟨st.n, st.slots, st.heap.set i (b, .row elem sz (es.set k ds))⟩)) hg ?_ (fun st' e => e ▸ hrest)
  intro base ok a w F hs K Q hK
  have h1 := hs.val hx
  have h2 := hs.val hy
  generalize hv : a.eval xo = v at h1
  generalize hv2 : a.eval yo = v2 at h2
  cases h1 with
  | ref =>
    subst ho
    obtain ⟨k1, k2, k3⟩ := hs.heap _ (List.mem_of_getElem? hi)
    cases h2 with
    | @agg us ds hl hr =>
      have hel : e.length = sz := by obtain ⟨cs, _, _, _, h4⟩ := k3; exact (h4 _ _ hk).1
      obtain ⟨w', r1, r2, r3⟩ := row_setA (P := C.P) k2 us.toList ds e 0 w k3 hk (by simpa using hl) (by simp; omega) (fun x hx => by
        obtain ⟨j, hj⟩ := List.mem_iff_getElem?.1 hx
        have hlt : j < ds.length := by rw [← hl]; simpa using (List.getElem?_eq_some_iff.1 hj).1
        exact (hr j x _ (by simpa using hj) (List.getElem?_eq_getElem hlt)).one (hd _ (List.getElem_mem hlt))) (fun j x d hx hd' => hr j x d (by simpa using hx) hd')
      have hfin : e.take 0 ++ ds ++ e.drop (0 + ds.length) = ds := by simp [List.drop_eq_nil_of_le, hel, hds]
      rw [hfin] at r3
      have hrun : (execOp a.eval ⟨none, .store T xo yo, ty, pos, aft, g⟩).run C.P w = .ok .skip w' := by
        rw [show execOp a.eval ⟨none, .store T xo yo, ty, pos, aft, g⟩ = (do Instr.storeAt T (a.eval xo) (a.eval yo); pure .skip) from rfl, hv, hv2, Sem.run_bind]
        have : (Instr.storeAt T (.pointer (some ⟨b, k * sz, none⟩)) (.agg us)).run C.P w = .ok () w' := by
          have hsz := (isAgg_agg (w := w) hT).2
          simp [Instr.storeAt, Instr.sureAddr, storeVar, Value.cells, hsz, hl, hds, r1]
        rw [this]
        rfl
      unfold Oper.wp
      rw [hrun, Oper.upon_skip]
      exact hK _ _ _ rfl ⟨F, hs.write hi r2 r3⟩
end
end Go.GH
