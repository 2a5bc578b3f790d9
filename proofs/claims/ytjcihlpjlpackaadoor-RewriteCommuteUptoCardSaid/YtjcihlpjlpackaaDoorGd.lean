/-
  A call, told over abstract states: its contract, how it is proved of a function's body, and how it is used where the function is called. No conditions.
-/
import Derived.Test.YtjcihlpjlpackaaDoorGc
set_option linter.unusedVariables false
set_option linter.unusedSimpArgs false
namespace Go.GH
open Go Go.RowKit

/-- What is left when a call has ended: from the world w with what never turns in F and own blocks H. -/
def CPost (E : Env) (w : World) (F : Nat → Prop) (H : DHeap) (R : DV → DHeap → Prop) (e : Ending) (w' : World) : Prop :=
  ∃ u d H' F', e = .returned u ∧ R d H' ∧ (∀ b, F b → F' b) ∧ (∀ b, F' b → b < w'.heap.size ∧ (F b ∨ w.heap.size ≤ b)) ∧ Rep w' F' u d ∧
    (∀ p ∈ H', (p.1 ∈ H.map (·.1) ∨ w.heap.size ≤ p.1) ∧ ¬ F' p.1 ∧ ObjRep w' F' p.1 p.2) ∧ (H'.map (·.1)).Nodup ∧ Step (fun b => b ∈ H.map (·.1)) w w'

def hasBody (P : Program) (f : FuncId) : Bool := match P.funcs[f]? with
  | some fn => fn.body.isSome && !(fn.name == "runtime.NumGoroutine")
  | none => false

/-- The contract of a function: of arguments that read as ds, with own blocks H that it may write, it returns d and leaves H'. -/
def GCall (P : Program) (E : Env) (f : FuncId) (ds : List DV) (H : DHeap) (R : DV → DHeap → Prop) : Prop :=
  hasBody P f = true ∧ ∀ w F (vs : Array Value), E.holds w F → (∀ b, F b → b < w.heap.size) → vs.size = ds.length →
    (∀ (j : Nat) (x : Value) (d : DV), vs[j]? = some x → ds[j]? = some d → Rep w F x d) → (∀ p ∈ H, ¬ F p.1 ∧ ObjRep w F p.1 p.2) → (H.map (·.1)).Nodup →
    Calls P f vs w (CPost E w F H R)

theorem GCall.mono {P : Program} {E : Env} {f : FuncId} {ds : List DV} {H : DHeap} {R R' : DV → DHeap → Prop} (h : GCall P E f ds H R) (hr : ∀ d H', R d H' → R' d H') : GCall P E f ds H R' :=
  ⟨h.1, fun w F vs h1 h2 h3 h4 h5 h6 => (h.2 w F vs h1 h2 h3 h4 h5 h6).mono (fun e w' ⟨u, d, H', F', k1, k2, k3⟩ => ⟨u, d, H', F', k1, hr _ _ k2, k3⟩)⟩

theorem run_callFunc {P : Program} {f : FuncId} (h : hasBody P f = true) (args : Array Value) (w : World) : (callFunc f args).run P w = .ok (.enter f args) w := by
  unfold hasBody at h
  split at h
  · rename_i fn hf
    simp only [Bool.and_eq_true, Bool.not_eq_true'] at h
    obtain ⟨h1, h2⟩ := h
    have h2' : ¬ fn.name = "runtime.NumGoroutine" := by simpa using h2
    cases hb : fn.body with
    | none => rw [hb] at h1; cases h1
    | some c => simp [callFunc, hf, h2', hb]
  · cases h

def St.vals (st : St) : List Operand → Option (List DV)
  | [] => some []
  | x :: xs => match st.val x, st.vals xs with
    | some d, some ds => some (d :: ds)
    | _, _ => none

section
variable {C : Ctx} {E : Env} {base : Base} {F : Nat → Prop} {st : St} {a : Act} {w : World} {ops : Array Oper} {rest : List Oper} {R : St → Prop}
  {t : Tmp} {ty : TypeId} {pos : String} {aft : Array Edge} {g : Option (Nat × Bool)}

theorem SimF.vals (h : SimF E base F st a w) : ∀ (xs : List Operand) (ds : List DV), st.vals xs = some ds →
    xs.length = ds.length ∧ ∀ (j : Nat) (x : Operand) (d : DV), xs[j]? = some x → ds[j]? = some d → Rep w F (a.eval x) d
  | [], ds, he => by obtain rfl := Option.some.inj he; exact ⟨rfl, fun j x d h _ => by simp at h⟩
  | x :: xs, ds, he => by
    simp only [St.vals] at he
    split at he
    · rename_i d ds' hd hds
      obtain rfl := Option.some.inj he
      obtain ⟨h1, h2⟩ := SimF.vals h xs ds' hds
      refine ⟨by simp [h1], fun j y e hj he => ?_⟩
      cases j with
      | zero => simp at hj he; subst hj; subst he; exact h.val hd
      | succ j => simp at hj he; exact h2 j y e hj he
    · cases he

/-- The state behind a call. -/
theorem SimF.called (h : SimF E base F st a w) {H G : DHeap} (hH : st.heap = H ++ G) {H' : DHeap} {F' : Nat → Prop} {w' : World} {u : Value} {d : DV}
    (h1 : ∀ b, F b → F' b) (h2 : ∀ b, F' b → b < w'.heap.size ∧ (F b ∨ w.heap.size ≤ b)) (h3 : Rep w' F' u d)
    (h4 : ∀ p ∈ H', (p.1 ∈ H.map (·.1) ∨ w.heap.size ≤ p.1) ∧ ¬ F' p.1 ∧ ObjRep w' F' p.1 p.2) (h5 : (H'.map (·.1)).Nodup) (h6 : Step (fun b => b ∈ H.map (·.1)) w w') :
    SimF E base F' ⟨st.n, st.slots, H' ++ G⟩ a w' := by
  have hHmem : ∀ p ∈ H, p ∈ st.heap := fun p hp => by rw [hH]; exact List.mem_append_left _ hp
  have hGmem : ∀ p ∈ G, p ∈ st.heap := fun p hp => by rw [hH]; exact List.mem_append_right _ hp
  have hFH : ∀ b, F b → ¬ b ∈ H.map (·.1) := fun b hb hm => by
    obtain ⟨p, hp, rfl⟩ := List.mem_map.1 hm
    exact (h.heap p (hHmem p hp)).2.1 hb
  have hFs : ∀ b, F b → w'.heap[b]? = w.heap[b]? := fun b hb => h6.block b (h.lt b hb).1 (hFH b hb)
  have hkeys := h.keys
  rw [hH, List.map_append, List.nodup_append] at hkeys
  exact {
    keep := h.keep.then h6 (fun i hi hm => by
      obtain ⟨p, hp, rfl⟩ := List.mem_map.1 hm
      rcases (h.heap p (hHmem p hp)).1 with h' | h'
      · exact h'
      · exact absurd hi (Nat.not_lt.2 h'))
    base_lt := h.base_lt
    sub := fun b hb => h1 b (h.sub b hb)
    lt := fun b hb => ⟨(h2 b hb).1, (h2 b hb).2.elim (fun k => (h.lt b k).2) (fun k => .inr (Nat.le_trans h.keep.size k))⟩
    env := E.mono hFs h1 h.env
    size := h.size
    slots := fun t d ht => ⟨(h.slots t d ht).1, (h.slots t d ht).2.mono hFs h6.shape h1⟩
    heap := fun p hp => by
      rcases List.mem_append.1 hp with hp | hp
      · obtain ⟨k1, k2, k3⟩ := h4 p hp
        refine ⟨?_, k2, k3⟩
        rcases k1 with k1 | k1
        · obtain ⟨q, hq, e⟩ := List.mem_map.1 k1
          rw [← e]
          exact (h.heap q (hHmem q hq)).1
        · exact .inr (Nat.le_trans h.keep.size k1)
      · obtain ⟨k1, k2, k3⟩ := h.heap p (hGmem p hp)
        refine ⟨k1, fun hF' => ?_, k3.mono (h6.block _ k3.lt (fun hm => ?_)) hFs h6.shape h1⟩
        · rcases (h2 _ hF').2 with k | k
          · exact k2 k
          · exact absurd k3.lt (Nat.not_lt.2 k)
        · exact hkeys.2.2 _ hm _ (List.mem_map.2 ⟨p, hp, rfl⟩) rfl
    keys := by
      rw [List.map_append, List.nodup_append]
      refine ⟨h5, hkeys.2.1, fun x hx y hy e => ?_⟩
      subst e
      obtain ⟨p, hp, e⟩ := List.mem_map.1 hx
      obtain ⟨q, hq, e'⟩ := List.mem_map.1 hy
      rcases (h4 p hp).1 with k | k
      · exact hkeys.2.2 _ k _ (List.mem_map.2 ⟨q, hq, rfl⟩) (e.trans e'.symm)
      · have := (h.heap q (hGmem q hq)).2.2.lt
        rw [e'.trans e.symm] at this
        exact absurd this (Nat.not_lt.2 k)
    defers := h.defers }

theorem eval_args (a : Act) (xs : Array Operand) (j : Nat) : (xs.map a.eval)[j]? = (xs.toList[j]?).map a.eval := by simp

/-- A call that enters function f with arguments that read as ds. -/
theorem upon_call {f : FuncId} {ds : List DV} {H G : DHeap} {Rr : DV → DHeap → Prop} (hf : GCall C.P C.E f ds H Rr) (hH : st.heap = H ++ G) (ht : Nat.blt t st.n = true)
    {vs : Array Value} {o : Oper} (hd : o.dst = some t) (hs : SimF C.E base F st a w) (hvs : vs.size = ds.length) (hr : ∀ (j : Nat) (x : Value) (d : DV), vs[j]? = some x → ds[j]? = some d → Rep w F x d)
    {K : Act → World → Prop} {Q : Exit → Act → World → Prop}
    (hK : ∀ d H' a' w', Rr d H' → Sim C.E base ⟨st.n, (t, d) :: st.slots, H' ++ G⟩ a' w' → K a' w') (hrun : (execOp a.eval o).run C.P w = .ok (.enter f vs) w) : o.wp C.P a w K Q := by
  unfold Oper.wp
  rw [hrun, Oper.upon_enter]
  have hmem : ∀ p ∈ H, p ∈ st.heap := fun p hp => by rw [hH]; exact List.mem_append_left _ hp
  have hk := hs.keys
  rw [hH, List.map_append, List.nodup_append] at hk
  refine (hf.2 w F vs hs.env (fun b hb => (hs.lt b hb).1) hvs hr (fun p hp => (hs.heap p (hmem p hp)).2) hk.1).mono ?_
  rintro e w' ⟨u, d, H', F', rfl, k1, k2, k3, k4, k5, k6, k7⟩
  have := hs.called hH k2 k3 k4 k5 k6 k7
  rw [hd]
  exact hK d H' _ _ k1 ⟨F', SimF.put (t := t) (x := u) (d := d) this (by simpa using ht) k4⟩

theorem SOps.call {f : FuncId} {xs : Array Operand} {ats : Array TypeId} {ds : List DV} {H G : DHeap} {Rr : DV → DHeap → Prop} (hf : GCall C.P C.E f ds H Rr) (hxs : st.vals xs.toList = some ds)
    (hH : st.heap = H ++ G) (hrest : ∀ d H', Rr d H' → SOps C ops rest ⟨st.n, (t, d) :: st.slots, H' ++ G⟩ R)
    (hg : st.wants ops g = some true := by rfl) (ht : Nat.blt t st.n = true := by rfl) :
    SOps C ops (⟨some t, .call { callee := .value (.func f), args := xs, argTypes := ats }, ty, pos, aft, g⟩ :: rest) st R := by
  refine SOps.op (R1 := fun st' => ∃ d H', Rr d H' ∧ st' = ⟨st.n, (t, d) :: st.slots, H' ++ G⟩) hg ?_ (fun st' ⟨d, H', h1, h2⟩ => h2 ▸ hrest d H' h1)
  intro base ok a w F hs K Q hK
  obtain ⟨h1, h2⟩ := hs.vals xs.toList ds hxs
  refine upon_call hf hH ht (vs := xs.map a.eval) rfl hs (by simpa using h1) (fun j x d hx hd => ?_) (fun d H' a' w' r s => hK _ _ _ ⟨d, H', r, rfl⟩ s) ?_
  · rw [eval_args] at hx
    obtain ⟨y, hy, rfl⟩ := Option.map_eq_some_iff.1 hx
    exact h2 j y d hy hd
  · have := run_callFunc hf.1 (xs.map a.eval) w
    rw [show execOp a.eval ⟨some t, .call { callee := .value (.func f), args := xs, argTypes := ats }, ty, pos, aft, g⟩ = callFunc f (#[] ++ xs.map a.eval ++ #[]) from rfl]
    simpa using this
/-- A pure call: no own block is handed over. -/
theorem SOps.callP {f : FuncId} {xs : Array Operand} {ats : Array TypeId} {ds : List DV} {Rr : DV → Prop} (hf : GCall C.P C.E f ds [] (fun d H' => Rr d ∧ H' = [])) (hxs : st.vals xs.toList = some ds)
    (hrest : ∀ d, Rr d → SOps C ops rest (st.put t d) R)
    (hg : st.wants ops g = some true := by rfl) (ht : Nat.blt t st.n = true := by rfl) :
    SOps C ops (⟨some t, .call { callee := .value (.func f), args := xs, argTypes := ats }, ty, pos, aft, g⟩ :: rest) st R :=
  SOps.call hf hxs (List.nil_append _).symm (fun d H' ⟨h1, h2⟩ => by subst h2; exact hrest d h1) hg ht
/-- A call of a function value. -/
theorem SOps.callV {f : FuncId} {xo : Operand} {xs : Array Operand} {ats : Array TypeId} {cap ds : List DV} {H G : DHeap} {Rr : DV → DHeap → Prop} (hx : st.val xo = some (.fn f cap)) (hxs : st.vals xs.toList = some ds) (hf : GCall C.P C.E f (ds ++ cap) H Rr)
    (hH : st.heap = H ++ G) (hrest : ∀ d H', Rr d H' → SOps C ops rest ⟨st.n, (t, d) :: st.slots, H' ++ G⟩ R)
    (hg : st.wants ops g = some true := by rfl) (ht : Nat.blt t st.n = true := by rfl) :
    SOps C ops (⟨some t, .call { callee := .value xo, args := xs, argTypes := ats }, ty, pos, aft, g⟩ :: rest) st R := by
  refine SOps.op (R1 := fun st' => ∃ d H', Rr d H' ∧ st' = ⟨st.n, (t, d) :: st.slots, H' ++ G⟩) hg ?_ (fun st' ⟨d, H', h1, h2⟩ => h2 ▸ hrest d H' h1)
  intro base ok a w F hs K Q hK
  obtain ⟨h1, h2⟩ := hs.vals xs.toList ds hxs
  have h3 := hs.val hx
  generalize hv : a.eval xo = v at h3
  cases h3 with
  | @fn _ us _ hl hr =>
    refine upon_call hf hH ht (vs := xs.map a.eval ++ us) rfl hs (by simp [← h1, hl]) (fun j x d hx hd => ?_) (fun d H' a' w' r s => hK _ _ _ ⟨d, H', r, rfl⟩ s) ?_
    · have hlen : (xs.map a.eval).size = ds.length := by simpa using h1
      rw [Array.getElem?_append, hlen] at hx
      rw [List.getElem?_append] at hd
      split at hx
      · rename_i hlt
        rw [if_pos hlt] at hd
        rw [eval_args] at hx
        obtain ⟨y, hy, rfl⟩ := Option.map_eq_some_iff.1 hx
        exact h2 j y d hy hd
      · rename_i hlt
        rw [if_neg hlt] at hd
        exact hr _ x d hx hd
    · have := run_callFunc hf.1 (xs.map a.eval ++ us) w
      rw [show execOp a.eval ⟨some t, .call { callee := .value xo, args := xs, argTypes := ats }, ty, pos, aft, g⟩ = (do let d ← Deferred.ofValue (a.eval xo) (xs.map a.eval); invoke d.target d.args) from rfl, hv]
      simp only [Deferred.ofValue, invoke, pure_bind]
      simpa using this
end

/-! ### a body -/
inductive ResItem (P : Program) (st : St) : ResultVar → DV → Prop
  | tmp {t : Nat} {d : DV} (h : st.get t = some d) : ResItem P st (.tmp t) d
  | flat {p ty b o i elem sz k j : Nat} {es : List (List DV)} {e : List DV} {d : DV} (h : st.get p = some (.ref b o)) (hT : flatB P ty = true) (hi : st.heap[i]? = some (b, .row elem sz es))
      (ho : o = k * sz + j) (hk : es[k]? = some e) (hj : e[j]? = some d) : ResItem P st (.cell p ty) d
  | agg {p ty b o i elem sz k j n : Nat} {es : List (List DV)} {e : List DV} (h : st.get p = some (.ref b o)) (hT : aggB P ty n = true) (hi : st.heap[i]? = some (b, .row elem sz es))
      (ho : o = k * sz + j) (hk : es[k]? = some e) (hj : j + n ≤ e.length) : ResItem P st (.cell p ty) (.agg ((e.drop j).take n))

theorem row_cell {w : World} {F : Nat → Prop} {b elem sz : Nat} {es : List (List DV)} (h : ObjRep w F b (.row elem sz es)) {k j : Nat} {e : List DV} {d : DV} (hk : es[k]? = some e) (hj : e[j]? = some d) :
    ∃ x, w.cell? ⟨b, k * sz + j, none⟩ = some x ∧ Rep w F x d := by
  obtain ⟨cs, h1, h2, _, h3⟩ := h
  obtain ⟨x, hx, _, hr⟩ := (h3 k e hk).2 j d hj
  exact ⟨x, by rw [cell_of_row w b _ cs _ _ h1]; exact hx, hr⟩

def resRun (tmps : Array Value) : ResultVar → Sem Value
  | .tmp t => pure (tmps.getD t undef)
  | .cell a t => do loadVar t (← asAddr (tmps.getD a undef))
theorem results_eq (fn : Func) (tmps : Array Value) : results fn tmps = (do let vs ← fn.results.mapM (resRun tmps); pure (if h : vs.size = 1 then vs[0] else .tuple vs)) := by
  have key : ∀ f g : ResultVar → Sem Value, (∀ r, f r = g r) → (do let vs ← fn.results.mapM f; pure (if h : vs.size = 1 then vs[0] else .tuple vs) : Sem Value) = (do let vs ← fn.results.mapM g; pure (if h : vs.size = 1 then vs[0] else .tuple vs)) :=
    fun f g h => by rw [funext h]
  exact key _ _ (fun r => by cases r <;> rfl)
theorem run_res {P : Program} {E : Env} {base : Base} {F : Nat → Prop} {st : St} {a : Act} {w : World} (hs : SimF E base F st a w) {r : ResultVar} {d : DV} (h : ResItem P st r d) :
    ∃ x, (resRun a.tmps r).run P w = .ok x w ∧ Rep w F x d := by
  cases h with
  | tmp h => exact ⟨_, rfl, (hs.slots _ _ h).2⟩
  | @flat p ty b o i elem sz k j es e d h hT hi ho hk hj =>
    have h1 := (hs.slots _ _ h).2
    have h2 := (hs.heap _ (List.mem_of_getElem? hi)).2.2
    obtain ⟨x, hx, hr⟩ := row_cell h2 hk hj
    show ∃ x, (do loadVar ty (← asAddr (a.tmps.getD p undef)) : Sem Value).run P w = .ok x w ∧ _
    generalize a.tmps.getD p undef = v at h1 ⊢
    cases h1 with
    | ref => subst ho; exact ⟨x, by simp [asAddr, loadVar, isAgg_flat hT, hx], hr⟩
  | @agg p ty b o i elem sz k j n es e h hT hi ho hk hj =>
    have h1 := (hs.slots _ _ h).2
    have h2 := (hs.heap _ (List.mem_of_getElem? hi)).2.2
    show ∃ x, (do loadVar ty (← asAddr (a.tmps.getD p undef)) : Sem Value).run P w = .ok x w ∧ _
    generalize a.tmps.getD p undef = v at h1 ⊢
    cases h1 with
    | ref =>
      subst ho
      have key : ∀ q, ∃ x, q < n → w.cell? ⟨b, k * sz + j + q, none⟩ = some x ∧ ∀ d, e[j + q]? = some d → Rep w F x d := fun q => by
        by_cases hq : q < n
        · have hlt : j + q < e.length := by omega
          obtain ⟨x, hx, hr⟩ := row_cell h2 hk (List.getElem?_eq_getElem hlt)
          refine ⟨x, fun _ => ⟨by rw [Nat.add_assoc]; exact hx, fun d hd => ?_⟩⟩
          rw [List.getElem?_eq_getElem hlt] at hd
          obtain rfl := Option.some.inj hd
          exact hr
        · exact ⟨undef, fun h => absurd h hq⟩
      refine ⟨.agg ((List.range n).map (fun q => (key q).choose)).toArray, ?_, .agg (by simp; omega) (fun q x d hx hd => ?_)⟩
      · have := run_loadAgg (P := P) (w := w) hT (b := b) (o := k * sz + j) (fun q => (key q).choose) (fun q hq => ((key q).choose_spec hq).1)
        simpa [Instr.loadAt, Instr.sureAddr, asAddr] using this
      · rw [List.getElem?_take] at hd
        split at hd
        · rename_i hlt
          have e1 : (List.range n)[q]? = some q := List.getElem?_range hlt
          simp only [List.getElem?_toArray, List.getElem?_map, e1, Option.map_some, Option.some.injEq] at hx
          subst hx
          rw [List.getElem?_drop] at hd
          exact ((key q).choose_spec hlt).2 d hd
        · cases hd

inductive Res (P : Program) (st : St) : Array ResultVar → DV → Prop
  | none : Res P st #[] (.v (.tuple #[]))
  | one {r : ResultVar} {d : DV} (h : ResItem P st r d) : Res P st #[r] d
  | two {r s : ResultVar} {d e : DV} (h : ResItem P st r d) (k : ResItem P st s e) : Res P st #[r, s] (.tup [d, e])
  | three {r s q : ResultVar} {d e c : DV} (h : ResItem P st r d) (k : ResItem P st s e) (l : ResItem P st q c) : Res P st #[r, s, q] (.tup [d, e, c])

theorem run_results {P : Program} {E : Env} {base : Base} {F : Nat → Prop} {st : St} {a : Act} {w : World} (hs : SimF E base F st a w) {fn : Func} {d : DV} (h : Res P st fn.results d) :
    ∃ x, (results fn a.tmps).run P w = .ok x w ∧ Rep w F x d := by
  rw [results_eq]
  generalize fn.results = rs at h
  cases h with
  | none => exact ⟨.tuple #[], by simp, .v trivial⟩
  | one h =>
    obtain ⟨x, hx, hr⟩ := run_res hs h
    refine ⟨x, ?_, hr⟩
    rw [Array.mapM_eq_mapM_toList]
    simp only [List.mapM_cons, List.mapM_nil, Sem.run_bind, Sem.run_map, Sem.run_pure, Result.andThen_ok, hx]
    rfl
  | two h k =>
    obtain ⟨x, hx, hr⟩ := run_res hs h
    obtain ⟨y, hy, hq⟩ := run_res hs k
    refine ⟨.tuple #[x, y], ?_, .tup rfl (fun j z e hj he => ?_)⟩
    · rw [Array.mapM_eq_mapM_toList]
      simp only [List.mapM_cons, List.mapM_nil, Sem.run_bind, Sem.run_map, Sem.run_pure, Result.andThen_ok, hx, hy]
      rfl
    · match j, hj, he with
      | 0, hj, he => simp at hj he; subst hj; subst he; exact hr
      | 1, hj, he => simp at hj he; subst hj; subst he; exact hq
      | j + 2, hj, he => simp at he
  | three h k l =>
    obtain ⟨x, hx, hr⟩ := run_res hs h
    obtain ⟨y, hy, hq⟩ := run_res hs k
    obtain ⟨z, hz, hp⟩ := run_res hs l
    refine ⟨.tuple #[x, y, z], ?_, .tup rfl (fun j v e hj he => ?_)⟩
    · rw [Array.mapM_eq_mapM_toList]
      simp only [List.mapM_cons, List.mapM_nil, Sem.run_bind, Sem.run_map, Sem.run_pure, Result.andThen_ok, hx, hy, hz]
      rfl
    · match j, hj, he with
      | 0, hj, he => simp at hj he; subst hj; subst he; exact hr
      | 1, hj, he => simp at hj he; subst hj; subst he; exact hq
      | 2, hj, he => simp at hj he; subst hj; subst he; exact hp
      | j + 3, hj, he => simp at he

def enum : Nat → List DV → List (Nat × DV)
  | _, [] => []
  | i, d :: ds => (i, d) :: enum (i + 1) ds
theorem beq_ne {t u : Nat} (h : u ≠ t) : Nat.beq t u = false := by
  cases hb : Nat.beq t u with
  | false => rfl
  | true => exact absurd (Nat.eq_of_beq_eq_true hb).symm h
theorem enum_get : ∀ (ds : List DV) (i t : Nat) (d : DV), getL (enum i ds) t = some d → i ≤ t ∧ ds[t - i]? = some d
  | [], _, _, _, h => by simp [enum, getL] at h
  | e :: ds, i, t, d, h => by
    simp only [enum, getL] at h
    by_cases hit : i = t
    · subst hit; simp at h; subst h; exact ⟨Nat.le_refl _, by simp⟩
    · simp only [beq_ne (Ne.symm hit)] at h
      obtain ⟨h1, h2⟩ := enum_get ds (i + 1) t d h
      refine ⟨by omega, ?_⟩
      rw [show t - i = (t - (i + 1)) + 1 from by omega]
      simpa using h2

def St.init (n : Nat) (ds : List DV) (H : DHeap) : St := ⟨n, enum 0 ds, H⟩

/-- How the body's end is told. -/
def endQ (P : Program) (rs : Array ResultVar) (R : DV → DHeap → Prop) : Exit → St → Prop
  | .normal, st => ∃ d, Res P st rs d ∧ R d st.heap
  | .ret, st => ∃ d, Res P st rs d ∧ R d st.heap
  | _, _ => False

theorem GCall.body {C : Ctx} {f : FuncId} {fn : Func} {c : Code} {ds : List DV} {H : DHeap} {R : DV → DHeap → Prop} (hf : C.P.funcs[f]? = some fn) (hb : fn.body = some c)
    (hpu : C.pu = true → H = []) (hname : (fn.name == "runtime.NumGoroutine") = false) (hn : Nat.ble ds.length fn.ntmps = true)
    (h : SCode C c (St.init fn.ntmps ds H) (endQ C.P fn.results R)) : GCall C.P C.E f ds H R := by
  refine ⟨by simp [hasBody, hf, hb, hname], ?_⟩
  intro w F vs hE hF hvs hr hH hk
  have hn' := Nat.le_of_ble_eq_true hn
  refine calls_of_wp hf hb ?_
  have hsim : SimF C.E ⟨w, F, fun b => b ∈ H.map (·.1)⟩ F (St.init fn.ntmps ds H) { tmps := vs ++ Array.replicate (fn.ntmps - vs.size) undef, defers := [] } w := {
    keep := Step.refl _ _
    base_lt := fun b hb => by
      obtain ⟨p, hp, rfl⟩ := List.mem_map.1 hb
      exact (hH p hp).2.lt
    sub := fun _ h => h
    lt := fun b hb => ⟨hF b hb, .inl hb⟩
    env := hE
    size := by simp [hvs, St.init]; omega
    slots := fun t d ht => by
      obtain ⟨_, h2⟩ := enum_get ds 0 t d ht
      simp only [Nat.sub_zero] at h2
      have hlt := (List.getElem?_eq_some_iff.1 h2).1
      refine ⟨Nat.lt_of_lt_of_le hlt hn', ?_⟩
      have hlt' : t < vs.size := hvs ▸ hlt
      have e : (vs ++ Array.replicate (fn.ntmps - vs.size) undef).getD t undef = vs[t] := by
        simp [Array.getD_eq_getD_getElem?, Array.getElem?_append, hlt']
      rw [e]
      exact hr t _ d (Array.getElem?_eq_getElem hlt') h2
    heap := fun p hp => ⟨.inl (List.mem_map.2 ⟨p, hp, rfl⟩), (hH p hp).1, (hH p hp).2⟩
    keys := hk
    defers := rfl }
  have hok : C.ok ⟨w, F, fun b => b ∈ H.map (·.1)⟩ := fun hp b hb => by rw [hpu hp] at hb; cases hb
  refine wp_mono (h _ hok _ _ ⟨F, hsim⟩) ?_
  rintro e a' w' ⟨st', q, F', s⟩
  have fin : ∀ d, Res C.P st' fn.results d → R d st'.heap → a'.defers = [] ∧ ∃ v, (results fn a'.tmps).run C.P w' = .ok v w' ∧ CPost C.E w F H R (.returned v) w' := fun d hres hR => by
    obtain ⟨x, hx, hrep⟩ := run_results s hres
    exact ⟨s.defers, x, hx, x, d, st'.heap, F', rfl, hR, s.sub, s.lt, hrep, s.heap, s.keys, s.keep⟩
  cases e with
  | normal => obtain ⟨d, h1, h2⟩ := q; exact fin d h1 h2
  | ret => obtain ⟨d, h1, h2⟩ := q; exact fin d h1 h2
  | _ => exact q.elim

/-- Ways that meet again: behind x one of the states I j. -/
theorem SCode.seqJ {C : Ctx} {α : Type} {x y : Code} {st : St} {Q : Exit → St → Prop} (I : α → St) (h : SCode C x st (fun e st' => match e with
      | .normal => ∃ j, (I j).Le st'
      | e => Q e st')) (k : ∀ j, SCode C y (I j) Q) : SCode C (.seq x y) st Q :=
  SCode.seq (h.mono fun e st' q => by
    cases e <;> first | (obtain ⟨j, hl⟩ := q; exact SCode.weaken hl (k j)) | exact q)

def St.hasAll (st : St) : List (Nat × DV) → Prop
  | [] => True
  | (t, d) :: l => st.get t = some d ∧ st.hasAll l
theorem St.hasAll_get {st : St} : ∀ {l : List (Nat × DV)}, st.hasAll l → ∀ t d, getL l t = some d → st.get t = some d
  | [], _, t, d, h => by simp [getL] at h
  | (u, e) :: l, h, t, d, hd => by
    obtain ⟨h1, h2⟩ := h
    simp only [getL] at hd
    by_cases hu : u = t
    · subst hu; simp at hd; subst hd; exact h1
    · simp only [beq_ne (Ne.symm hu)] at hd
      exact St.hasAll_get h2 t d hd
theorem St.Le.of {n : Nat} {slots : List (Nat × DV)} {heap : DHeap} {st : St} (hs : st.hasAll slots) (hn : n = st.n := by rfl) (hh : heap = st.heap := by rfl) : (⟨n, slots, heap⟩ : St).Le st :=
  ⟨hn, fun t d h => .inl (St.hasAll_get hs t d h), heap, .refl _, by rw [hh]; exact .refl _⟩
theorem St.Le.ofSub {n : Nat} {slots : List (Nat × DV)} {heap : DHeap} {st : St} (hs : st.hasAll slots) (hh : heap.Sublist st.heap) (hn : n = st.n := by rfl) : (⟨n, slots, heap⟩ : St).Le st :=
  ⟨hn, fun t d h => .inl (St.hasAll_get hs t d h), heap, .refl _, hh⟩
theorem St.Le.ofPerm {n : Nat} {slots : List (Nat × DV)} {heap l : DHeap} {st : St} (hs : st.hasAll slots) (hp : heap.Perm l) (hh : l.Sublist st.heap) (hn : n = st.n := by rfl) : (⟨n, slots, heap⟩ : St).Le st :=
  ⟨hn, fun t d h => .inl (St.hasAll_get hs t d h), l, hp, hh⟩

theorem isl_len {C : Ctx} {st : St} {t : Nat} {nn : Bool} {sz : Nat} {es : List (List DV)} (h : st.get t = some (.isl nn sz es)) : ∀ base a w F, SimF C.E base F st a w → es.length ≤ lenB := by
  intro base a w F hs
  have h1 := (hs.slots _ _ h).2
  generalize a.tmps.getD t undef = v at h1
  cases h1 with
  | isl xs hlen hcap hB hnn hA hsz hc hr => exact hB
theorem sl_len {C : Ctx} {st : St} {t b sz off len : Nat} (h : st.get t = some (.sl b sz off len)) : ∀ base a w F, SimF C.E base F st a w → len ≤ lenB := by
  intro base a w F hs
  have h1 := (hs.slots _ _ h).2
  generalize a.tmps.getD t undef = v at h1
  cases h1 with
  | sl h1 h2 h3 h4 => exact h4
theorem v_scal {C : Ctx} {st : St} {t : Nat} {x : Value} (h : st.get t = some (.v x)) : ∀ base a w F, SimF C.E base F st a w → scal x :=
  fun base a w F hs => (hs.slots _ _ h).2.inv_v.2

theorem SCode.seqR {C : Ctx} {id : Nat} {l : List Oper} {y : Code} {st : St} {Q : Exit → St → Prop} (h : SOps C l.toArray l st (fun st' => SCode C y st' Q)) : SCode C (.seq (.region id l.toArray false) y) st Q :=
  SCode.seq (SCode.region h)
end Go.GH
namespace Go.GH
open Go
/-- A loop with an invariant's facts beside its states. -/
theorem SCode.loopP {C : Ctx} {st : St} {Q : Exit → St → Prop} {α : Type} {c : Code} (I : α → St) (Inv : α → Prop) (μ : α → Nat) (x₀ : α) (hi : Inv x₀) (h₀ : (I x₀).Le st)
    (round : ∀ x, Inv x → SCode C c (I x) (fun e st' => match e with
      | .normal => ∃ y, Inv y ∧ μ y < μ x ∧ (I y).Le st'
      | e => Q e st')) : SCode C (.loop c) st Q :=
  SCode.loop (α := { x : α // Inv x }) (fun x => I x.1) (fun x => μ x.1) ⟨x₀, hi⟩ h₀ (fun x => (round x.1 x.2).mono (fun e st' q => by
    cases e <;> first | (obtain ⟨y, h1, h2, h3⟩ := q; exact ⟨⟨y, h1⟩, h2, h3⟩) | exact q))
section
variable {C : Ctx} {st : St} {Q : Exit → St → Prop} {α β γ δ : Type} {c : Code}
theorem SCode.loop1 (I : α → St) (Inv : α → Prop) (μ : α → Nat) (x : α) (hi : Inv x) (h₀ : (I x).Le st)
    (round : ∀ x, Inv x → SCode C c (I x) (fun e st' => match e with
      | .normal => ∃ y, Inv y ∧ μ y < μ x ∧ (I y).Le st'
      | e => Q e st')) : SCode C (.loop c) st Q := SCode.loopP I Inv μ x hi h₀ round
theorem SCode.loop2 (I : α → β → St) (Inv : α → β → Prop) (μ : α → β → Nat) (x : α) (y : β) (hi : Inv x y) (h₀ : (I x y).Le st)
    (round : ∀ x y, Inv x y → SCode C c (I x y) (fun e st' => match e with
      | .normal => ∃ x' y', Inv x' y' ∧ μ x' y' < μ x y ∧ (I x' y').Le st'
      | e => Q e st')) : SCode C (.loop c) st Q :=
  SCode.loopP (fun p : α × β => I p.1 p.2) (fun p => Inv p.1 p.2) (fun p => μ p.1 p.2) (x, y) hi h₀ (fun p hp => (round p.1 p.2 hp).mono (fun e st' q => by
    cases e <;> first | (obtain ⟨x, y, h⟩ := q; exact ⟨(x, y), h⟩) | exact q))
theorem SCode.loop3 (I : α → β → γ → St) (Inv : α → β → γ → Prop) (μ : α → β → γ → Nat) (x : α) (y : β) (z : γ) (hi : Inv x y z) (h₀ : (I x y z).Le st)
    (round : ∀ x y z, Inv x y z → SCode C c (I x y z) (fun e st' => match e with
      | .normal => ∃ x' y' z', Inv x' y' z' ∧ μ x' y' z' < μ x y z ∧ (I x' y' z').Le st'
      | e => Q e st')) : SCode C (.loop c) st Q :=
  SCode.loopP (fun p : α × β × γ => I p.1 p.2.1 p.2.2) (fun p => Inv p.1 p.2.1 p.2.2) (fun p => μ p.1 p.2.1 p.2.2) (x, y, z) hi h₀ (fun p hp => (round p.1 p.2.1 p.2.2 hp).mono (fun e st' q => by
    cases e <;> first | (obtain ⟨x, y, z, h⟩ := q; exact ⟨(x, y, z), h⟩) | exact q))
theorem SCode.loop4 (I : α → β → γ → δ → St) (Inv : α → β → γ → δ → Prop) (μ : α → β → γ → δ → Nat) (x : α) (y : β) (z : γ) (u : δ) (hi : Inv x y z u) (h₀ : (I x y z u).Le st)
    (round : ∀ x y z u, Inv x y z u → SCode C c (I x y z u) (fun e st' => match e with
      | .normal => ∃ x' y' z' u', Inv x' y' z' u' ∧ μ x' y' z' u' < μ x y z u ∧ (I x' y' z' u').Le st'
      | e => Q e st')) : SCode C (.loop c) st Q :=
  SCode.loopP (fun p : α × β × γ × δ => I p.1 p.2.1 p.2.2.1 p.2.2.2) (fun p => Inv p.1 p.2.1 p.2.2.1 p.2.2.2) (fun p => μ p.1 p.2.1 p.2.2.1 p.2.2.2) (x, y, z, u) hi h₀ (fun p hp => (round p.1 p.2.1 p.2.2.1 p.2.2.2 hp).mono (fun e st' q => by
    cases e <;> first | (obtain ⟨x, y, z, u, h⟩ := q; exact ⟨(x, y, z, u), h⟩) | exact q))
end
end Go.GH
