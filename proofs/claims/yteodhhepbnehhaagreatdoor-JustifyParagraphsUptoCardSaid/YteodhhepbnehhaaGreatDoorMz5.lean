/-
  Part 5 of the texts behind the walks of this claim: an own layer over the kit's wp, plain laws, and walks. No conditions.
-/
import Derived.Test.YteodhhepbnehhaaGreatDoorMz4
import Derived.OrdersIn
import Derived.Shelf.Strings.FieldsFuncAny
import Derived.Shelf.Strings.SplitShaped
import Derived.Test.YteodhhepbnehhaaGreatDoorRows
set_option linter.unusedVariables false
set_option linter.unusedSimpArgs false
set_option linter.deprecated false
namespace Go.GH
open Go Go.RowKit
def YRounds2 (P : Program) (E : Env) (l : Nat) (xs : List (DV × DV)) (J : JT) : Prop :=
  ∀ i x, xs[i]? = some x → ∀ w F T v u, E.holds w F → (∀ b, F b → b < w.heap.size) → (∀ b, T b → b < w.heap.size ∧ ¬ F b) → J i w F T → Rep w F v x.1 → Rep w F u x.2 →
    YieldAt Fence.wide 0 P l #[v, u] w (fun e w' => e = .returned (.bool true) ∧ YNext J (i + 1) w F T w')
/-- The contract of an iterator: with what it has captured it hands over xs, and no more. -/
def GIter2 (P : Program) (E : Env) (f : FuncId) (ds : List DV) (xs : List (DV × DV)) : Prop :=
  hasBody P f = true ∧ ∀ (l : Nat) (J : JT) w F T (vs : Array Value), YKeeps J → YRounds2 P E l xs J → E.holds w F → (∀ b, F b → b < w.heap.size) → (∀ b, T b → b < w.heap.size ∧ ¬ F b) → J 0 w F T → vs.size = ds.length →
    (∀ (j : Nat) (x : Value) (d : DV), vs[j]? = some x → ds[j]? = some d → Rep w F x d) →
    Calls P f (#[.func (.yield l) #[] #[]] ++ vs) w (fun e w' => (∃ v, e = .returned v) ∧ ∃ F' T', J xs.length w' F' T')

section
variable {C : Ctx} {J : JT} {i : Nat} {st : St} {Q : Exit → Nat → St → Prop} {ops : Array Oper} {rest : List Oper} {R : Nat → St → Prop}
/-- One call of yield. -/
theorem SYOps.yield2 {xs : List (DV × DV)} {l : Nat} {t : Tmp} {ty : TypeId} {pos : String} {aft : Array Edge} {xo xa xb : Operand} {ats : Array TypeId} {x : DV × DV} (hY : YRounds2 C.P C.E l xs J) (hx : st.val xo = some (.v (.func (.yield l) #[] #[]))) (ha : st.val xa = some x.1) (hb : st.val xb = some x.2) (hi : xs[i]? = some x) (hh : st.heap = [])
    (hrest : SYOps C J ops rest (i + 1) (st.put t (.v (.bool true))) R) (ht : Nat.blt t st.n = true := by rfl) :
    SYOps C J ops (⟨some t, .call { callee := .value xo, args := #[xa, xb], argTypes := ats }, ty, pos, aft, none⟩ :: rest) i st R := by
  intro base a w ⟨F, T, hs, hT, hj⟩ Q hQ
  obtain ⟨fn, tmps, asg, bd, hy, hR⟩ := hY i x hi w F T (a.eval xa) (a.eval xb) hs.env (fun b hb => (hs.lt b hb).1) (fun b hb => ⟨(hT b hb).1, (hT b hb).2.1⟩) hj (hs.val ha) (hs.val hb)
  refine wpListIn_plain rfl (fun K hK => ⟨fun _ _ => trivial, ?_⟩)
  have hsem : ((⟨some t, .call { callee := .value xo, args := #[xa, xb], argTypes := ats }, ty, pos, aft, none⟩ : Oper).semAt Fence.wide.round a.eval).run C.P w = .ok (.round l fn tmps asg bd) w := by
    rw [show (⟨some t, .call { callee := .value xo, args := #[xa, xb], argTypes := ats }, ty, pos, aft, none⟩ : Oper).semAt Fence.wide.round a.eval = (do let d ← Deferred.ofValue (a.eval xo) (#[xa, xb].map a.eval); invoke d.target d.args) from rfl, (hs.val hx).inv_v.1]
    simp only [Deferred.ofValue, invoke, pure_bind]
    simpa using hy
  rw [hsem, Oper.uponIn_round]
  refine ⟨fun e => by simp [Fence.wide] at e, hR.mono ?_⟩
  rintro e w' ⟨rfl, F', T', h1, h2, h3, h4, h5⟩
  refine hK _ _ (hrest base _ w' ⟨F', T', ?_, fun b hb => ⟨(h3 b hb).1, (h3 b hb).2.1, ?_⟩, h5⟩ Q hQ)
  · have s1 := hs.stepT h4 (fun b hb ht => (hT b ht).2.1 hb) (fun p hp => by rw [hh] at hp; cases hp) (fun b hb => (hT b hb).2.2)
    have s2 := s1.wider h1 (fun b hb => ⟨(h2 b hb).1, (h2 b hb).2.imp id (fun x => Nat.le_trans hs.keep.size x)⟩) (fun p hp => by rw [hh] at hp; cases hp)
    exact s2.put (by simpa using ht) (.v trivial)
  · rcases (h3 b hb).2.2 with x | x
    · exact (hT b x).2.2
    · exact .inr (Nat.le_trans hs.keep.size x)
/-- An iterator's contract from its body. -/
theorem GIter2.body {f : FuncId} {fn : Func} {c : Code} {ds : List DV} {xs : List (DV × DV)} (hf : C.P.funcs[f]? = some fn) (hb : fn.body = some c) (hname : (fn.name == "runtime.NumGoroutine") = false) (hn : Nat.ble (ds.length + 1) fn.ntmps = true) (hres : fn.results = #[])
    (h : ∀ (l : Nat) (J : JT), YKeeps J → YRounds2 C.P C.E l xs J → SYCode C J c 0 (St.init fn.ntmps (.v (.func (.yield l) #[] #[]) :: ds) []) (fun e i st => (e = .normal ∨ e = .ret) ∧ i = xs.length)) : GIter2 C.P C.E f ds xs := by
  refine ⟨by simp [hasBody, hf, hb, hname], ?_⟩
  intro l J w F T vs hK hY hE hF hT h0 hvs hr
  have hn' := Nat.le_of_ble_eq_true hn
  refine calls_of_wp hf hb ?_
  have hr' : ∀ (j : Nat) (x : Value) (d : DV), (#[Value.func (.yield l) #[] #[]] ++ vs)[j]? = some x → ((DV.v (.func (.yield l) #[] #[])) :: ds)[j]? = some d → Rep w F x d := by
    intro j x d hx hd
    cases j with
    | zero =>
      rw [Array.getElem?_append_left (by simp)] at hx
      simp only [List.getElem?_cons_zero, Option.some.injEq] at hd
      obtain rfl : Value.func (.yield l) #[] #[] = x := by simpa using hx
      subst hd
      exact .v trivial
    | succ j =>
      rw [Array.getElem?_append_right (by simp)] at hx
      simp at hx hd
      exact hr j x d hx hd
  have hsim : SimF C.E ⟨w, F, T, []⟩ F (St.init fn.ntmps (.v (.func (.yield l) #[] #[]) :: ds) []) { tmps := (#[.func (.yield l) #[] #[]] ++ vs) ++ Array.replicate (fn.ntmps - (#[Value.func (.yield l) #[] #[]] ++ vs).size) undef, defers := [] } w := {
    keep := Step.refl _ _
    base_lt := fun b hb => (hT b hb).1
    sub := fun _ h => h
    lt := fun b hb => ⟨hF b hb, .inl hb⟩
    env := hE
    size := by simp [hvs, St.init]; omega
    slots := fun t d ht => by
      obtain ⟨_, h2⟩ := enum_get _ 0 t d ht
      simp only [Nat.sub_zero] at h2
      have hlt := (List.getElem?_eq_some_iff.1 h2).1
      simp only [List.length_cons] at hlt
      refine ⟨Nat.lt_of_lt_of_le hlt hn', ?_⟩
      have hlt' : t < (#[Value.func (.yield l) #[] #[]] ++ vs).size := by simp; omega
      have e : ((#[Value.func (.yield l) #[] #[]] ++ vs) ++ Array.replicate (fn.ntmps - (#[Value.func (.yield l) #[] #[]] ++ vs).size) undef).getD t undef = (#[Value.func (.yield l) #[] #[]] ++ vs)[t] := by
        rw [Array.getD_eq_getD_getElem?, Array.getElem?_append, if_pos hlt', Array.getElem?_eq_getElem hlt']; rfl
      rw [e]
      exact hr' t _ d (Array.getElem?_eq_getElem hlt') h2
    heap := fun p hp => by cases hp
    keys := List.nodup_nil
    defers := rfl }
  refine wp_mono (wpIn_wide.1 (h l J hK hY ⟨w, F, T, []⟩ _ w ⟨F, T, hsim, fun b hb => ⟨(hT b hb).1, (hT b hb).2, .inl hb⟩, h0⟩)) ?_
  rintro e a' w' ⟨i', st', ⟨he, hi⟩, F', T', s, _, hj⟩
  subst hi
  have fin : a'.defers = [] ∧ ∃ v, (results fn a'.tmps).run C.P w' = .ok v w' ∧ ((∃ v', Ending.returned v = .returned v') ∧ ∃ F' T', J xs.length w' F' T') :=
    let ⟨x, hx, _⟩ := run_results s (fn := fn) (d := .v (.tuple #[])) (by rw [hres]; exact .none)
    ⟨s.defers, x, hx, ⟨_, rfl⟩, F', T', hj⟩
  rcases he with rfl | rfl
  · exact fin
  · exact fin
end
section
variable {C : Ctx} {m : Bool} {st : St} {Q : Exit → Bool → St → Prop}
/-- 'for x := range g { .. }', each round leaving by the body's end. -/
theorem SMCode.range2 {g : Operand} {p p2 : Tmp} {asg bd : Code} {f : FuncId} {ds : List DV} {xs : List (DV × DV)} (hg : st.val g = some (.fn f ds)) (hit : GIter2 C.P C.E f ds xs) (Inv : Nat → DHeap → Prop) (h0 : Inv 0 st.heap) (hp : Nat.blt p st.n = true) (hp2 : Nat.blt p2 st.n = true)
    (hround : ∀ i x l H, xs[i]? = some x → Inv i H → SRound C.imp l asg ⟨st.n, (p2, x.2) :: (p, x.1) :: st.slots, H⟩ (fun e st1 => e = .normal ∧ SRound C.imp l bd st1 (fun e st2 => e = .normal ∧ Inv (i + 1) st2.heap)))
    (hdone : ∀ H, Inv xs.length H → Q .normal true ⟨st.n, st.slots, H⟩) : SMCode C (.rangeFunc g #[p, p2] asg bd) false st Q := by
  intro base ok hd0 a w ⟨F, hs⟩
  refine (wpIn_wide (n := 0)).1 (wpIn_rangeFunc (F := Fence.wide) (n := 0) ?_)
  intro fn _
  have h3 := hs.val hg
  generalize hv : a.eval g = v at h3
  cases h3 with
  | @fn _ us _ hl hr =>
  obtain ⟨rec, hrec⟩ : ∃ rec : LoopState → Loop, rec = fun s => { state := s, pending := none, fn, tmps := a.tmps, params := #[p, p2], assign := asg, body := bd, defers := w.heap.size } := ⟨_, rfl⟩
  obtain ⟨W1, hW1⟩ : ∃ W1, (w.alloc (.deferred (some []))).alloc (.loop (rec .ready)) = W1 := ⟨_, rfl⟩
  have hL1 : W1.heap[w.heap.size + 1]? = some (.loop (rec .ready)) := by
    rw [← hW1]; have := World.alloc_heap_new (w.alloc (.deferred (some []))) (.loop (rec .ready)); rwa [World.size_alloc] at this
  have hD1 : W1.heap[w.heap.size]? = some (.deferred (some [])) := by
    rw [← hW1]; exact (Below.heap_alloc _ _ _ (by simp)).trans (World.alloc_heap_new w _)
  have hst1 : Step (fun _ => False) w W1 := by rw [← hW1]; exact (Step.alloc _ w _).trans (Step.alloc _ _ _)
  have hne : ∀ s, (rec s).defers = w.heap.size ∧ (rec s).params = #[p, p2] ∧ (rec s).tmps = a.tmps ∧ (rec s).state = s ∧ (rec s).pending = none ∧ (rec s).fn = fn ∧ (rec s).assign = asg ∧ (rec s).body = bd := fun s => by rw [hrec]; exact ⟨rfl, rfl, rfl, rfl, rfl, rfl, rfl, rfl⟩
  have hrs : ∀ s s', { rec s with state := s' } = rec s' := fun s s' => by rw [hrec]
  have hrs2 : ∀ s s', { rec s with state := s', pending := none } = rec s' := fun s s' => by rw [hrec]
  obtain ⟨J, hJ⟩ : ∃ J : JT, J = fun i w' F' T => ∃ H, Inv i H ∧ SimF C.E base F' ⟨st.n, st.slots, H⟩ a w' ∧ w'.heap[w.heap.size + 1]? = some (.loop (rec .ready)) ∧ w'.heap[w.heap.size]? = some (.deferred (some [])) ∧
      (∀ q ∈ H, T q.1) ∧ T (w.heap.size + 1) ∧ T w.heap.size ∧ (∀ q ∈ H, q.1 ≠ w.heap.size + 1 ∧ q.1 ≠ w.heap.size) ∧ (∀ b, T b → base.own b ∨ base.w.heap.size ≤ b) ∧ (∀ b, T b → b < w'.heap.size ∧ ¬ F' b) := ⟨_, rfl⟩
  have hbw : base.w.heap.size ≤ w.heap.size := hs.keep.size
  have hnoF : ∀ b, w.heap.size ≤ b → ¬ F b := fun b hb hF => absurd (hs.lt b hF).1 (Nat.not_lt.2 hb)
  have hKeep : YKeeps J := by
    rw [hJ]
    rintro i w1 F1 T1 w2 F2 ⟨H, hI, hs1, k1, k2, k3, k4, k5, k6, k7, k8⟩ hst hF hF2
    have hT2 : ∀ b, T1 b → b < w2.heap.size ∧ ¬ F2 b := fun b hb => ⟨Nat.lt_of_lt_of_le (k8 b hb).1 hst.size, fun x => by
      rcases (hF2 b x).2 with y | y
      · exact (k8 b hb).2 y
      · exact absurd (k8 b hb).1 (Nat.not_lt.2 y)⟩
    exact ⟨H, hI, (hs1.world hst).wider hF (fun b hb => ⟨(hF2 b hb).1, (hF2 b hb).2.imp id (fun x => Nat.le_trans hs1.keep.size x)⟩) (fun q hq => (hT2 _ (k3 q hq)).2),
      (hst.block _ (k8 _ k4).1 (fun x => x)).trans k1, (hst.block _ (k8 _ k5).1 (fun x => x)).trans k2, k3, k4, k5, k6, k7, hT2⟩
  have hRounds : YRounds2 C.P C.E (w.heap.size + 1) xs J := by
    intro i x hx w1 F1 T1 v u hE hlt hTT hj hv1 hu1
    have hj' := hj
    rw [hJ] at hj
    obtain ⟨H, hI, hs1, k1, k2, k3, k4, k5, k6, k7, k8⟩ := hj
    have hy := run_yield (P := C.P) (args := #[v, u]) k1 (by rw [(hne _).2.1]; rfl)
    rw [(hne .ready).2.1, (hne .ready).2.2.1, (hne .ready).2.2.2.2.2.1, (hne .ready).2.2.2.2.2.2.1, (hne .ready).2.2.2.2.2.2.2] at hy
    refine ⟨fn, _, asg, bd, hy, roundIn_of_wpIn (F := Fence.wide) trivial ?_⟩
    clear hy
    have ha : ({ tmps := (#[p, p2].zip #[v, u]).foldl (fun tmps (t, a) => tmps.setIfInBounds t a) a.tmps, defers := [] } : Act) = (a.put (some p) v).put (some p2) u := by
      rw [show (#[p, p2].zip #[v, u]).foldl (fun tmps (t, a) => tmps.setIfInBounds t a) a.tmps = (a.tmps.setIfInBounds p v).setIfInBounds p2 u by simp]
      show _ = ({ tmps := (a.tmps.setIfInBounds p v).setIfInBounds p2 u, defers := a.defers } : Act)
      rw [hs1.defers, hd0]
    rw [ha]
    have hkH : ∀ b, b ∈ H.map (·.1) → T1 b := fun b hb => by obtain ⟨q, hq, rfl⟩ := List.mem_map.1 hb; exact k3 q hq
    have hlH : ¬ (w.heap.size + 1) ∈ H.map (·.1) := fun hm => by obtain ⟨q, hq, e⟩ := List.mem_map.1 hm; exact (k6 q hq).1 e
    have hDH : ¬ w.heap.size ∈ H.map (·.1) := fun hm => by obtain ⟨q, hq, e⟩ := List.mem_map.1 hm; exact (k6 q hq).2 e
    have s1 := ((hs1.rebase).put (t := p) (x := v) (d := x.1) (by simpa using hp) hv1).put (t := p2) (x := u) (d := x.2) (show p2 < st.n by simpa using hp2) hu1
    refine wpIn_mono (hround i x (w.heap.size + 1) H hx hI ⟨w1, F1, fun b => b ∈ H.map (·.1), base.dfr⟩ (fun hq => by cases hq) _ w1 ⟨F1, s1⟩) ?_
    rintro e a1 w2 ⟨st1, ⟨rfl, hb⟩, F2, s2⟩
    have hl2 : w2.heap[w.heap.size + 1]? = some (.loop (rec .ready)) := (s2.keep.block _ (k8 _ k4).1 hlH).trans k1
    have hD2 : w2.heap[w.heap.size]? = some (.deferred (some [])) := (s2.keep.block _ (k8 _ k5).1 hDH).trans k2
    have hlF2 : ∀ b, T1 b → ¬ F2 b := fun b hb x => by
      rcases (s2.lt b x).2 with y | y
      · exact (k8 b hb).2 y
      · exact absurd (k8 b hb).1 (Nat.not_lt.2 y)
    have hk1 : ∀ q ∈ st1.heap, T1 q.1 ∨ w1.heap.size ≤ q.1 := fun q hq => (s2.heap q hq).1.imp (hkH _) id
    have hl1n : ∀ q ∈ st1.heap, q.1 ≠ w.heap.size + 1 ∧ q.1 ≠ w.heap.size := fun q hq => ⟨fun e => by
        rcases (s2.heap q hq).1 with y | y
        · exact hlH (e ▸ y)
        · exact absurd (k8 _ k4).1 (Nat.not_lt.2 (e ▸ y)), fun e => by
        rcases (s2.heap q hq).1 with y | y
        · exact hDH (e ▸ y)
        · exact absurd (k8 _ k5).1 (Nat.not_lt.2 (e ▸ y))⟩
    refine ⟨_, run_beginRound hl2 (hne _).2.2.2.1, ?_⟩
    rw [hrs]
    have st2 := Step.putObj (.loop (rec .busy)) hl2 rfl
    have hlt2 := (Array.getElem?_eq_some_iff.1 hl2).1
    have s3 := ((s2.rebaseT (fun b => b ∈ st1.heap.map (·.1) ∨ b = w.heap.size + 1) (fun q hq => .inl (List.mem_map.2 ⟨q, hq, rfl⟩)) (fun b hb => hb.elim (fun h => (s2.keysLt h).1) (fun h => h ▸ hlt2))).stepT st2 (fun b hF e => hlF2 _ k4 (e ▸ hF)) (fun q hq e => (hl1n q hq).1 e) (fun b e => .inl (.inr e))).rebase
    have hl3 : (w2.putObj (w.heap.size + 1) (.loop (rec .busy))).heap[w.heap.size + 1]? = some (.loop (rec .busy)) := World.putObj_heap_same hlt2
    have hD3 : (w2.putObj (w.heap.size + 1) (.loop (rec .busy))).heap[w.heap.size]? = some (.deferred (some [])) := (World.putObj_heap_other (by omega)).trans hD2
    have hl1k : ¬ (w.heap.size + 1) ∈ st1.heap.map (·.1) := fun hm => by obtain ⟨q, hq, e⟩ := List.mem_map.1 hm; exact (hl1n q hq).1 e
    have hD1k : ¬ w.heap.size ∈ st1.heap.map (·.1) := fun hm => by obtain ⟨q, hq, e⟩ := List.mem_map.1 hm; exact (hl1n q hq).2 e
    have hsz3 : w2.heap.size ≤ (w2.putObj (w.heap.size + 1) (.loop (rec .busy))).heap.size := st2.size
    generalize w2.putObj (w.heap.size + 1) (.loop (rec .busy)) = W3 at *
    refine wpIn_mono (hb ⟨W3, F2, _, _⟩ (fun hq => by cases hq) a1 W3 ⟨F2, s3⟩) ?_
    rintro e a2 w4 ⟨st2', ⟨rfl, hI2⟩, F4, s4⟩
    have hl4 : w4.heap[w.heap.size + 1]? = some (.loop (rec .busy)) := (s4.keep.block _ (Array.getElem?_eq_some_iff.1 hl3).1 hl1k).trans hl3
    have hD4 : w4.heap[w.heap.size]? = some (.deferred (some [])) := (s4.keep.block _ (Array.getElem?_eq_some_iff.1 hD3).1 hD1k).trans hD3
    refine ⟨_, _, run_endRound none hl4, rfl, ?_⟩
    rw [show ({ rec .busy with state := if (none : Option Code).isNone then .ready else .done, pending := none } : Loop) = rec .ready from hrs2 _ _]
    have st5 := Step.putObj (.loop (rec .ready)) hl4 rfl
    have hlt4 := (Array.getElem?_eq_some_iff.1 hl4).1
    have hl5 : (w4.putObj (w.heap.size + 1) (.loop (rec .ready))).heap[w.heap.size + 1]? = some (.loop (rec .ready)) := World.putObj_heap_same hlt4
    have hD5 : (w4.putObj (w.heap.size + 1) (.loop (rec .ready))).heap[w.heap.size]? = some (.deferred (some [])) := (World.putObj_heap_other (by omega)).trans hD4
    generalize w4.putObj (w.heap.size + 1) (.loop (rec .ready)) = W5 at *
    have hw12 : w1.heap.size ≤ w2.heap.size := s2.keep.size
    have hw34 : W3.heap.size ≤ w4.heap.size := s4.keep.size
    have hF14 : ∀ b, F1 b → F4 b := fun b hb => s4.sub b (s2.sub b hb)
    have hF41 : ∀ b, F4 b → b < W5.heap.size ∧ (F1 b ∨ w1.heap.size ≤ b) := fun b hb => ⟨Nat.lt_of_lt_of_le (s4.lt b hb).1 st5.size, by
      rcases (s4.lt b hb).2 with y | y
      · exact (s2.lt b y).2
      · exact .inr (by have : W3.heap.size ≤ b := y; omega)⟩
    have hT1F : ∀ b, T1 b → ¬ F4 b := fun b hb x => by
      rcases (hF41 b x).2 with y | y
      · exact (k8 b hb).2 y
      · exact absurd (k8 b hb).1 (Nat.not_lt.2 y)
    have hk2 : ∀ q ∈ st2'.heap, T1 q.1 ∨ w1.heap.size ≤ q.1 := fun q hq => by
      rcases (s4.heap q hq).1 with y | y
      · obtain ⟨q', hq', e⟩ := List.mem_map.1 y
        rw [← e]; exact hk1 q' hq'
      · exact .inr (by have : W3.heap.size ≤ q.1 := y; omega)
    have hk2n : ∀ q ∈ st2'.heap, q.1 ≠ w.heap.size + 1 ∧ q.1 ≠ w.heap.size := fun q hq => by
      have hl3' := (Array.getElem?_eq_some_iff.1 hl3).1
      refine ⟨fun e => ?_, fun e => ?_⟩
      · rcases (s4.heap q hq).1 with y | y
        · exact hl1k (e ▸ y)
        · have : W3.heap.size ≤ q.1 := y; omega
      · rcases (s4.heap q hq).1 with y | y
        · exact hD1k (e ▸ y)
        · have : W3.heap.size ≤ q.1 := y; omega
    have hT' : ∀ b, (b ∈ st2'.heap.map (·.1) ∨ b = w.heap.size + 1 ∨ b = w.heap.size) → b < W5.heap.size ∧ ¬ F4 b ∧ (T1 b ∨ w1.heap.size ≤ b) := fun b hb => by
      rcases hb with hb | rfl | rfl
      · obtain ⟨q, hq, rfl⟩ := List.mem_map.1 hb
        exact ⟨Nat.lt_of_lt_of_le (s4.heap q hq).2.2.lt st5.size, (s4.heap q hq).2.1, hk2 q hq⟩
      · exact ⟨(Array.getElem?_eq_some_iff.1 hl5).1, hT1F _ k4, .inl k4⟩
      · exact ⟨(Array.getElem?_eq_some_iff.1 hD5).1, hT1F _ k5, .inl k5⟩
    have kall : Step T1 w1 W5 := by
      refine Step.then (Step.then (Step.then (s2.keep.mono (fun i _ h => hkH i h)) st2 (fun i hi e => e ▸ k4)) s4.keep (fun i hi hb => ?_)) st5 (fun i hi e => e ▸ k4)
      obtain ⟨q, hq, rfl⟩ := List.mem_map.1 hb
      rcases hk1 q hq with y | y
      · exact y
      · exact absurd hi (Nat.not_lt.2 y)
    have hown : ∀ b, (T1 b ∨ w1.heap.size ≤ b) → base.own b ∨ base.w.heap.size ≤ b := fun b hb => hb.elim (k7 b) (fun y => .inr (Nat.le_trans hs1.keep.size y))
    refine ⟨F4, _, hF14, hF41, hT', kall, ?_⟩
    rw [hJ]
    have hblk : ∀ b, F1 b → W5.heap[b]? = w1.heap[b]? := fun b hb => kall.block b (hlt b hb) (fun ht => (k8 b ht).2 hb)
    refine ⟨st2'.heap, hI2, ?_, hl5, hD5, fun q hq => .inl (List.mem_map.2 ⟨q, hq, rfl⟩), .inr (.inl rfl), .inr (.inr rfl), hk2n, fun b hb => hown b (hT' b hb).2.2, fun b hb => ⟨(hT' b hb).1, (hT' b hb).2.1⟩⟩
    exact {
      keep := hs1.keep.then kall (fun i hi hb => (k7 i hb).resolve_right (by omega))
      base_lt := hs1.base_lt
      sub := fun b hb => hF14 b (hs1.sub b hb)
      lt := fun b hb => ⟨(hF41 b hb).1, (hF41 b hb).2.elim (fun y => (hs1.lt b y).2) (fun y => .inr (Nat.le_trans hs1.keep.size y))⟩
      env := C.E.mono hblk hF14 hs1.env
      size := hs1.size
      slots := fun t d ht => ⟨(hs1.slots t d ht).1, (hs1.slots t d ht).2.mono hblk kall.shape hF14⟩
      heap := fun q hq => by
        obtain ⟨y1, y2, y3⟩ := s4.heap q hq
        exact ⟨hown _ (hk2 q hq), y2, y3.mono (st5.block _ y3.lt (fun e => (hk2n q hq).1 e)) (fun b hb => st5.block b (s4.lt b hb).1 (fun e => hT1F _ k4 (e ▸ hb))) st5.shape (fun _ x => x)⟩
      keys := s4.keys
      defers := hs1.defers }
  have hJ0 : J 0 W1 F (fun b => b ∈ st.heap.map (·.1) ∨ b = w.heap.size + 1 ∨ b = w.heap.size) := by
    rw [hJ]
    have hlt1 := (Array.getElem?_eq_some_iff.1 hL1).1
    refine ⟨st.heap, h0, hs.world hst1, hL1, hD1, fun q hq => .inl (List.mem_map.2 ⟨q, hq, rfl⟩), .inr (.inl rfl), .inr (.inr rfl), fun q hq => ?_, fun b hb => ?_, fun b hb => ?_⟩
    · have := (hs.heap q hq).2.2.lt
      omega
    · rcases hb with hb | rfl | rfl
      · obtain ⟨q, hq, rfl⟩ := List.mem_map.1 hb; exact (hs.heap q hq).1
      · exact .inr (by omega)
      · exact .inr (by omega)
    · rcases hb with hb | rfl | rfl
      · exact ⟨Nat.lt_of_lt_of_le (hs.keysLt hb).1 hst1.size, (hs.keysLt hb).2⟩
      · exact ⟨hlt1, hnoF _ (by omega)⟩
      · exact ⟨by omega, hnoF _ (by omega)⟩
  refine ⟨w.heap.size + 1, [{ target := .collected w.heap.size, args := #[] }], W1, { target := .fn (.func f) us, args := #[.func (.yield (w.heap.size + 1)) #[] #[]] }, W1, f, #[.func (.yield (w.heap.size + 1)) #[] #[]] ++ us, W1, ?_, ?_, fun _ _ => trivial, ?_, fun e => by simp [Fence.wide] at e, ?_⟩
  · rw [← hW1, hrec]; exact run_enterLoop_outer _ _ _ _ _
  · simp only [resolve, hv]
    simp [go_sem]
  · simp only [invoke]
    exact run_callFunc hit.1 _ _
  · refine (callsIn_wide (n := 0 - 1)).2 (Calls.mono (hit.2 (w.heap.size + 1) J W1 F _ us hKeep hRounds (hs.world hst1).env (fun b hb => ((hs.world hst1).lt b hb).1) (fun b hb => ?_) hJ0 hl (fun j x d h1 h2 => (hr j x d h1 h2).mono (fun b hb => hst1.block b (hs.lt b hb).1 (fun x => x)) hst1.shape (fun _ x => x))) ?_)
    · have := hJ0
      rw [hJ] at this
      obtain ⟨_, _, _, _, _, _, _, _, _, _, k8⟩ := this
      exact k8 b hb
    · rintro e w5 ⟨⟨v, rfl⟩, F5, T5, hj⟩
      rw [hJ] at hj
      obtain ⟨H, hI, hs1, k1, k2, k3, k4, k5, k6, k7, k8⟩ := hj
      refine ⟨none, _, (run_endLoop k1 (by rw [(hne _).2.2.2.1]; simp)).trans (by rw [(hne .ready).2.2.2.2.1]), true, _, hdone H hI, F5, w.heap.size, ?_, by rw [hs.defers, hd0]; rfl, (World.putObj_heap_other (by omega)).trans k2, (k8 _ k5).2, fun q hq => (k6 q hq).2, hbw⟩
      have e : ({ ({ a with defers := [{ target := .collected w.heap.size, args := #[] }] ++ a.defers } : Act) with defers := [] } : Act) = a := by
        show ({ tmps := a.tmps, defers := [] } : Act) = a
        rw [← hs.defers.trans hd0]
      rw [e]
      exact hs1.stepT (T := (· = w.heap.size + 1)) (Step.putObj _ k1 rfl) (fun b hF e => (k8 _ k4).2 (e ▸ hF)) (fun q hq e => (k6 q hq).1 e) (fun b e => k7 b (e ▸ k4))

/-! ### a piece that leaves the own blocks as they are -/
end
end Go.GH
namespace Go.GH
open Go Go.RowKit
/-- The operations, in whatever order may come, lead where Q says. -/
def SDraw (C : Ctx) (l : List Oper) (st : St) (Q : Exit → St → Prop) : Prop :=
  ∀ base, C.ok base → ∀ a w, Sim C.E base st a w → wpAny C.P .any l.toArray (fun e a' w' => ∃ st', Q e st' ∧ Sim C.E base st' a' w') l.toArray.size (Array.replicate l.toArray.size false) a { w with drawn := w.drawn + 1 }
theorem SDraw.code {C : Ctx} {id : Nat} {l : List Oper} {st : St} {Q : Exit → St → Prop} (hm : C.P.follows .mixedOrders = true) (h : SDraw C l st Q) : SCode C (.region id l.toArray true) st Q :=
  fun base ok a w hs => wp_region_any hm (h base ok a w hs)
theorem noDef_at {l : List Oper} : noDef l = true → ∀ {i : Nat} {o : Oper}, l[i]? = some o → (match o.op with | .defer _ => false | _ => true) = true := by
  induction l with
  | nil => intro _ i o h; simp at h
  | cons p l ih =>
    intro hd i o h
    rw [noDef, Bool.and_eq_true] at hd
    cases i with
    | zero => simp at h; subst h; exact hd.1
    | succ i => exact ih hd.2 (by simpa using h)
theorem wpAnyIn_of {P : Program} {l : List Oper} {Q : Exit → Act → World → Prop} (ro : Option Nat) (n : Nat) (hd : noDef l = true) (hQ : ∀ a w, ¬ Q .outgrown a w) : ∀ (fuel : Nat) (listed : Array Bool) (a : Act) (w : World), wpAny P .any l.toArray Q fuel listed a w → wpAnyIn (FW ro) n P .any l.toArray Q fuel listed a w
  | 0, _, _, _, h => h
  | fuel + 1, listed, a, w, h => by
    refine ⟨h.1, fun i hi => ?_⟩
    have h2 := h.2 i hi
    unfold wpOp at h2
    unfold wpOpIn
    split at h2
    · rename_i ho
      simp only [ho]
      exact wpAnyIn_of ro n hd hQ fuel _ a w h2
    · rename_i o ho
      simp only [ho]
      by_cases hw : Region.wanted o (yielded l.toArray a.tmps) = true
      · rw [if_pos hw] at h2 ⊢
        rcases h2 with h2 | ⟨_, a0, w0, h2⟩
        · refine ⟨fun _ _ => trivial, ?_⟩
          rw [Oper.semAt_eq _ _ _ (noDef_head (noDef_at hd (by simpa using ho)))]
          exact uponIn_of (fun a w h => wpAnyIn_of ro n hd hQ fuel _ a w h) _ h2
        · exact absurd h2 (hQ _ _)
      · rw [if_neg hw] at h2 ⊢
        exact ⟨fun _ _ => trivial, wpAnyIn_of ro n hd hQ fuel _ _ _ h2⟩
theorem SDraw.round {C : Ctx} {id k : Nat} {l : List Oper} {st : St} {Q : Exit → St → Prop} (hm : C.P.follows .mixedOrders = true) (h : SDraw C l st (fun e st' => e = .normal ∧ Q e st')) (hd : noDef l = true := by rfl) : SRound C k (.region id l.toArray true) st Q :=
  fun base ok a w hs => wpIn_mono (wpIn_region_any hm (wpAnyIn_of (some k) 0 hd (fun a w ⟨st', q, _⟩ => by cases q.1) _ _ _ _ (h base ok a w hs))) (fun e a' w' ⟨st', q, s⟩ => ⟨st', q.2, s⟩)
theorem SDraw.any {C : Ctx} {l : List Oper} {st : St} {Q : Exit → St → Prop} (ho : ordB l = true) (Inv : (Nat → Bool) → St → Prop) (h0 : Inv (fun _ => false) st)
    (hstep : ∀ L st i o, l[i]? = some o → L i = false → Inv L st → (∀ j, afterB o j = true → L j = true) → (∀ k o', l[k]? = some o' → afterB o' i = true → L k = false) → (∀ (k : Nat) o' j, l[k]? = some o' → L k = true → afterB o' j = true → L j = true) →
      SOps C l.toArray [o] st (fun st' => Inv (fun k => if k = i then true else L k) st'))
    (hend : ∀ L st', (∀ i, i < l.length → L i = true) → Inv L st' → ∃ s2 : St, s2.Le st' ∧ Q .normal s2) : SDraw C l st Q := by
  intro base ok a w hs
  have hord : ∀ (i : Nat) o, l[i]? = some o → ∀ e ∈ o.after.toList, Region.binds .any e = true → e.on < i := fun i o hi e he hb => by
    have h1 := List.all_eq_true.1 ho (o, i) (by rw [List.mem_iff_getElem?]; exact ⟨i, by simp [List.getElem?_zipIdx, hi]⟩)
    have h2 := Array.all_eq_true_iff_forall_mem.1 h1 e (by simpa using he)
    simp [hb] at h2
    exact h2
  have key : ∀ fuel (listed : Array Bool) a w, listed.size = l.length → (∀ (k : Nat) o j, l[k]? = some o → listed.getD k false = true → afterB o j = true → listed.getD j false = true) →
      (∃ st', Inv (fun k => listed.getD k false) st' ∧ Sim C.E base st' a w) → (listed.toList.filter (! ·)).length ≤ fuel →
      wpAny C.P .any l.toArray (fun e a' w' => ∃ st', Q e st' ∧ Sim C.E base st' a' w') fuel listed a w := by
    have hready : ∀ (listed : Array Bool), listed.size = l.length → ∀ i, i ∈ Region.ready .any l.toArray listed ↔ ∃ o, l[i]? = some o ∧ listed.getD i false = false ∧ ∀ j, afterB o j = true → listed.getD j false = true := by
      intro listed hl i
      simp only [Region.ready, List.mem_filter, List.mem_range, List.size_toArray, Bool.and_eq_true, Bool.not_eq_true', List.getElem?_toArray]
      constructor
      · rintro ⟨h1, h2, h3⟩
        rw [List.getElem?_eq_getElem h1] at h3
        refine ⟨l[i], List.getElem?_eq_getElem h1, ?_, fun j hj => ?_⟩
        · rw [← h2]; simp [Array.getD, hl, h1]
        · unfold afterB at hj
          obtain ⟨e, he, hb⟩ := List.any_eq_true.1 hj
          rw [Bool.and_eq_true] at hb
          have h4 := Array.all_eq_true_iff_forall_mem.1 (show (l[i]).after.all (fun e => !Region.binds .any e || listed.getD e.on false) = true from h3) e (by simpa using he)
          rw [hb.1] at h4
          have := Nat.eq_of_beq_eq_true hb.2
          subst this
          simpa using h4
      · rintro ⟨o, h1, h2, h3⟩
        have hlt := (List.getElem?_eq_some_iff.1 h1).1
        refine ⟨hlt, ?_, ?_⟩
        · rw [← h2]; simp [Array.getD, hl, hlt]
        · rw [h1]
          simp only [Option.map_some, Option.getD_some]
          refine Array.all_eq_true_iff_forall_mem.2 (fun e he => ?_)
          cases hb : Region.binds .any e with
          | false => rfl
          | true =>
            have := h3 e.on (List.any_eq_true.2 ⟨e, by simpa using he, by simp [hb]⟩)
            simpa using this
    have hall : ∀ (listed : Array Bool), listed.size = l.length → Region.ready .any l.toArray listed = [] → ∀ i, i < l.length → listed.getD i false = true := by
      intro listed hl hr i
      induction i using Nat.strongRecOn with
      | ind i ih =>
        intro hi
        cases hb : listed.getD i false with
        | true => rfl
        | false =>
          have : i ∈ Region.ready .any l.toArray listed := (hready listed hl i).2 ⟨l[i], List.getElem?_eq_getElem hi, hb, fun j hj => by
            unfold afterB at hj
            obtain ⟨e, he, hb⟩ := List.any_eq_true.1 hj
            rw [Bool.and_eq_true] at hb
            have h1 := Nat.eq_of_beq_eq_true hb.2
            subst h1
            have h2 := hord i _ (List.getElem?_eq_getElem hi) e (by simpa using he) hb.1
            exact ih _ h2 (by omega)⟩
          rw [hr] at this
          cases this
    intro fuel
    induction fuel with
    | zero =>
      intro listed a w hl hc ⟨st', h1, h2⟩ hf
      have hno : ∀ i, i < l.length → listed.getD i false = true := fun i hi => by
        cases hb : listed.getD i false with
        | true => rfl
        | false =>
          have hlt : i < listed.size := hl ▸ hi
          have hb' : listed[i] = false := by simpa [Array.getD, hlt] using hb
          have : (false : Bool) ∈ listed.toList.filter (! ·) := List.mem_filter.2 ⟨by rw [← hb']; simp, rfl⟩
          rw [List.eq_nil_of_length_eq_zero (Nat.le_zero.1 hf)] at this
          cases this
      refine ⟨?_, ?_⟩
      case refine_2 =>
        obtain ⟨s2, hl2, hq⟩ := hend _ st' hno h1
        obtain ⟨F', h2⟩ := h2
        exact ⟨s2, hq, F', h2.weaken hl2⟩
      cases hr : Region.ready .any l.toArray listed with
      | nil => rfl
      | cons i r =>
        obtain ⟨o, h3, h4, _⟩ := (hready listed hl i).1 (by rw [hr]; exact List.mem_cons_self ..)
        rw [hno i (List.getElem?_eq_some_iff.1 h3).1] at h4
        cases h4
    | succ fuel ih =>
      intro listed a w hl hc ⟨st', h1, h2⟩ hf
      refine ⟨fun hr => by
        obtain ⟨s2, hl2, hq⟩ := hend _ st' (hall listed hl hr) h1
        obtain ⟨F', h2⟩ := h2
        exact ⟨s2, hq, F', h2.weaken hl2⟩, fun i hi => ?_⟩
      obtain ⟨o, h3, h4, h5⟩ := (hready listed hl i).1 hi
      have hlt := (List.getElem?_eq_some_iff.1 h3).1
      have hsz : i < listed.size := hl ▸ hlt
      have hset : ∀ k, (listed.setIfInBounds i true).getD k false = if k = i then true else listed.getD k false := fun k => by
        simp only [Array.getD_eq_getD_getElem?, Array.getElem?_setIfInBounds]
        by_cases hki : k = i
        · subst hki; simp [hsz]
        · rw [if_neg (fun e => hki e.symm), if_neg hki]
      unfold wpOp
      simp only [List.getElem?_toArray, h3]
      refine SOps.one (hstep _ st' i o h3 h4 h1 h5 (fun k o' hk hka => ?_) hc) ok h2 (fun st2 a2 w2 r s => ih _ a2 w2 (by simpa using hl) (fun k o' j hk hkl hka => ?_) ⟨st2, by simpa only [hset] using r, s⟩ ?_)
      · cases hb : listed.getD k false with
        | false => rfl
        | true =>
          have := hc k o' i hk hb hka
          rw [h4] at this
          cases this
      · rw [hset] at hkl ⊢
        by_cases hji : j = i
        · rw [if_pos hji]
        · rw [if_neg hji]
          by_cases hki : k = i
          · subst hki
            rw [h3] at hk
            obtain rfl := Option.some.inj hk
            exact h5 j hka
          · rw [if_neg hki] at hkl
            exact hc k o' j hk hkl hka
      · have hb' : listed[i] = false := by simpa [Array.getD, hsz] using h4
        have e1 : listed.toList = listed.toList.take i ++ false :: listed.toList.drop (i + 1) := by
          rw [← hb']
          have : listed[i] = listed.toList[i]'(by simpa using hsz) := by simp
          rw [this, List.getElem_cons_drop, List.take_append_drop]
        have e2 : (listed.setIfInBounds i true).toList = listed.toList.take i ++ true :: listed.toList.drop (i + 1) := by
          rw [Array.toList_setIfInBounds, List.set_eq_take_append_cons_drop, if_pos (by simpa using hsz)]
        rw [e1] at hf
        rw [e2]
        simp only [List.filter_append, List.filter_cons, List.length_append] at hf ⊢
        simp at hf ⊢
        omega
  have hs' : Sim C.E base st a { w with drawn := w.drawn + 1 } := by
    obtain ⟨F, hs⟩ := hs
    exact ⟨F, hs.world (Step.drew _ w)⟩
  refine key l.toArray.size _ a _ (by simp) (fun k o j _ hk => ?_) ⟨st, ?_, hs'⟩ ?_
  · simp [Array.getD_eq_getD_getElem?, Array.getElem?_replicate] at hk
    split at hk <;> simp at hk
  · have : (fun k => (Array.replicate l.toArray.size false).getD k false) = fun _ => false := by
      funext k
      simp [Array.getD_eq_getD_getElem?, Array.getElem?_replicate]
      split <;> rfl
    rw [this]
    exact h0
  · simp

theorem SDraw.gen {C : Ctx} {l : List Oper} {n : Nat} {s : List (Nat × DV)} {H : DHeap} {Q : Exit → St → Prop} {D : List (Ids → ORes)} (f : Nat) (ts : List (Option Nat)) (srcs : List (List (Nat ⊕ Nat))) (cls : List (Option (Nat × Nat))) (Ss : List (List Nat)) (base : DHeap) (xs : List Chn)
    (hB : genB l ts srcs (xs.map (·.T)) cls Ss f = true) (hH : ∀ b, (base ++ (xs.map (fun x => x.X b 0)).flatten).Perm H)
    (hops : GOk C l.toArray n base s xs [] l srcs cls Ss D) (hts : ∀ b, D.map (fun r => (r b).map (·.1)) = ts)
    (hQ : ∀ b, Q .normal ⟨n, resO (D.map (fun r => r b)) ++ s, base ++ (xs.map (fun x => x.X b x.T.length)).flatten⟩) : SDraw C l ⟨n, s, H⟩ Q := by
  obtain ⟨hDl, hS⟩ := hops.dep
  have hX : ∀ x ∈ xs, ∀ b b', (∀ k ∈ x.T, b k = b' k) → ∀ c, x.X b c = x.X b' c := fun x _ b b' h c => by unfold Chn.X; rw [List.map_congr_left h]
  simp only [genB, Bool.and_eq_true, List.all_eq_true] at hB
  obtain ⟨⟨⟨⟨⟨hord, hdist⟩, hTs⟩, hsrc⟩, hcls⟩, hSs⟩ := hB
  have hdB : ∀ b, distO ((D.map (fun r => r b)).map (fun x => x.map (·.1))) = true := fun b => by
    have := hts b
    rw [List.map_map, show ((fun x : ORes => x.map (·.1)) ∘ fun r : Ids → ORes => r b) = (fun r => (r b).map (·.1)) from rfl, this]; exact hdist
  have hlen : ∀ i o, l[i]? = some o → ∃ r, D[i]? = some r := fun i o hi => by
    obtain ⟨_, _, r, _, _, _, h, _⟩ := hops.at i o hi
    exact ⟨r, h⟩
  have hT : ∀ x ∈ xs, x.T.Nodup ∧ (∀ y ∈ x.T, y < l.length) ∧ ∀ (j : Nat) u v, x.T[j]? = some u → x.T[j + 1]? = some v → u ∈ reqF l f v := fun x hx => by
    have := hTs x.T (List.mem_map.2 ⟨x, hx, rfl⟩)
    obtain ⟨⟨h1, h2⟩, h3⟩ := this
    refine ⟨distB_spec _ h1, fun y hy => by simpa using h2 y hy, fun j u v hu hv => ?_⟩
    have := h3 (u, v) (by
      rw [List.mem_iff_getElem?]
      refine ⟨j, ?_⟩
      rw [List.getElem?_zip_eq_some]
      exact ⟨hu, by rw [List.getElem?_drop, Nat.add_comm]; exact hv⟩)
    exact memB_iff.1 this
  refine SDraw.any hord (fun L st' => ∃ b, (⟨n, pickO L 0 (D.map (fun r => r b)) s, base ++ chnH L b xs⟩ : St).Le st') ?_ ?_ ?_
  · refine ⟨fun _ => 0, ?_⟩
    rw [pickO_false]
    refine ⟨rfl, fun t d h => .inl h, H, ?_, .refl _⟩
    have e : chnH (fun _ => false) (fun _ => 0) xs = (xs.map (fun x => x.X (fun _ => 0) 0)).flatten := by
      unfold chnH Chn.at
      congr 1
      refine List.map_congr_left (fun x _ => ?_)
      rw [show cntL (fun _ => false) x.T = 0 by simp [cntL]]
    show (base ++ chnH (fun _ => false) (fun _ => 0) xs).Perm H
    rw [e]; exact hH _
  · intro L st' i o hi hLi hinv haft hbef hcl
    obtain ⟨b, hle⟩ := hinv
    have hil := (List.getElem?_eq_some_iff.1 hi).1
    obtain ⟨ss, cl, r, nd, h1, h2, h3, h4, h5, h6⟩ := hops.at i o hi
    have hreq : ∀ x ∈ reqF l f i, L x = true := fun x hx => by
      cases f with
      | zero => simp [reqF] at hx
      | succ f =>
        simp only [reqF, hi] at hx
        rcases List.mem_append.1 hx with hx | hx
        · exact haft x (by simpa using (List.mem_filter.1 hx).2)
        · obtain ⟨js, hjs, hjx⟩ := List.mem_flatten.1 hx
          obtain ⟨y, hy, rfl⟩ := List.mem_map.1 hjs
          exact reqF_spec hcl f y (haft y (by simpa using (List.mem_filter.1 hy).2)) x hjx
    refine SOps.weaken hle ?_
    have hneed : ∀ t d, getL (nd b) t = some d → getL (pickO L 0 (D.map (fun r => r b)) s) t = some d := by
      have hn := h4 b
      simp only [List.reverse_nil, List.nil_append] at hn
      have hchk := hsrc (o, i) (by rw [List.mem_iff_getElem?]; exact ⟨i, by simp [List.getElem?_zipIdx, hi]⟩)
      simp only [h1, List.all_eq_true] at hchk
      rw [← hn]
      have key : ∀ (ss : List (Nat ⊕ Nat)), (∀ x ∈ ss, srcO l ts i o x = true) → ∀ t d, getL (needO (D.map (fun r => r b)) s ss) t = some d → getL (pickO L 0 (D.map (fun r => r b)) s) t = some d := by
        intro ss
        induction ss with
        | nil => intro _ t d h; simp [needO, getL] at h
        | cons x ss ih =>
          intro hx t d h
          have ih' := ih (fun y hy => hx y (List.mem_cons_of_mem _ hy)) t d
          have hx0 := hx x (List.mem_cons_self ..)
          cases x with
          | inl j =>
            simp only [srcO] at hx0
            simp only [needO] at h
            split at h
            · rename_i q hq
              rw [getL_cons] at h
              split at h
              · rename_i e
                subst e
                obtain rfl := Option.some.inj h
                exact pickO_some _ 0 j s q (hdB b) hq (by simpa using haft j hx0)
              · exact ih' h
            · exact ih' h
          | inr u =>
            simp only [srcO, List.all_eq_true] at hx0
            simp only [needO] at h
            split at h
            · rename_i q hq
              rw [getL_cons] at h
              split at h
              · rename_i e
                simp only at e
                subst e
                obtain rfl := Option.some.inj h
                rw [pickO_none _ 0 s (fun k p hk hp => ?_)]
                · exact hq
                · have h4 := hx0 (some p.1, k) (by
                    rw [List.mem_iff_getElem?]
                    refine ⟨k, ?_⟩
                    rw [← hts b, List.getElem?_zipIdx]
                    simp only [List.getElem?_map] at hk ⊢
                    cases hD : D[k]? with
                    | none => rw [hD] at hk; simp at hk
                    | some rr => rw [hD] at hk; simp at hk; simp [hk])
                  simp only [hp, BEq.rfl, Bool.not_true, Bool.false_or, Bool.or_eq_true] at h4
                  rw [Nat.zero_add]
                  rcases h4 with h4 | h4
                  · rw [Nat.eq_of_beq_eq_true h4]; exact hLi
                  · unfold nthB at h4
                    split at h4
                    · rename_i o' ho'
                      exact hbef k o' ho' h4
                    · cases h4
              · exact ih' h
            · exact ih' h
      exact key ss hchk
    have hnl : ∀ t, getL (nd b ++ pickO L 0 (D.map (fun r => r b)) s) t = getL (pickO L 0 (D.map (fun r => r b)) s) t := by
      intro t
      have : ∀ (nd : List (Nat × DV)), (∀ d, getL nd t = some d → getL (pickO L 0 (D.map (fun r => r b)) s) t = some d) → getL (nd ++ pickO L 0 (D.map (fun r => r b)) s) t = getL (pickO L 0 (D.map (fun r => r b)) s) t := by
        intro nd
        induction nd with
        | nil => intro _; rfl
        | cons q nd ih =>
          intro h
          rw [List.cons_append, getL_cons]
          split
          · rename_i e
            exact (h q.2 (by rw [getL_cons, if_pos e])).symm
          · rename_i e
            exact ih (fun d hd => h d (by rw [getL_cons, if_neg e]; exact hd))
      exact this (nd b) (hneed t)
    have hDi : ∀ b, (D.map (fun r => r b))[i]? = some (r b) := fun b => by simp [h3]
    -- what is known of the slots behind the operation
    have hslots : ∀ b', (∀ k, k ≠ i → b' k = b k) → ∀ t d, getL (pickO (fun k => if k = i then true else L k) 0 (D.map (fun r => r b')) s) t = some d → getL ((r b').toList ++ (nd b ++ pickO L 0 (D.map (fun r => r b)) s)) t = some d := by
      intro b' hb' t d ht
      have hcase : (∃ p, r b' = some p ∧ p.1 = t) ∨ (∀ p, r b' = some p → p.1 ≠ t) := by
        cases hr : r b' with
        | none => exact .inr (fun p h => by cases h)
        | some p =>
          by_cases e : p.1 = t
          · exact .inl ⟨p, rfl, e⟩
          · exact .inr (fun q h => by cases h; exact e)
      rcases hcase with ⟨p, hp, e⟩ | hne
      · subst e
        rw [hp]
        simp only [Option.toList_some, List.singleton_append]
        rw [getL_cons, if_pos rfl]
        rw [pickO_some _ 0 i s p (hdB b') (by rw [hDi, hp]) (by simp)] at ht
        exact ht
      · have e1 : getL ((r b').toList ++ (nd b ++ pickO L 0 (D.map (fun r => r b)) s)) t = getL (nd b ++ pickO L 0 (D.map (fun r => r b)) s) t := by
          cases hr : r b' with
          | none => rfl
          | some p => simp only [Option.toList_some, List.singleton_append]; rw [getL_cons, if_neg (hne p hr)]
        rw [e1, hnl, ← ht]
        refine pickO_set _ _ 0 (by simp) (fun k hk hLk => ?_) (fun k p hk hki => ?_) (fun k p hk hki => ?_)
        · rw [Nat.zero_add] at hk hLk
          simp only [List.getElem?_map]
          cases hDk : D[k]? with
          | none => rfl
          | some rr =>
            simp only [Option.map_some]
            congr 1
            have hkl : k < l.length := by
              rcases Nat.lt_or_ge k l.length with h | h
              · exact h
              · exfalso
                have hlt := (List.getElem?_eq_some_iff.1 hDk).1
                omega
            have hSk := hSs (l[k], k) (by rw [List.mem_iff_getElem?]; exact ⟨k, by simp [List.getElem?_zipIdx, hkl]⟩)
            cases hS' : Ss[k]? with
            | none => rw [hS'] at hSk; cases hSk
            | some S =>
              rw [hS'] at hSk
              simp only [List.all_eq_true, Bool.or_eq_true] at hSk
              refine hS k rr S hDk hS' b' b (fun u hu => hb' u (fun e => ?_))
              subst e
              rcases hSk u hu with h7 | h7
              · exact hk (Nat.eq_of_beq_eq_true h7).symm
              · rw [hcl k _ u (List.getElem?_eq_getElem hkl) hLk h7] at hLi; cases hLi
        · have : k = i := by omega
          subst this
          rw [hDi] at hk
          exact hne p (Option.some.inj hk)
        · have : k = i := by omega
          subst this
          have hb1 := hts b
          have hb2 := hts b'
          have := congrArg (fun x => x[k]?) (hb1.trans hb2.symm)
          simp only [List.getElem?_map, h3, Option.map_some, Option.some.injEq] at this
          rw [hDi] at hk
          rw [Option.some.inj hk] at this
          simp only [Option.map_some] at this
          obtain ⟨q, hq, e⟩ := Option.map_eq_some_iff.1 this.symm
          rw [← e]
          exact hne q hq
    have hci := hcls i (List.mem_range.2 hil)
    rw [h2] at hci
    cases cl with
    | none =>
      simp only [List.all_eq_true] at hci
      have hsame : ∀ x ∈ xs, Chn.at (fun k => if k = i then true else L k) b x = Chn.at L b x := fun x hx => by
        unfold Chn.at
        rw [cnt_set hLi x.T (hT x hx).1]
        have := hci x.T (List.mem_map.2 ⟨x, hx, rfl⟩)
        rw [if_neg (fun hm => by rw [memB_iff.2 hm] at this; cases this), Nat.add_zero]
      refine SOps.weaken (st' := ⟨n, nd b ++ pickO L 0 (D.map (fun r => r b)) s, base ++ chnH L b xs⟩) ⟨rfl, fun t d ht => .inl ((hnl t).symm.trans ht), _, .refl _, .refl _⟩ ((h5 rfl b (pickO L 0 (D.map (fun r => r b)) s) (chnH L b xs)).mono ?_)
      rintro st2 rfl
      exact ⟨b, rfl, fun t d ht => .inl (hslots b (fun _ _ => rfl) t d ht), _, by rw [chnH_congr hsame], .refl _⟩
    | some mc =>
      obtain ⟨m, c⟩ := mc
      obtain ⟨x, hx, hc, hstep⟩ := h6 m c rfl
      simp only [List.length_nil, Nat.zero_add] at hc hstep
      simp only [List.all_eq_true] at hci
      have hxm := List.mem_of_getElem? hx
      obtain ⟨t1, t2, t3⟩ := hT x hxm
      have hpre := cnt_prefix (L := L) x.T (fun j u v hu hv hLv => reqF_spec hcl f v hLv u (t3 j u v hu hv))
      have hcnt : cntL L x.T = c := by
        have h7 := hpre c i hc
        have h8 : ¬ c < cntL L x.T := fun h => by rw [h7.2 h] at hLi; cases hLi
        rcases Nat.eq_zero_or_pos c with h0 | h0
        · omega
        · have hlt := (List.getElem?_eq_some_iff.1 hc).1
          have h9 := t3 (c - 1) _ i (List.getElem?_eq_getElem (by omega)) (by rw [show c - 1 + 1 = c by omega]; exact hc)
          have := (hpre (c - 1) _ (List.getElem?_eq_getElem (by omega))).1 (hreq _ h9)
          omega
      have hmem : i ∈ x.T := List.mem_of_getElem? hc
      have hnot : ∀ j y, j ≠ m → xs[j]? = some y → i ∉ y.T := fun j y hj hy hm => by
        have := hci (y.T, j) (by
          rw [List.mem_iff_getElem?]
          exact ⟨j, by rw [List.getElem?_zipIdx, List.getElem?_map, hy]; simp⟩)
        simp only [Bool.or_eq_true] at this
        rcases this with h | h
        · exact hj (Nat.eq_of_beq_eq_true h)
        · rw [memB_iff.2 hm] at h; cases h
      have hat : Chn.at L b x = x.X b c := by unfold Chn.at; rw [hcnt]
      have hp := chnH_out (L := L) (b := b) hx
      rw [hat] at hp
      refine SOps.weaken (st' := ⟨n, nd b ++ pickO L 0 (D.map (fun r => r b)) s, base ++ (x.X b c ++ chnH L b (xs.eraseIdx m))⟩) ⟨rfl, fun t d ht => .inl ((hnl t).symm.trans ht), _, List.Perm.append_left _ hp.symm, .refl _⟩ ((hstep b (pickO L 0 (D.map (fun r => r b)) s) (chnH L b (xs.eraseIdx m))).mono ?_)
      rintro st2 ⟨b', hb', hle2⟩
      refine ⟨b', hle2.n, fun t d ht => ?_, ?_⟩
      · exact hle2.slots t d (hslots b' hb' t d ht)
      · obtain ⟨l2, p1, p2⟩ := hle2.heap
        refine ⟨l2, ?_, p2⟩
        refine List.Perm.trans ?_ p1
        have hp' := chnH_out (L := fun k => if k = i then true else L k) (b := b') hx
        have hat' : Chn.at (fun k => if k = i then true else L k) b' x = x.X b' (c + 1) := by
          unfold Chn.at
          rw [cnt_set hLi x.T t1, if_pos hmem, hcnt]
        have hrest : chnH (fun k => if k = i then true else L k) b' (xs.eraseIdx m) = chnH L b (xs.eraseIdx m) := chnH_congr (fun y hy => by
          obtain ⟨j, hj, hyj⟩ := mem_eraseIdx_ne hy
          have hni := hnot j y hj hyj
          have hym := List.mem_of_getElem? hyj
          unfold Chn.at
          rw [cnt_set hLi y.T (hT y hym).1, if_neg hni, Nat.add_zero]
          exact hX y hym b' b (fun k hk => hb' k (fun e => hni (e ▸ hk))) _)
        rw [hat', hrest] at hp'
        exact List.Perm.append_left _ hp'
  · intro L st' hall hinv
    obtain ⟨b, hle⟩ := hinv
    have e : chnH L b xs = (xs.map (fun x => x.X b x.T.length)).flatten := by
      unfold chnH Chn.at
      congr 1
      refine List.map_congr_left (fun x hx => ?_)
      have : cntL L x.T = x.T.length := by
        unfold cntL
        rw [List.filter_eq_self.2 (fun y hy => hall y ((hT x hx).2.1 y hy))]
      rw [this]
    rw [pickO_all _ 0 (fun k _ hk => hall k (by simp at hk; omega)), e] at hle
    exact ⟨_, hle, hQ b⟩
theorem SRound.drawG {C : Ctx} {id k : Nat} {l : List Oper} {n : Nat} {s : List (Nat × DV)} {H : DHeap} {Q : Exit → St → Prop} {D : List (Ids → ORes)} (f : Nat) (ts : List (Option Nat)) (srcs : List (List (Nat ⊕ Nat))) (Ts : List (List Nat)) (cls : List (Option (Nat × Nat))) (Ss : List (List Nat)) (base : DHeap) (xs : List Chn) (hm : C.P.follows .mixedOrders = true)
    (hB : genB l ts srcs Ts cls Ss f = true) (hT : xs.map (·.T) = Ts) (hH : ∀ b, (base ++ (xs.map (fun x => x.X b 0)).flatten).Perm H)
    (hops : GOk C l.toArray n base s xs [] l srcs cls Ss D) (hts : ∀ b, D.map (fun r => (r b).map (·.1)) = ts)
    (hQ : ∀ b, Q .normal ⟨n, resO (D.map (fun r => r b)) ++ s, base ++ (xs.map (fun x => x.X b x.T.length)).flatten⟩) (hd : noDef l = true := by rfl) : SRound C k (.region id l.toArray true) ⟨n, s, H⟩ Q :=
  SDraw.round hm (SDraw.gen f ts srcs cls Ss base xs (by rw [hT]; exact hB) hH hops hts (fun b => ⟨rfl, hQ b⟩)) hd
end Go.GH
namespace Go.GH
open Go Go.RowKit
section
variable {C : Ctx} {E : Env} {base : Base} {F : Nat → Prop} {st : St} {a : Act} {w : World} {ops : Array Oper} {rest : List Oper} {R : St → Prop}
  {t : Tmp} {ty : TypeId} {pos : String} {aft : Array Edge} {g : Option (Nat × Bool)}
theorem run_bounds3 {P : Program} (hs : SimF E base F st a w) {lo hi mx : Operand} {len cap l h m : Nat} {k1 k2 k3 : IntKind} (b : Bool) (hl : st.val lo = some (.v (.int k1 (l : Int)))) (hh : st.val hi = some (.v (.int k2 (h : Int)))) (hm : st.val mx = some (.v (.int k3 (m : Int)))) (h1 : l ≤ h) (h2 : h ≤ m) (h3 : m ≤ cap) :
    (Instr.sliceBounds b len cap (some (a.eval lo)) (some (a.eval hi)) (some (a.eval mx))).run P w = .ok (l, h, m) w := by
  have key : ∀ (k : IntKind) (n y : Nat) (c : BoundsCode), n ≤ y → (Instr.sliceBound (.int k (n : Int)) y c).run P w = .ok n w := fun k n y c hn => by
    simp [Instr.sliceBound, asIntOf, hn]
  simp [Instr.sliceBounds, (hs.val hl).inv_v.1, (hs.val hh).inv_v.1, (hs.val hm).inv_v.1, key _ _ _ _ h1, key _ _ _ _ h2, key _ _ _ _ h3]
theorem exec_slice3 (a : Act) (T : TypeId) (xo lo hi mx : Operand) : execOp a.eval ⟨some t, .slice T xo (some lo) (some hi) (some mx), ty, pos, aft, g⟩ = (do pure (.value (← Instr.sliceAt T (a.eval xo) (some (a.eval lo)) (some (a.eval hi)) (some (a.eval mx))))) := rfl
theorem SOps.sliceIsl3 {T e sz : Nat} {xo lo hi mx : Operand} {nn : Bool} {es : List (List DV)} {k1 k2 k3 : IntKind} (l h m : Nat) (hT : sliceB C.P T e sz = true) (hx : st.val xo = some (.isl nn sz es)) (hl : st.val lo = some (.v (.int k1 (l : Int)))) (hh : st.val hi = some (.v (.int k2 (h : Int)))) (hm : st.val mx = some (.v (.int k3 (m : Int)))) (h1 : l ≤ h) (h2 : h ≤ m) (h3 : m ≤ es.length)
    (hrest : SOps C ops rest (st.put t (.isl nn sz ((es.drop l).take (h - l)))) R)
    (hg : st.wants ops g = some true := by rfl) (ht : Nat.blt t st.n = true := by rfl) : SOps C ops (⟨some t, .slice T xo (some lo) (some hi) (some mx), ty, pos, aft, g⟩ :: rest) st R :=
  SOps.val rfl hg ht (fun base a w F hs => by
    have h4 := hs.val hx
    generalize hv : a.eval xo = v at h4
    obtain ⟨hu, i, hi', hsz'⟩ := sliceB_spec hT
    cases h4 with
    | @isl A len cap nn sz es b o xs hlen hcap hB hnn hA hsz hc hr =>
      have hb := run_bounds3 (P := C.P) (len := len) hs true hl hh hm h1 h2 (show m ≤ cap by omega)
      have hget : ∀ (i : Nat) e, ((es.drop l).take (h - l))[i]? = some e → i < h - l ∧ es[l + i]? = some e := fun i e he => by
        rw [List.getElem?_take] at he
        split at he
        · rename_i hlt; rw [List.getElem?_drop] at he; exact ⟨hlt, he⟩
        · cases he
      refine ⟨.slice (if m = l then A else A.map (·.add (l * sz))) (h - l) (m - l), ?_, .isl (b := b) (o := o + l * sz) (fun i j => xs (l + i) j) (by simp; omega) (by omega) (by simp; omega) (fun hn => ?_) (fun hne => ?_) (fun i e he => hsz _ e (hget i e he).2) (fun i e j d he hj => ?_) (fun i e j d he hj => hr _ e j d (hget i e he).2 hj)⟩
      · rw [exec_slice3, hv]
        simp only [Instr.sliceAt, Instr.slice, Sem.run_bind, run_underlying hu, Result.andThen_ok, hb, sizeOf, typeInfo, run_program, hi', Sem.run_pure, hsz']
      · split
        · exact hnn hn
        · intro e; exact hnn hn (Option.map_eq_none_iff.1 e)
      · have hlh : l < h := by
          rcases Nat.lt_or_ge l h with h' | h'
          · exact h'
          · exact absurd (List.eq_nil_of_length_eq_zero (by simp; omega)) hne
        have hes : es ≠ [] := by intro e; simp [e] at h3; omega
        obtain ⟨rfl, hF⟩ := hA hes
        rw [if_neg (by omega)]
        exact ⟨by simp [add_plain'], hF⟩
      · have := hc _ e j d (hget i e he).2 hj
        rw [Nat.add_mul, Nat.add_assoc] at this
        rw [Nat.add_assoc]
        exact this) hrest
theorem SOps.sliceM3 {α : Type} {T e sz : Nat} {xo lo hi mx : Operand} {nn : Bool} {f : α → List DV} {xs : List α} {k1 k2 k3 : IntKind} {zl zh zm : Int} (l h m : Nat) (hT : sliceB C.P T e sz = true) (hx : st.val xo = some (.isl nn sz (xs.map f))) (hl : st.val lo = some (.v (.int k1 zl))) (el : zl = (l : Int)) (hh : st.val hi = some (.v (.int k2 zh))) (eh : zh = (h : Int)) (hm : st.val mx = some (.v (.int k3 zm))) (em : zm = (m : Int)) (h1 : l ≤ h) (h2 : h ≤ m) (h3 : m ≤ xs.length)
    (hrest : SOps C ops rest (st.put t (.isl nn sz (((xs.drop l).take (h - l)).map f))) R)
    (hg : st.wants ops g = some true := by rfl) (ht : Nat.blt t st.n = true := by rfl) : SOps C ops (⟨some t, .slice T xo (some lo) (some hi) (some mx), ty, pos, aft, g⟩ :: rest) st R := by
  subst el; subst eh; subst em
  exact SOps.sliceIsl3 l h m hT hx hl hh hm h1 h2 (by rw [List.length_map]; exact h3) (by rw [← List.map_drop, ← List.map_take]; exact hrest) hg ht
end
end Go.GH
namespace Go.GH
open Go Go.Proofs
variable {E : Env}
theorem elemB_22_1_24 : elemB Tryz.prog 22 1 24 = true := by kernel_rfl
theorem flatB_73 : flatB Tryz.prog 73 = true := by kernel_rfl
theorem oneB_73 : oneB Tryz.prog 73 = true := by kernel_rfl
theorem zeroIs_22 : zeroIs Tryz.prog 22 (.slice none 0 0) := by unfold zeroIs; kernel_rfl
theorem zeroIs_73 : zeroIs Tryz.prog 73 (.slice none 0 0) := by unfold zeroIs; kernel_rfl
/-- How many pieces. -/
def chN (k n : Nat) : Nat := (k + n - 1) / n
def chI {α : Type} (l : List α) (n i : Nat) : List α := (l.drop (i * n)).take n
def chL {α : Type} (l : List α) (n : Nat) : List (List α) := (List.range (chN l.length n)).map (chI l n)
theorem chN_lt {k n i : Nat} (hn : 1 ≤ n) : i < chN k n ↔ i * n < k := by
  unfold chN
  rw [Nat.lt_iff_add_one_le, Nat.le_div_iff_mul_le (by omega), Nat.succ_mul]
  omega
theorem chL_len {α : Type} (l : List α) (n : Nat) : (chL l n).length = chN l.length n := by simp [chL]
theorem chL_get {α : Type} {l : List α} {n i : Nat} (hn : 1 ≤ n) (h : i * n < l.length) : (chL l n)[i]? = some (chI l n i) := by
  unfold chL
  rw [List.getElem?_map, List.getElem?_range ((chN_lt hn).2 h)]
  rfl
def chD (l : List ByteArray) (n : Nat) : List DV := (chL l n).map (fun x => DStrs x)
theorem chD_get {l : List ByteArray} {n i m : Nat} (hn : 1 ≤ n) (h : i * n < l.length) (hm : (l.drop (i * n)).take m = chI l n i) : (chD l n)[i]? = some (DStrs ((l.drop (i * n)).take m)) := by
  unfold chD
  rw [List.getElem?_map, chL_get hn h, hm]
  rfl
theorem chI_min {α : Type} (l : List α) (n i : Nat) : (l.drop (i * n)).take (min n (l.length - i * n)) = chI l n i := by
  unfold chI
  rw [List.take_eq_take_iff, List.length_drop]
  omega
theorem cChunk (l : List ByteArray) (n : Nat) (hn : 1 ≤ n) : GCall Tryz.prog E 76 [DStrs l, .v (.int .i64 (n : Int))] [] (fun d H => d = .fn 111 [.ipin [DStrs l], .ipin [.v (.int .i64 (n : Int))]] ∧ H = []) := by
 refine GCall.body (C := ⟨Tryz.prog, E, true⟩) Tryz.func76 rfl (fun _ => rfl) (by kernel_rfl) rfl ?_
 refine SCode.seqR (SOps.boxF rfl rfl rfl (SOps.boxF rfl rfl rfl (SOps.assign rfl (SOps.nil (SCode.seq (SCode.seqR (SOps.loadPin rfl flatB_3 (SOps.bin rfl rfl rfl (SOps.nil ?_)))))))))
 refine SCode.cond rfl (fun hc1 => ?_) (fun hc1 => ?_)
 ·try simp only [nmL] at hc1
  refine SCode.region ?_
  exfalso
  omega
 ·try simp only [nmL] at hc1
  refine SCode.skip ?_
  show SCode _ _ _ _
  refine SCode.seqR (SOps.makeFunc rfl (SOps.assign rfl (SOps.nil (SCode.ret ?_))))
  exact ⟨_, Res.one (.tmp rfl), rfl, rfl⟩
theorem iChunk (l : List ByteArray) (n : Nat) (hn : 1 ≤ n) (hn2 : n ≤ 1048576) (hl : l.length ≤ 1048576) : GIter Tryz.prog E 111 [.ipin [DStrs l], .ipin [.v (.int .i64 (n : Int))]] (chD l n) := by
  refine GIter.body (C := ⟨Tryz.prog, E, true⟩) Tryz.func111 rfl (by kernel_rfl) rfl rfl (fun l9 J hK hY => ?_)
  refine SYCode.seqR (SYOps.one hK (SOps.assign rfl (SOps.nil rfl)) rfl rfl (SYOps.nil (SYCode.block (SYCode.loop1 (ι := fun i => i) (hx := by rfl) (fun (i : Nat) => (⟨31, [(0, .v (.func (.yield l9) #[] #[])), (1, .ipin [DStrs l]), (2, .ipin [.v (.int .i64 (n : Int))]), (4, .v (.int .i64 ((i * n : Nat) : Int)))], []⟩ : St)) (fun (i : Nat) => i ≤ chN l.length n) (fun (i : Nat) => l.length - i * n) (0) (by exact Nat.zero_le _) (St.Le.of ⟨(by first | rfl | (show some _ = some _; simp)), (by first | rfl | (show some _ = some _; simp)), (by first | rfl | (show some _ = some _; simp)), (by first | rfl | (show some _ = some _; simp)), trivial⟩ rfl (by first | rfl | (simp))) ?_))))
  rintro i hi
  refine SYCode.seq (SYCode.seqR (SYOps.one hK (SOps.move rfl (SOps.nil rfl)) rfl rfl (SYOps.one hK (SOps.loadPin rfl flatB_22 (SOps.nil rfl)) rfl rfl (SYOps.one hK (SOps.lenM rfl sliceB_22_9_1 (SOps.nil rfl)) rfl rfl (SYOps.one hK (SOps.bin rfl rfl rfl (SOps.nil rfl)) rfl rfl (SYOps.nil ?_))))))
  refine SYCode.cond rfl (fun hc1 => ?_) (fun hc1 => ?_)
  · try simp only [nmL] at hc1
    refine SYCode.skip ?_
    show SYCode _ _ _ _ _ _
    refine SYCode.seq (SYCode.block (SYCode.seq ?_))
    have hlt : i * n < l.length := by omega
    have hsm : (i + 1) * n = i * n + n := Nat.succ_mul _ _
    have hov : i * n = 0 ∨ n ≤ i * n := by rcases Nat.eq_zero_or_pos i with h | h; exact .inl (by rw [h, Nat.zero_mul]); exact .inr (Nat.le_mul_of_pos_left _ h)
    have hsc : ((i * n : Nat) : Int) = (i : Int) * (n : Int) := Int.natCast_mul _ _
    refine SYCode.of hK rfl ?_
    apply SCode.drawAuto mixed_ [13, 14, 15, 16, 17, 18, 5] [[.inr 2], [.inr 1], [.inr 4], [.inl 1, .inl 2], [.inl 3], [.inl 0, .inl 4], [.inl 5]]
    · kernel_rfl
    · kernel_rfl
    · apply DOk.cons 13 
      · rfl
      · exact (NeedIs.inr _ rfl NeedIs.nil)
      · intro rest
        refine SOps.loadPin rfl flatB_3 ?_
        exact SOps.nil rfl
      apply DOk.cons 14 
      · rfl
      · exact (NeedIs.inr _ rfl NeedIs.nil)
      · intro rest
        refine SOps.loadPin rfl flatB_22 ?_
        exact SOps.nil rfl
      apply DOk.cons 15 
      · rfl
      · exact (NeedIs.inr _ rfl NeedIs.nil)
      · intro rest
        refine SOps.move rfl ?_
        exact SOps.nil rfl
      apply DOk.cons 16 
      · rfl
      · exact (NeedIs.inl 1 _ _ rfl rfl (NeedIs.inl 0 _ _ rfl rfl NeedIs.nil))
      · intro rest
        refine SOps.sliceD (n1 := 0) (i * n) sliceB_22_9_1 rfl rfl (by first | omega | (simp only [lenB]; omega) | (simp only [List.length_map, lenB]; omega) | (simp; done)) (by first | omega | (simp only [lenB]; omega) | (simp only [List.length_map, lenB]; omega) | (simp; done)) ?_
        exact SOps.nil rfl
      apply DOk.cons 17 
      · rfl
      · exact (NeedIs.inl 0 _ _ rfl rfl NeedIs.nil)
      · intro rest
        refine SOps.lenM rfl sliceB_22_9_1 ?_
        exact SOps.nil rfl
      apply DOk.cons 18 
      · rfl
      · exact (NeedIs.inl 4 _ _ rfl rfl (NeedIs.inl 0 _ _ rfl rfl NeedIs.nil))
      · intro rest
        refine SOps.minI rfl rfl (by split <;> exact has_i64 (by first | omega | (simp only [lenB]; omega) | (simp only [List.length_map, lenB]; omega) | (simp; done)) (by first | omega | (simp only [lenB]; omega) | (simp only [List.length_map, lenB]; omega) | (simp; done))) ?_
        exact SOps.nil rfl
      apply DOk.cons 5 
      · rfl
      · exact (NeedIs.inl 0 _ _ rfl rfl NeedIs.nil)
      · intro rest
        refine SOps.assign rfl ?_
        exact SOps.nil rfl
      exact DOk.nil
    · rfl
    · show SYCode _ _ _ _ _ _
      refine SYCode.seqR ?_
      refine SYOps.relab (t := 5) (d' := .v (.int .i64 ((min n (l.length - i * n) : Nat) : Int))) rfl (fun w F v hv => by refine Eq.mp (congrArg (fun z => Rep w F v (DV.v (Value.int .i64 z))) ?_) hv; simp only [lenB, List.length_drop, List.length_map]; split <;> omega) ?_
      refine SYOps.one hK (SOps.move rfl (SOps.nil rfl)) rfl rfl (SYOps.one hK (SOps.loadPin rfl flatB_22 (SOps.nil rfl)) rfl rfl (SYOps.one hK (SOps.move rfl (SOps.nil rfl)) rfl rfl (SYOps.one hK (SOps.move rfl (SOps.nil rfl)) rfl rfl (SYOps.one hK (SOps.move rfl (SOps.nil rfl)) rfl rfl (SYOps.one hK (SOps.addI rfl rfl (by first | omega | (simp only [lenB]; omega) | (simp only [List.length_map, lenB]; omega) | (simp; done)) (by first | omega | (simp only [lenB]; omega) | (simp only [List.length_map, lenB]; omega) | (simp; done)) (SOps.nil rfl)) rfl rfl (SYOps.one hK (SOps.move rfl (SOps.nil rfl)) rfl rfl (SYOps.one hK (SOps.move rfl (SOps.nil rfl)) rfl rfl (SYOps.one hK (SOps.addI rfl rfl (by first | omega | (simp only [lenB]; omega) | (simp only [List.length_map, lenB]; omega) | (simp; done)) (by first | omega | (simp only [lenB]; omega) | (simp only [List.length_map, lenB]; omega) | (simp; done)) (SOps.nil rfl)) rfl rfl (SYOps.one hK (SOps.sliceM3 (i * n) (i * n + min n (l.length - i * n)) (i * n + min n (l.length - i * n)) sliceB_22_9_1 rfl rfl rfl rfl (by omega) rfl (by omega) (by omega) (by omega) (by omega) (SOps.nil rfl)) rfl rfl (SYOps.yield hY rfl rfl (chD_get hn hlt (by rw [show i * n + min n (l.length - i * n) - i * n = min n (l.length - i * n) by omega]; exact chI_min _ _ _)) rfl (SYOps.one hK (SOps.un rfl rfl (SOps.nil rfl)) rfl rfl (SYOps.nil ?_))))))))))))
      refine SYCode.cond rfl (fun h => by cases h) (fun _ => ?_)
      refine SYCode.skip ?_
      show SYCode _ _ _ _ _ _
      refine SYCode.region (SYOps.one hK (SOps.move rfl (SOps.nil rfl)) rfl rfl (SYOps.one hK (SOps.loadPin rfl flatB_3 (SOps.nil rfl)) rfl rfl (SYOps.one hK (SOps.addI rfl rfl (by first | omega | (simp only [lenB]; omega) | (simp only [List.length_map, lenB]; omega) | (simp; done)) (by first | omega | (simp only [lenB]; omega) | (simp only [List.length_map, lenB]; omega) | (simp; done)) (SOps.nil rfl)) rfl rfl (SYOps.one hK (SOps.assign rfl (SOps.nil rfl)) rfl rfl (SYOps.nil ?_)))))
      exact ⟨i + 1, (chN_lt hn).2 hlt, by rw [hsm]; omega, St.Le.of ⟨rfl, rfl, rfl, (by show some _ = some _; rw [hsm]; first | done | rfl | (congr 3; omega)), trivial⟩, rfl⟩
  · try simp only [nmL] at hc1
    refine SYCode.exit ?_
    exact ⟨.inl rfl, by show i = _; rw [show (chD l n).length = chN l.length n by simp [chD, chL_len]]; have h9 := (chN_lt (k := l.length) (i := i) hn); omega⟩
theorem sClone (p : List ByteArray) (hp : p.length ≤ 1048576) : GCall Tryz.prog E 77 [DStrs p] [] (fun d H => d = DStrs p ∧ H = []) := by
 refine GCall.body (C := ⟨Tryz.prog, E, true⟩) Tryz.func77 rfl (fun _ => rfl) (by kernel_rfl) rfl ?_
 refine SCode.seqR (SOps.assign rfl (SOps.nil (SCode.seq (SCode.seqR (SOps.move rfl ?_)))))
 refine SOps.eqNilS Tryz.underlying22 rfl rfl (fun c0 hz0 => ?_)
 refine SOps.nil ?_
 refine SCode.cond rfl (fun hc1 => ?_) (fun hc1 => ?_)
 ·try simp only [nmL] at hc1
  have ha0 : p = [] := List.map_eq_nil_iff.1 (hz0 hc1)
  refine SCode.seqR (SOps.assign rfl (SOps.nil (SCode.nilIsl (t := 2) (sz := 1) rfl (SCode.ret ?_))))
  exact ⟨_, Res.one (.tmp rfl), by rw [ha0]; rfl, rfl⟩
 ·try simp only [nmL] at hc1
  refine SCode.skip ?_
  show SCode _ _ _ _
  refine SCode.seqR ?_
  refine SOps.litO sliceB_22_9_1 zeroIs_9 rfl (fun b1 hb_1 => ?_)
  refine SOps.move rfl ?_
  refine SOps.appendOwnE 0 sliceB_22_9_1 elemB_9_1_16 rfl rfl rfl (by simp) SrcD.isl (by simp [lenB]; omega) (by simp; omega) (fun bC => ?_)
  refine SOps.freezeS (t := 7) 0 rfl rfl rfl (by simp) (SOps.assign rfl (SOps.nil (SCode.ret ?_)))
  exact ⟨_, Res.one (.tmp rfl), rfl, rfl⟩
def sheetsR (l : List ByteArray) (n : Int) : List (List ByteArray) × Int := if wideB n then (chL l n.toNat, 0) else ([], 1)
theorem chL_next {α : Type} {l : List α} {n i : Nat} {x : List α} (h : (chL l n)[i]? = some x) : (chL l n).take (i + 1) = (chL l n).take i ++ [x] := by
  obtain ⟨hi, rfl⟩ := List.getElem?_eq_some_iff.1 h
  exact take_next hi
theorem chL_few {α : Type} (l : List α) {n : Nat} (hn : 1 ≤ n) : (chL l n).length ≤ l.length := by
  rw [chL_len]
  rcases Nat.lt_or_ge l.length (chN l.length n) with h | h
  · have h1 := (chN_lt hn).1 h
    have h2 := Nat.le_mul_of_pos_right l.length hn
    omega
  · exact h
theorem chI_len {α : Type} {l : List α} {n i : Nat} {x : List α} (h : (chL l n)[i]? = some x) : x.length ≤ l.length := by
  unfold chL at h
  rw [List.getElem?_map] at h
  obtain ⟨j, _, rfl⟩ := Option.map_eq_some_iff.1 h
  simp [chI]
  omega
theorem cSheets0 (l : List ByteArray) (n : Int) (hl : l.length ≤ 1048576) : GCall Tryz.prog E 32 [DStrs l, .v (.int .i64 n)] [] (fun d H => ∃ k, d = .tup [accD 1 k ((sheetsR l n).1.map encW), .v (.int .i64 (sheetsR l n).2)] ∧ ∀ p ∈ accH 22 1 k ((sheetsR l n).1.map encW), p ∈ H) := by
 refine GCall.bodyM (C := ⟨Tryz.prog, E, true⟩) Tryz.func32 rfl (fun _ => rfl) (by kernel_rfl) rfl ?_
 refine SMCode.seqRS (SOps.assign rfl (SOps.assign rfl (SOps.nil (SMCode.seqS (SCode.seqR (SOps.move rfl (SOps.callP (jLimited _) rfl ?_)))))))
 rintro _ rfl
 refine SOps.un rfl rfl (SOps.nil ?_)
 refine SCode.cond rfl (fun hc1 => ?_) (fun hc1 => ?_)
 ·try simp only [nmL] at hc1
  refine SCode.seqR (SOps.assign rfl (SOps.assign rfl (SOps.nil (SCode.ret ?_))))
  exact ⟨_, Res.two (.tmp rfl) (.tmp rfl), 0, by unfold sheetsR; rw [if_neg (by simp_all)]; rfl, by unfold sheetsR; rw [if_neg (by simp_all)]; exact fun p hp => by cases hp⟩
 ·try simp only [nmL] at hc1
  refine SCode.skip ?_
  show SMCode _ _ _ _ _
  refine SMCode.seqRS ?_
  obtain ⟨m, rfl⟩ : ∃ m : Nat, n = (m : Int) := ⟨n.toNat, by have := wideX_iff.1 (by assumption); omega⟩
  have hw := wideX_iff.1 (by assumption)
  refine SOps.alloc (sz := 1) zeroIs_73 (fun b0 hb_0 => ?_)
  refine SOps.nil (SMCode.seq (SMCode.seqRS (SOps.move rfl (SOps.move rfl (SOps.callP (cChunk _ _ (by omega)) rfl ?_)))))
  rintro _ rfl
  refine SOps.nil (SMCode.block (SMCode.weaken (st' := (⟨21, [(13, .fn 111 [.ipin [DStrs l], .ipin [.v (.int .i64 (m : Int))]]), (6, .ref b0 0)], ([(b0, .row 73 1 [[accD 1 0 (((chL l m).take 0).map encW)]])] ++ (accH 22 1 0 (((chL l m).take 0).map encW) ++ []))⟩ : St)) (St.Le.of ⟨rfl, rfl, trivial⟩ rfl rfl) ?_))
  refine SMCode.range rfl (iChunk l m (by omega) (by omega) hl) (fun i H => ∃ k, List.Sublist ([(b0, .row 73 1 [[accD 1 k (((chL l m).take i).map encW)]])] ++ (accH 22 1 k (((chL l m).take i).map encW) ++ [])) H) ⟨0, List.Sublist.refl _⟩ rfl (fun i x l9 H hx hI => ?_) (fun H hI => ?_)
  ·obtain ⟨k, hsub⟩ := hI
   obtain ⟨x, hx0, rfl⟩ : ∃ y, (chL l m)[i]? = some y ∧ DStrs y = x := by unfold chD at hx; rw [List.getElem?_map] at hx; exact Option.map_eq_some_iff.1 hx
   have hnx := chL_next hx0
   have hxl := chI_len hx0
   have hfew := chL_few l (n := m) (by omega)
   have htl : ((chL l m).take i).length ≤ l.length := by simp; omega
   refine SRound.weaken (st' := (⟨21, [(14, DStrs x), (6, .ref b0 0)], ([(b0, .row 73 1 [[accD 1 k (((chL l m).take i).map encW)]])] ++ (accH 22 1 k (((chL l m).take i).map encW) ++ []))⟩ : St)) (St.Le.ofSub ⟨rfl, rfl, trivial⟩ hsub) (SRound.region (SOps.assign rfl (SOps.nil ?_)))
   refine ⟨rfl, ?_⟩
   refine SRound.block ?_
   apply SRound.drawG 7 [some 15, some 16, some 17, some 18, some 19, none] [[.inr 6], [.inr 7], [.inl 1], [.inl 2], [.inl 0, .inl 3], [.inr 6, .inl 4]] [[0, 4, 5]] [some (0, 0), none, none, none, some (0, 1), some (0, 2)] [[], [], [], [], [4], []] ([]) [⟨[0, 4, 5], fun ids c => match c with | 0 => (b0, .row 73 1 [[accD 1 k (((chL l m).take i).map encW)]]) :: accH 22 1 k (((chL l m).take i).map encW) | 1 => (b0, .row 73 1 [[accD 1 k (((chL l m).take i).map encW)]]) :: accH 22 1 k (((chL l m).take i).map encW) | 2 => (b0, .row 73 1 [[accD 1 k (((chL l m).take i).map encW)]]) :: accH 22 1 (ids.getD 1 0) ((((chL l m).take i).map encW) ++ [[DStrs x]]) | _ => (b0, .row 73 1 [[accD 1 (ids.getD 1 0) ((((chL l m).take i).map encW) ++ [[DStrs x]])]]) :: accH 22 1 (ids.getD 1 0) ((((chL l m).take i).map encW) ++ [[DStrs x]])⟩] mixed_
   ·kernel_rfl
   ·rfl
   ·exact fun _ => .refl _
   ·apply GOk.act [] (fun ids => some (15, accD 1 k (((chL l m).take i).map encW)))
    ·rfl
    ·rfl
    ·rfl
    ·exact fun b => (NeedG.inr _ rfl NeedG.nil)
    ·intro b rest ext
     refine SOps.loadRef 0 0 0 rfl flatB_73 rfl rfl rfl rfl ?_
     exact SOps.nil ⟨b, fun _ _ => rfl, ⟨rfl, fun t d h => .inl h, _, .refl _, .refl _⟩⟩
    apply GOk.rd 16
    ·rfl
    ·exact fun b => (NeedG.inr _ rfl NeedG.nil)
    ·intro b rest ext
     refine SOps.move rfl ?_
     exact SOps.nil rfl
    apply GOk.rd 17
    ·rfl
    ·exact fun b => (NeedG.inl 0 _ _ rfl rfl rfl NeedG.nil)
    ·intro b rest ext
     refine SOps.callP (sClone _ (by first | omega | (simp; omega))) rfl ?_
     rintro _ rfl
     exact SOps.nil rfl
    apply GOk.rd 18
    ·rfl
    ·exact fun b => (NeedG.inl 0 _ _ rfl rfl rfl NeedG.nil)
    ·intro b rest ext
     refine SOps.frame1 (SOps.litF rfl sliceB_73_22_1 zeroIs_22 rfl (SOps.nil rfl)) ?_
     exact SOps.nil rfl
    apply GOk.act [4] (fun ids => some (19, accD 1 (ids.getD 0 0) ((((chL l m).take i).map encW) ++ [[DStrs x]])))
    ·rfl
    ·rfl
    ·rfl
    ·exact fun b => (NeedG.inl 3 _ _ rfl rfl rfl (NeedG.inl 0 _ _ rfl rfl rfl NeedG.nil))
    ·intro b rest ext
     refine SOps.appendAcc [_] _ sliceB_73_22_1 elemB_22_1_24 rfl rfl rfl SrcD.isl (by simp) (by first | (simp [lenB] <;> (first | omega | (simp only [lenB]; omega) | (simp only [List.length_map, lenB]; omega) | (simp; done))) | (simp only [lenB]; (first | omega | (simp only [lenB]; omega) | (simp only [List.length_map, lenB]; omega) | (simp; done)))) (by first | (simp <;> (first | omega | (simp only [lenB]; omega) | (simp only [List.length_map, lenB]; omega) | (simp; done))) | (first | omega | (simp only [lenB]; omega) | (simp only [List.length_map, lenB]; omega) | (simp; done))) (fun b1 => ?_)
     exact SOps.nil ⟨fun k => if k = 4 then b1 else b k, fun k hk => if_neg hk, ⟨rfl, fun t d h => .inl h, _, List.Perm.of_eq rfl, .refl _⟩⟩
    apply GOk.act [] (fun _ => none)
    ·rfl
    ·rfl
    ·rfl
    ·exact fun b => (NeedG.inr _ rfl (NeedG.inl 0 _ _ rfl rfl rfl NeedG.nil))
    ·intro b rest ext
     refine SOps.storeM 0 rfl rfl oneB_73 rfl ?_ (hd := accD_one _ _ _)
     exact SOps.nil ⟨b, fun _ _ => rfl, ⟨rfl, fun t d h => .inl h, _, .refl _, .refl _⟩⟩
    exact GOk.nil
   ·exact fun _ => rfl
   ·intro ids
    exact ⟨rfl, ids 4, by rw [hnx, List.map_append]; exact .refl _⟩
  ·obtain ⟨k, hsub⟩ := hI
   show SMCode _ _ _ _ _
   refine SMCode.weaken (st' := (⟨21, [(6, .ref b0 0)], ([(b0, .row 73 1 [[accD 1 k (((chL l m).take (chD l m).length).map encW)]])] ++ (accH 22 1 k (((chL l m).take (chD l m).length).map encW) ++ []))⟩ : St)) (St.Le.ofSub ⟨rfl, trivial⟩ hsub) (SMCode.seqR (SOps.loadRef 0 0 0 rfl flatB_73 rfl rfl rfl rfl (SOps.assign rfl (SOps.assign rfl (SOps.nil (SMCode.ret ?_))))))
   have hfin : (chL l m).take (chD l m).length = chL l m := by unfold chD; rw [List.length_map, List.take_length]
   have hsr : sheetsR l m = (chL l m, 0) := by unfold sheetsR; rw [if_pos (by assumption)]; rfl
   exact ⟨_, Res.two (.tmp rfl) (.tmp rfl), k, by rw [hsr, hfin], by rw [hsr, hfin]; exact fun p hp => .tail _ (by rw [List.append_nil]; exact hp)⟩
theorem cSheets (l : List ByteArray) (n : Int) (hl : l.length ≤ 1048576) : GCall Tryz.prog E 32 [DStrs l, .v (.int .i64 n)] [] (fun d H => d = .tup [DSS (sheetsR l n).1, .v (.int .i64 (sheetsR l n).2)] ∧ H = []) :=
  GCall.cleanAcc (cSheets0 l n hl)
end Go.GH
namespace Go.GH
open Go Go.RowKit
theorem GCall.thaw {P : Program} {E : Env} {f : FuncId} {ds ds' : List DV} {H : DHeap} {x : Value} (h : GCall P E f ds' [] (fun d H => d = .v x ∧ H = [])) (hl : ds'.length = ds.length)
    (hc : ∀ (w : World) (F : Nat → Prop), (∀ p ∈ H, ObjRep w F p.1 p.2) → ∀ (j : Nat) (d d' : DV) (v : Value), ds[j]? = some d → ds'[j]? = some d' → Rep w F v d → Rep w (fun c => F c ∨ c ∈ H.map (·.1)) v d') :
    GCall P E f ds H (fun d H' => d = .v x ∧ H' = H) := by
  refine ⟨h.1, fun w F vs hE hF hvs hr hH hk => ?_⟩
  have hlt : ∀ b, b ∈ H.map (·.1) → b < w.heap.size ∧ ¬ F b := fun b hb => by
    obtain ⟨p, hp, rfl⟩ := List.mem_map.1 hb
    exact ⟨(hH p hp).2.lt, (hH p hp).1⟩
  refine (h.2 w (fun c => F c ∨ c ∈ H.map (·.1)) vs (E.mono (fun _ _ => rfl) (fun _ x => .inl x) hE) (fun b hb => hb.elim (hF b) (fun hm => (hlt b hm).1)) (by omega) (fun j v d hv hd => ?_) (fun p hp => by cases hp) List.nodup_nil).mono ?_
  · have hj : j < ds.length := by have := (List.getElem?_eq_some_iff.1 hd).1; omega
    exact hc w F (fun p hp => (hH p hp).2) j ds[j] d v (List.getElem?_eq_getElem hj) hd (hr j v _ hv (List.getElem?_eq_getElem hj))
  · rintro e w' ⟨u, d, H', F', rfl, ⟨rfl, rfl⟩, h3, h4, h5, _, _, h8⟩
    have hb : ∀ b, b < w.heap.size → w'.heap[b]? = w.heap[b]? := fun b hb => h8.block b hb (fun x => by cases x)
    refine ⟨u, _, H, fun b => F' b ∧ b ∉ H.map (·.1), rfl, ⟨rfl, rfl⟩, fun b hb' => ⟨h3 b (.inl hb'), fun hm => (hlt b hm).2 hb'⟩, fun b hb' => ⟨(h4 b hb'.1).1, (h4 b hb'.1).2.elim (fun y => y.elim .inl (fun hm => absurd hm hb'.2)) .inr⟩, ?_, fun p hp => ?_, hk, h8.mono (fun _ _ hm => by cases hm)⟩
    · obtain ⟨e1, e2⟩ := h5.inv_v
      rw [e1]
      exact .v e2
    · exact ⟨.inl (List.mem_map.2 ⟨p, hp, rfl⟩), fun hb' => hb'.2 (List.mem_map.2 ⟨p, hp, rfl⟩), (hH p hp).2.mono (hb _ (hH p hp).2.lt) (fun b hb' => hb b (hF b hb')) h8.shape (fun b hb' => ⟨h3 b (.inl hb'), fun hm => (hlt b hm).2 hb'⟩)⟩
/-- A slice that has grown in a row of its own. -/
theorem GCall.thawAcc {P : Program} {E : Env} {f : FuncId} {e sz k : Nat} {es : List (List DV)} {ds : List DV} {x : Value} (h : GCall P E f (.isl false sz es :: ds) [] (fun d H => d = .v x ∧ H = [])) :
    GCall P E f (accD sz k es :: ds) (accH e sz k es) (fun d H => d = .v x ∧ H = accH e sz k es) := by
  cases es with
  | nil => exact (GCall.nil0 h).mono (fun d H h => h)
  | cons y ys =>
    refine GCall.thaw (H := [(k, .row e sz (y :: ys))]) h rfl (fun w F hH j d d' v hd hd' hr => ?_)
    cases j with
    | zero =>
      simp only [List.getElem?_cons_zero, Option.some.injEq] at hd hd'
      subst hd; subst hd'
      exact (rep_row (hH _ (List.mem_singleton.2 rfl)) hr).mono (fun _ _ => rfl) (fun _ _ h => h) (fun c hc => hc.imp id (fun e => by subst e; exact List.mem_singleton.2 rfl))
    | succ j =>
      simp only [List.getElem?_cons_succ] at hd hd'
      rw [hd] at hd'
      obtain rfl := Option.some.inj hd'
      exact hr.mono (fun _ _ => rfl) (fun _ _ h => h) (fun _ h => .inl h)
section
variable {C : Ctx} {st : St} {ops : Array Oper} {rest : List Oper} {R : St → Prop} {t : Tmp} {ty : TypeId} {pos : String} {aft : Array Edge} {g : Option (Nat × Bool)}
theorem SOps.indexRefA {T n e sz b o : Nat} {xo io : Operand} {k : IntKind} {m : Int} (i : Nat) (hx : st.val xo = some (.ref b o)) (hi : st.val io = some (.v (.int k m)))
    (hT : arrayB C.P T n e sz = true) (hm : m = (i : Int)) (hlt : i < n) (hrest : SOps C ops rest (st.put t (.ref b (o + i * sz))) R)
    (hg : st.wants ops g = some true := by rfl) (ht : Nat.blt t st.n = true := by rfl) : SOps C ops (⟨some t, .indexAddr T xo io, ty, pos, aft, g⟩ :: rest) st R :=
  SOps.val rfl hg ht (fun base a w F hs => by
    have h1 := hs.val hx
    have h2 := (hs.val (hm ▸ hi)).inv_v.1
    generalize hv : a.eval xo = v at h1
    cases h1 with
    | ref => exact ⟨_, by simp [execOp, hv, h2, run_indexArr hT b o k i hlt], .ref _ _⟩) hrest
end
/-! ### lists of lists -/
theorem flat_len {α : Type} {L : List (List α)} {i : Nat} {x : List α} (h : L[i]? = some x) : (L.take (i + 1)).flatten.length = (L.take i).flatten.length + x.length := by
  obtain ⟨hi, rfl⟩ := List.getElem?_eq_some_iff.1 h
  have e : L.take (i + 1) = L.take i ++ [L[i]] := by rw [List.take_add_one, h]; rfl
  rw [e, List.flatten_append, List.length_append]
  congr 1
  rw [List.flatten_cons, List.flatten_nil, List.append_nil]
theorem flat_get {α : Type} {L : List (List α)} {i j : Nat} {x : List α} {y : α} (h : L[i]? = some x) (hj : x[j]? = some y) : L.flatten[(L.take i).flatten.length + j]? = some y := by
  obtain ⟨hi, rfl⟩ := List.getElem?_eq_some_iff.1 h
  have hjl := (List.getElem?_eq_some_iff.1 hj).1
  have e : L.flatten = (L.take i).flatten ++ (L[i] ++ (L.drop (i + 1)).flatten) := by
    conv => lhs; rw [← List.take_append_drop i L, List.flatten_append, List.drop_eq_getElem_cons hi, List.flatten_cons]
  rw [e, List.getElem?_append_right (by omega), Nat.add_sub_cancel_left, List.getElem?_append_left hjl]
  exact hj
end Go.GH
namespace Go.GH
open Go Go.Proofs
variable {E : Env}
theorem arrayB_124_2_4_1 : arrayB Tryz.prog 124 2 4 1 = true := by kernel_rfl
theorem zeroIs_124 : zeroIs Tryz.prog 124 (.agg #[.bool false, .bool false]) := by unfold zeroIs; kernel_rfl
/-- The words of a line, each with the marks of the first and the last. -/
def wrdL (fs : List ByteArray) : List (ByteArray × Bool × Bool) := fs.zipIdx.map (fun p => (p.1, decide ((p.2 : Int) = 0), decide ((p.2 : Int) = (fs.length : Int) - 1)))
def wrdD (x : ByteArray × Bool × Bool) : DV × DV := (.v (.string x.1), .agg [.v (.bool x.2.1), .v (.bool x.2.2)])
def wrdA (fl : ByteArray → List ByteArray) (pg : List ByteArray) : List (ByteArray × Bool × Bool) := (pg.map (fun w => wrdL (fl w))).flatten
def wrdO (fl : ByteArray → List ByteArray) (pg : List ByteArray) (i : Nat) : Nat := ((pg.map (fun w => wrdL (fl w))).take i).flatten.length
theorem wrdL_len (fs : List ByteArray) : (wrdL fs).length = fs.length := by simp [wrdL]
theorem wrdL_get {fs : List ByteArray} {j : Nat} (h : j < fs.length) : (wrdL fs)[j]? = some (fs[j], decide ((j : Int) = 0), decide ((j : Int) = (fs.length : Int) - 1)) := by
  unfold wrdL
  rw [List.getElem?_map, List.getElem?_zipIdx, List.getElem?_eq_getElem h]
  simp
theorem wrdO_next {fl : ByteArray → List ByteArray} {pg : List ByteArray} {i : Nat} (h : i < pg.length) : wrdO fl pg (i + 1) = wrdO fl pg i + (fl pg[i]).length := by
  unfold wrdO
  rw [flat_len (x := wrdL (fl pg[i])) (by rw [List.getElem?_map, List.getElem?_eq_getElem h]; rfl), wrdL_len]
theorem wrdO_all (fl : ByteArray → List ByteArray) (pg : List ByteArray) : wrdO fl pg pg.length = (wrdA fl pg).length := by
  unfold wrdO wrdA
  rw [List.take_of_length_le (by simp)]
theorem wrdA_get {fl : ByteArray → List ByteArray} {pg : List ByteArray} {i j : Nat} {fs : List ByteArray} (h : i < pg.length) (hf : fs = fl pg[i]) (hj : j < fs.length) : ((wrdA fl pg).map wrdD)[wrdO fl pg i + j]? = some (.v (.string fs[j]), .agg [.v (.bool (decide ((j : Int) = 0))), .v (.bool (decide ((j : Int) = (fs.length : Int) - 1)))]) := by
  subst hf
  rw [List.getElem?_map]
  unfold wrdA wrdO
  rw [flat_get (x := wrdL (fl pg[i])) (by rw [List.getElem?_map, List.getElem?_eq_getElem h]; rfl) (wrdL_get hj)]
  rfl
theorem cWords (l : Lng) (pg : List ByteArray)  : GCall Tryz.prog E 71 [.agg (encG l), DStrs pg] [] (fun d H => d = .fn 105 [.ipin [DStrs pg], .ipin (encG l)] ∧ H = []) := by
 refine GCall.body (C := ⟨Tryz.prog, E, true⟩) Tryz.func71 rfl (fun _ => rfl) (by kernel_rfl) rfl ?_
 refine SCode.seqR ?_
 refine SOps.boxAM rfl rfl ?_ (hd := encG_one l)
 refine SOps.boxF rfl rfl rfl (SOps.assign rfl (SOps.nil (SCode.seqR (SOps.makeFunc rfl (SOps.assign rfl (SOps.nil (SCode.ret ?_)))))))
 exact ⟨_, Res.one (.tmp rfl), rfl, rfl⟩
theorem iWords (l : Lng) (pg : List ByteArray) (lg : ByteArray → ByteArray) (fl : ByteArray → List ByteArray) (hLg : ∀ w ∈ pg, GCall Tryz.prog E 28 [.v (.int .i64 (baseR l)), .v (.string w)] [] (fun d H => d = .v (.string (lg w)) ∧ H = []))
    (hFF : ∀ w ∈ pg, GCall Tryz.prog E 106 [.v (.string (lg w)), .fn 107 []] [] (fun d H => d = DStrs (fl w) ∧ H = [])) : GIter2 Tryz.prog E 105 [.ipin [DStrs pg], .ipin (encG l)] ((wrdA fl pg).map wrdD) := by
  refine GIter2.body (C := ⟨Tryz.prog, E, true⟩) Tryz.func105 rfl (by kernel_rfl) rfl rfl (fun l9 J hK hY => ?_)
  refine SYCode.seqR (SYOps.one hK (SOps.loadPin rfl flatB_22 (SOps.nil rfl)) rfl rfl (SYOps.one hK (SOps.lenM rfl sliceB_22_9_1 (SOps.nil rfl)) rfl rfl (SYOps.one hK (SOps.move rfl (SOps.nil rfl)) rfl rfl (SYOps.nil (SYCode.block (SYCode.loop1 (ι := fun i => wrdO fl pg i) (hx := by rfl) (fun (i : Nat) => (⟨41, [(0, .v (.func (.yield l9) #[] #[])), (1, .ipin [DStrs pg]), (2, .ipin (encG l)), (9, DStrs pg), (10, .v (.int .i64 ((pg.length : Nat) : Int))), (11, .v (.int .i64 (i : Int)))], []⟩ : St)) (fun (i : Nat) => i ≤ pg.length) (fun (i : Nat) => pg.length - i) (0) (by exact Nat.zero_le _) (St.Le.of ⟨(by first | rfl | (show some _ = some _; simp)), (by first | rfl | (show some _ = some _; simp)), (by first | rfl | (show some _ = some _; simp)), (by first | rfl | (show some _ = some _; simp)), (by first | rfl | (show some _ = some _; simp)), (by first | rfl | (show some _ = some _; simp)), trivial⟩ rfl (by first | rfl | (simp))) ?_))))))
  rintro i hi
  refine SYCode.fact (isl_len (t := 9) rfl) (fun hB => ?_)
  simp only [List.length_map, lenB] at hB
  refine SYCode.seqR (SYOps.one hK (SOps.bin rfl rfl rfl (SOps.nil rfl)) rfl rfl (SYOps.nil (SYCode.seq ?_)))
  refine SYCode.cond rfl (fun hc1 => ?_) (fun hc1 => ?_)
  · try simp only [nmL] at hc1
    refine SYCode.skip ?_
    show SYCode _ _ _ _ _ _
    refine SYCode.seq (SYCode.block (SYCode.seqR ?_))
    have hil : i < pg.length := by omega
    have hml := List.getElem_mem hil
    refine SYOps.one hK (SOps.indexM (i) rfl rfl sliceB_22_9_1 (by first | omega | (simp only [lenB]; omega) | (simp only [List.length_map, lenB]; omega) | (simp; done)) (by first | omega | (simp only [lenB]; omega) | (simp only [List.length_map, lenB]; omega) | (simp; done)) (SOps.nil rfl)) rfl rfl (SYOps.one hK (SOps.loadPin rfl flatB_9 (SOps.nil rfl)) rfl rfl (SYOps.one hK (SOps.assign rfl (SOps.nil rfl)) rfl rfl (SYOps.nil ?_)))
    refine SYCode.seq (SYCode.of hK rfl (SCode.region ?_))
    refine SOps.loadPinA rfl aggB_62_30 (Nat.le_of_ble_eq_true rfl) (SOps.callP (jBase l) rfl ?_)
    rintro _ rfl
    refine SOps.move rfl (SOps.callP (hLg _ hml) rfl ?_)
    rintro _ rfl
    refine SOps.callP (hFF _ hml) rfl ?_
    rintro _ rfl
    refine SOps.assign rfl (SOps.nil ?_)
    show SYCode _ _ _ _ _ _
    refine SYCode.seqR (SYOps.one hK (SOps.move rfl (SOps.nil rfl)) rfl rfl (SYOps.one hK (SOps.lenM rfl sliceB_22_9_1 (SOps.nil rfl)) rfl rfl (SYOps.one hK (SOps.move rfl (SOps.nil rfl)) rfl rfl (SYOps.nil (SYCode.block (SYCode.loop1 (ι := fun j => wrdO fl pg i + j) (hx := by rfl) (fun (j : Nat) => (⟨41, [(0, .v (.func (.yield l9) #[] #[])), (1, .ipin [DStrs pg]), (2, .ipin (encG l)), (5, .v (.string pg[i])), (6, DStrs (fl pg[i])), (9, DStrs pg), (10, .v (.int .i64 ((pg.length : Nat) : Int))), (11, .v (.int .i64 (i : Int))), (20, DStrs (fl pg[i])), (21, .v (.int .i64 (((fl pg[i]).length : Nat) : Int))), (22, .v (.int .i64 (j : Int)))], []⟩ : St)) (fun (j : Nat) => j ≤ (fl pg[i]).length) (fun (j : Nat) => (fl pg[i]).length - j) (0) (by exact Nat.zero_le _) (St.Le.of ⟨(by first | rfl | (show some _ = some _; simp)), (by first | rfl | (show some _ = some _; simp)), (by first | rfl | (show some _ = some _; simp)), (by first | rfl | (show some _ = some _; simp)), (by first | rfl | (show some _ = some _; simp)), (by first | rfl | (show some _ = some _; simp)), (by first | rfl | (show some _ = some _; simp)), (by first | rfl | (show some _ = some _; simp)), (by first | rfl | (show some _ = some _; simp)), (by first | rfl | (show some _ = some _; simp)), (by first | rfl | (show some _ = some _; simp)), trivial⟩ rfl (by first | rfl | (simp))) ?_))))))
    rintro j hj
    refine SYCode.fact (isl_len (t := 20) rfl) (fun hB2 => ?_)
    simp only [List.length_map, lenB] at hB2
    refine SYCode.seqR (SYOps.one hK (SOps.bin rfl rfl rfl (SOps.nil rfl)) rfl rfl (SYOps.nil (SYCode.seq ?_)))
    refine SYCode.cond rfl (fun hc2 => ?_) (fun hc2 => ?_)
    · try simp only [nmL] at hc2
      refine SYCode.skip ?_
      show SYCode _ _ _ _ _ _
      refine SYCode.seq (SYCode.block (SYCode.seqR ?_))
      have hjl : j < (fl pg[i]).length := by omega
      refine SYOps.one hK (SOps.move rfl (SOps.nil rfl)) rfl rfl (SYOps.one hK (SOps.indexM (j) rfl rfl sliceB_22_9_1 (by first | omega | (simp only [lenB]; omega) | (simp only [List.length_map, lenB]; omega) | (simp; done)) (by first | omega | (simp only [lenB]; omega) | (simp only [List.length_map, lenB]; omega) | (simp; done)) (SOps.nil rfl)) rfl rfl (SYOps.one hK (SOps.loadPin rfl flatB_9 (SOps.nil rfl)) rfl rfl (SYOps.one hK (SOps.assign rfl (SOps.nil rfl)) rfl rfl (SYOps.one hK (SOps.assign rfl (SOps.nil rfl)) rfl rfl (SYOps.nil (SYCode.seqR (SYOps.one hK (SOps.move rfl (SOps.nil rfl)) rfl rfl (SYOps.one hK (SOps.move rfl (SOps.nil rfl)) rfl rfl (SYOps.one hK (SOps.move rfl (SOps.nil rfl)) rfl rfl (SYOps.one hK (SOps.bin rfl rfl rfl (SOps.nil rfl)) rfl rfl (SYOps.one hK (SOps.move rfl (SOps.nil rfl)) rfl rfl (SYOps.one hK (SOps.move rfl (SOps.nil rfl)) rfl rfl (SYOps.one hK (SOps.lenM rfl sliceB_22_9_1 (SOps.nil rfl)) rfl rfl (SYOps.one hK (SOps.subI rfl rfl (by first | omega | (simp only [lenB]; omega) | (simp only [List.length_map, lenB]; omega) | (simp; done)) (by first | omega | (simp only [lenB]; omega) | (simp only [List.length_map, lenB]; omega) | (simp; done)) (SOps.nil rfl)) rfl rfl (SYOps.one hK (SOps.bin rfl rfl rfl (SOps.nil rfl)) rfl rfl (SYOps.one hK (SOps.buildArrM arrayB_124_2_4_1 zeroIs_124 rfl rfl (SOps.nil rfl)) rfl rfl (SYOps.yield2 hY rfl rfl rfl (wrdA_get hil rfl hjl) rfl (SYOps.one hK (SOps.un rfl rfl (SOps.nil rfl)) rfl rfl (SYOps.nil ?_)))))))))))))))))))
      refine SYCode.cond rfl (fun h => by cases h) (fun _ => ?_)
      refine SYCode.skip ?_
      show SYCode _ _ _ _ _ _
      refine SYCode.region (SYOps.one hK (SOps.addI rfl rfl (by first | omega | (simp only [lenB]; omega) | (simp only [List.length_map, lenB]; omega) | (simp; done)) (by first | omega | (simp only [lenB]; omega) | (simp only [List.length_map, lenB]; omega) | (simp; done)) (SOps.nil rfl)) rfl rfl (SYOps.one hK (SOps.move rfl (SOps.nil rfl)) rfl rfl (SYOps.nil ?_)))
      exact ⟨j + 1, by omega, by omega, St.Le.of ⟨rfl, rfl, rfl, rfl, rfl, rfl, rfl, rfl, rfl, rfl, rfl, trivial⟩, rfl⟩
    · try simp only [nmL] at hc2
      refine SYCode.exit ?_
      show SYCode _ _ _ _ _ _
      refine SYCode.region (SYOps.one hK (SOps.addI rfl rfl (by first | omega | (simp only [lenB]; omega) | (simp only [List.length_map, lenB]; omega) | (simp; done)) (by first | omega | (simp only [lenB]; omega) | (simp only [List.length_map, lenB]; omega) | (simp; done)) (SOps.nil rfl)) rfl rfl (SYOps.one hK (SOps.move rfl (SOps.nil rfl)) rfl rfl (SYOps.nil ?_)))
      exact ⟨i + 1, by omega, by omega, St.Le.of ⟨rfl, rfl, rfl, rfl, rfl, rfl, trivial⟩, by show wrdO fl pg (i + 1) = wrdO fl pg i + j; rw [wrdO_next hil]; omega⟩
  · try simp only [nmL] at hc1
    refine SYCode.exit ?_
    exact ⟨.inl rfl, by show wrdO fl pg i = _; rw [List.length_map, ← wrdO_all, show i = pg.length by omega]⟩
end Go.GH
namespace Go.GH
open Go Go.RowKit
section
variable {C : Ctx} {m : Bool} {st : St} {Q : Exit → Bool → St → Prop}
theorem SMCode.cond {c : Operand} {x y : Code} {b : Bool} (hc : st.val c = some (.v (.bool b))) (hT : b = true → SMCode C x m st Q) (hF : b = false → SMCode C y m st Q) : SMCode C (.cond c x y) m st Q := by
  intro base ok hd0 a w hs
  refine wp_cond_split (t := b) ?_ (fun e => hT e base ok hd0 a w hs) (fun e => hF e base ok hd0 a w hs)
  cases m with
  | false => obtain ⟨F, hs⟩ := hs; exact (hs.val hc).inv_v.1
  | true =>
    obtain ⟨F, D, hs, _⟩ := hs
    have := (hs.val hc).inv_v.1
    rw [show ({ a with defers := [] } : Act).eval c = a.eval c by cases c <;> rfl] at this
    exact this
theorem SMCode.skip (h : Q .normal m st) : SMCode C .skip m st Q := fun _ _ _ _ _ hs => wp_skip ⟨m, st, h, hs⟩
end
end Go.GH
namespace Go.GH
open Go Go.Proofs
variable {E : Env}
theorem aggB_124_2 : aggB Tryz.prog 124 2 = true := by kernel_rfl
theorem zeroIs_4 : zeroIs Tryz.prog 4 (.bool false) := by unfold zeroIs; kernel_rfl
/-- One word more: it goes on an open word, or stands by itself. -/
def plStep (s : List ByteArray × Bool) (x : ByteArray × Bool × Bool) : List ByteArray × Bool :=
  (if x.2.1 && s.2 then s.1.set (s.1.length - 1) (trimB (s.1.getD (s.1.length - 1) .empty) hy1 ++ x.1) else s.1 ++ [x.1], x.2.2 && sufB x.1 hy1)
def plR (xs : List (ByteArray × Bool × Bool)) (i : Nat) : List ByteArray × Bool := (xs.take i).foldl plStep ([], false)
theorem plR_next {xs : List (ByteArray × Bool × Bool)} {i : Nat} {x : ByteArray × Bool × Bool} (h : xs[i]? = some x) : plR xs (i + 1) = plStep (plR xs i) x := by
  obtain ⟨hi, rfl⟩ := List.getElem?_eq_some_iff.1 h
  unfold plR
  rw [take_next hi, List.foldl_append]
  rfl
theorem trimB_size (s p : ByteArray) : (trimB s p).size ≤ s.size := by
  have : (Lib.trimSuffix s.data.toList p.data.toList).length ≤ s.data.toList.length := by unfold Lib.trimSuffix; split <;> simp
  have e : (trimB s p).size = (Lib.trimSuffix s.data.toList p.data.toList).length := by unfold trimB; simp [ByteArray.size]
  have e2 : s.data.toList.length = s.size := by simp
  omega
theorem plR_inv {xs : List (ByteArray × Bool × Bool)} {M : Nat} (hM : ∀ x ∈ xs, x.1.size ≤ M) : ∀ i, i ≤ xs.length → ((plR xs i).2 = true → (plR xs i).1 ≠ []) ∧ (plR xs i).1.length ≤ i ∧ ∀ w ∈ (plR xs i).1, w.size ≤ i * M
  | 0, _ => ⟨fun h => (Bool.noConfusion h), Nat.le_refl _, fun w h => by cases h⟩
  | i + 1, hi => by
    obtain ⟨h1, h2, h3⟩ := plR_inv hM i (by omega)
    have hx := hM _ (List.getElem_mem (show i < xs.length by omega))
    rw [plR_next (List.getElem?_eq_getElem (show i < xs.length by omega))]
    generalize xs[i] = x at hx
    generalize plR xs i = s at *
    unfold plStep
    rw [Nat.succ_mul]
    cases hc : (x.2.1 && s.2) with
    | true =>
      rw [Bool.and_eq_true] at hc
      have hne := h1 hc.2
      refine ⟨fun _ h => ?_, by simp; omega, fun w hw => ?_⟩
      · have := congrArg List.length h
        simp at this
        exact hne (by cases hs : s.1 with | nil => rfl | cons a b => rw [hs] at this; simp at this)
      · simp only [if_true] at hw
        rcases List.mem_or_eq_of_mem_set hw with h | rfl
        · have := h3 w h; omega
        · have hl : s.1.length - 1 < s.1.length := by cases hs : s.1 with | nil => exact absurd hs hne | cons a b => simp
          have h9 := h3 _ (List.getElem_mem hl)
          have h8 := trimB_size (s.1.getD (s.1.length - 1) .empty) hy1
          rw [show s.1.getD (s.1.length - 1) .empty = s.1[s.1.length - 1] from by rw [List.getD_eq_getElem?_getD, List.getElem?_eq_getElem hl]; rfl] at h8 ⊢
          rw [ByteArray.size_append]
          omega
    | false =>
      refine ⟨fun _ h => ?_, by simp; omega, fun w hw => ?_⟩
      · simp at h
      · simp only [Bool.false_eq_true, if_false] at hw
        rcases List.mem_append.1 hw with h | h
        · have := h3 w h; omega
        · rw [List.mem_singleton.1 h]; omega
theorem plJ {o : List ByteArray} {op b : Bool} {y : ByteArray × Bool × Bool} (h0 : 0 < o.length) (h1 : y.2.1 = true) (h2 : op = true) (h3 : y.2.2 = b) : plStep (o, op) y = (o.set (o.length - 1) (trimB (o[o.length - 1]'(by omega)) hy1 ++ y.1), b && sufB y.1 hy1) := by
  unfold plStep
  rw [h1, h2, h3]
  show (o.set (o.length - 1) (trimB (o.getD (o.length - 1) .empty) hy1 ++ y.1), b && sufB y.1 hy1) = _
  rw [show (o.getD (o.length - 1) .empty) = o[o.length - 1]'(by omega) from by rw [List.getD_eq_getElem?_getD, List.getElem?_eq_getElem (by omega)]; rfl]
theorem plN {o : List ByteArray} {op b : Bool} {y : ByteArray × Bool × Bool} (h1 : y.2.1 = false ∨ op = false) (h3 : y.2.2 = b) : plStep (o, op) y = (o ++ [y.1], b && sufB y.1 hy1) := by
  unfold plStep
  rw [h3, if_neg (by rcases h1 with h | h <;> simp [h])]
/-- The text of a page: vd: the language serves; se: the reader's word on the text. -/
def plainR (vd : Bool) (se : Int) (fl : ByteArray → List ByteArray) (pg : List ByteArray) : ByteArray × Int :=
  if vd = false then (.empty, 1) else if pg.all utf8R = false then (.empty, 3) else if (plR (wrdA fl pg) (wrdA fl pg).length).2 then (.empty, 3) else if se ≠ 0 then (.empty, se) else ((catW (plR (wrdA fl pg) (wrdA fl pg).length).1), 0)
theorem cPlain0 (hV : VS E) (l : Lng) (pg : List ByteArray) (lg : ByteArray → ByteArray) (fl : ByteArray → List ByteArray) (vd : Bool) (se : Int) (M : Nat) (hM : ∀ x ∈ (wrdA fl pg), x.1.size ≤ M) (hX : (wrdA fl pg).length * M ≤ 1048576) (hX2 : (wrdA fl pg).length ≤ 1048576)
  (hLg : ∀ w ∈ pg, GCall Tryz.prog E 28 [.v (.int .i64 (baseR l)), .v (.string w)] [] (fun d H => d = .v (.string (lg w)) ∧ H = [])) (hFF : ∀ w ∈ pg, GCall Tryz.prog E 106 [.v (.string (lg w)), .fn 107 []] [] (fun d H => d = DStrs (fl w) ∧ H = []))
  (h64 : GCall Tryz.prog E 64 [.agg (encG l)] [] (fun d H => d = .v (.bool vd) ∧ H = [])) (h65 : GCall Tryz.prog E 65 [.agg (encG l), .v (.string (catW (plR (wrdA fl pg) (wrdA fl pg).length).1))] [] (fun d H => (∃ d4, d = .tup [d4, .v (.int .i64 se)]) ∧ H = [])) : GCall Tryz.prog E 30 [.agg (encG l), DStrs pg] [] (fun d H => d = .tup [.v (.string (plainR vd se fl pg).1), .v (.int .i64 (plainR vd se fl pg).2)]) := by
 refine GCall.bodyM (C := ⟨Tryz.prog, E, true⟩) Tryz.func30 rfl (fun _ => rfl) (by kernel_rfl) rfl ?_
 refine SMCode.seqRS ?_
 refine SOps.boxAM rfl rfl ?_ (hd := encG_one l)
 refine SOps.assign rfl (SOps.assign rfl (SOps.nil (SMCode.seqS (SCode.seqR (SOps.loadPinA rfl aggB_62_30 (Nat.le_of_ble_eq_true rfl) (SOps.callP h64 rfl ?_))))))
 rintro _ rfl
 refine SOps.un rfl rfl (SOps.nil ?_)
 refine SCode.cond rfl (fun hc1 => ?_) (fun hc1 => ?_)
 ·try simp only [nmL] at hc1
  refine SCode.seqR (SOps.assign rfl (SOps.assign rfl (SOps.nil (SCode.ret ?_))))
  exact ⟨_, Res.two (.tmp rfl) (.tmp rfl), congrArg (fun p : ByteArray × Int => DV.tup [.v (.string p.1), .v (.int .i64 p.2)]) (show (.empty, 1) = plainR vd se fl pg from Eq.symm (by unfold plainR; rw [if_pos (by simp_all)]))⟩
 ·try simp only [nmL] at hc1
  refine SCode.skip ?_
  show SMCode _ _ _ _ _
  refine SMCode.seqS (SCode.seqR (SOps.move rfl (SOps.lenM rfl sliceB_22_9_1 (SOps.move rfl (SOps.nil (SCode.block (SCode.loop1 (fun (i : Nat) => (⟨75, [(1, DStrs pg), (2, .ipin (encG l)), (19, DStrs pg), (20, .v (.int .i64 ((pg.length : Nat) : Int))), (21, .v (.int .i64 (i : Int)))], []⟩ : St)) (fun (i : Nat) => i ≤ pg.length ∧ ∀ w ∈ pg.take i, utf8R w = true) (fun (i : Nat) => pg.length - i) (0) (by exact ⟨Nat.zero_le _, fun w h => by cases h⟩) (St.Le.of ⟨(by first | rfl | (show some _ = some _; simp)), (by first | rfl | (show some _ = some _; simp)), (by first | rfl | (show some _ = some _; simp)), (by first | rfl | (show some _ = some _; simp)), (by first | rfl | (show some _ = some _; simp)), trivial⟩ rfl (by first | rfl | (simp))) ?_)))))))
  rintro i ⟨hi, hu⟩
  refine SCode.fact (isl_len (t := 19) rfl) (fun hB => ?_)
  simp only [List.length_map, lenB] at hB
  refine SCode.seqR (SOps.bin rfl rfl rfl (SOps.nil (SCode.seq ?_)))
  refine SCode.cond rfl (fun hc2 => ?_) (fun hc2 => ?_)
  ·try simp only [nmL] at hc2
   refine SCode.skip ?_
   show SCode _ _ _ _
   refine SCode.seq (SCode.block (SCode.seqR ?_))
   have hil : i < pg.length := by omega
   refine SOps.indexM (i) rfl rfl sliceB_22_9_1 (by first | omega | (simp only [lenB]; omega) | (simp only [List.length_map, lenB]; omega) | (simp; done)) (by first | omega | (simp only [lenB]; omega) | (simp only [List.length_map, lenB]; omega) | (simp; done)) (SOps.loadPin rfl flatB_9 (SOps.assign rfl (SOps.nil (SCode.seqR (SOps.move rfl (SOps.callP (hV _) rfl ?_))))))
   rintro _ rfl
   refine SOps.un rfl rfl (SOps.nil ?_)
   refine SCode.cond rfl (fun hc3 => ?_) (fun hc3 => ?_)
   ·try simp only [nmL] at hc3
    refine SCode.seqR (SOps.assign rfl (SOps.assign rfl (SOps.nil (SCode.ret ?_))))
    exact ⟨_, Res.two (.tmp rfl) (.tmp rfl), congrArg (fun p : ByteArray × Int => DV.tup [.v (.string p.1), .v (.int .i64 p.2)]) (show (.empty, 3) = plainR vd se fl pg from Eq.symm (by unfold plainR; rw [if_neg (by simp_all), if_pos (by rw [Bool.eq_false_iff]; intro h9; have h8 := List.all_eq_true.1 h9 _ (List.getElem_mem hil); simp_all)]))⟩
   ·try simp only [nmL] at hc3
    refine SCode.skip ?_
    show SCode _ _ _ _
    refine SCode.region (SOps.addI rfl rfl (by first | omega | (simp only [lenB]; omega) | (simp only [List.length_map, lenB]; omega) | (simp; done)) (by first | omega | (simp only [lenB]; omega) | (simp only [List.length_map, lenB]; omega) | (simp; done)) (SOps.move rfl (SOps.nil ?_)))
    exact ⟨i + 1, ⟨by omega, fun w h => by rw [take_next hil] at h; rcases List.mem_append.1 h with h | h; exact hu w h; rw [List.mem_singleton.1 h]; simp_all⟩, by omega, St.Le.of ⟨rfl, rfl, rfl, rfl, rfl, trivial⟩⟩
  ·try simp only [nmL] at hc2
   refine SCode.exit ?_
   show SMCode _ _ _ _ _
   refine SMCode.seqRS ?_
   refine SOps.alloc (sz := 1) zeroIs_22 (fun b0 hb_0 => ?_)
   refine SOps.nil (SMCode.seqRS ?_)
   refine SOps.alloc (sz := 1) zeroIs_4 (fun b1 hb_1 => ?_)
   refine SOps.storeM 0 rfl rfl oneB_4 rfl (SOps.nil (SMCode.seq (SMCode.seqRS (SOps.loadPinA rfl aggB_62_30 (Nat.le_of_ble_eq_true rfl) (SOps.move rfl (SOps.callP (cWords _ _) rfl ?_))))))
   rintro _ rfl
   refine SOps.nil (SMCode.block ?_)
   have hua : pg.all utf8R = true := List.all_eq_true.2 (fun w hw => hu w (by rw [List.take_of_length_le (by omega)]; exact hw))
   clear hu
   refine SMCode.weaken (st' := (⟨75, [(2, .ipin (encG l)), (8, .ref b0 0), (9, .ref b1 0), (31, .fn 105 [.ipin [DStrs pg], .ipin (encG l)])], ([(b1, .row 4 1 [[.v (.bool (plR (wrdA fl pg) 0).2)]]), (b0, .row 22 1 [[accD 1 0 ((plR (wrdA fl pg) 0).1.map encS)]])] ++ (accH 9 1 0 ((plR (wrdA fl pg) 0).1.map encS) ++ []))⟩ : St)) (St.Le.of ⟨rfl, rfl, rfl, rfl, trivial⟩ rfl rfl) ?_
   refine SMCode.range2 rfl (iWords l pg lg fl hLg hFF) (fun i H => ∃ k, List.Sublist ([(b1, .row 4 1 [[.v (.bool (plR (wrdA fl pg) i).2)]]), (b0, .row 22 1 [[accD 1 k ((plR (wrdA fl pg) i).1.map encS)]])] ++ (accH 9 1 k ((plR (wrdA fl pg) i).1.map encS) ++ [])) H) ⟨0, List.Sublist.refl _⟩ rfl rfl (fun i x l9 H hx hI => ?_) (fun H hI => ?_)
   ·obtain ⟨k, hsub⟩ := hI
    obtain ⟨y, hy, rfl⟩ : ∃ y, (wrdA fl pg)[i]? = some y ∧ wrdD y = x := by rw [List.getElem?_map] at hx; exact Option.map_eq_some_iff.1 hx
    have hil : i < (wrdA fl pg).length := (List.getElem?_eq_some_iff.1 hy).1
    have hnx := plR_next hy
    obtain ⟨hop, hol, how⟩ := plR_inv hM i (by omega)
    have hyM := hM y (List.mem_of_getElem? hy)
    have hiM : i * M ≤ 1048576 := Nat.le_trans (Nat.mul_le_mul_right _ (by omega)) hX
    have hMl : M ≤ 1048576 := Nat.le_trans (Nat.le_mul_of_pos_left M (show 0 < (wrdA fl pg).length by omega)) hX
    generalize hs9 : plR (wrdA fl pg) i = s9 at hsub hnx hop hol how
    obtain ⟨o, op⟩ := s9
    dsimp only at hsub hop hol how
    refine SRound.weaken (st' := (⟨75, [(2, .ipin (encG l)), (8, .ref b0 0), (9, .ref b1 0), (32, .v (.string y.1)), (33, .agg [.v (.bool y.2.1), .v (.bool y.2.2)])], ([(b1, .row 4 1 [[.v (.bool op)]]), (b0, .row 22 1 [[accD 1 k (o.map encS)]])] ++ (accH 9 1 k (o.map encS) ++ []))⟩ : St)) (St.Le.ofSub ⟨rfl, rfl, rfl, rfl, rfl, trivial⟩ hsub) (SRound.seqR (SOps.assign rfl (SOps.nil (SRound.region ?_))))
    refine SOps.alloc (sz := 2) zeroIs_124 (fun b2 hb_2 => ?_)
    refine SOps.storeAM 0 rfl rfl aggB_124_2 rfl (SOps.nil ?_)
    refine ⟨rfl, ?_⟩
    refine SRound.block (SRound.seq (SRound.seqR (SOps.loadRef 1 0 0 rfl flatB_4 rfl rfl rfl rfl (SOps.move rfl ?_))))
    refine SOps.caseB 35 rfl (fun hb4 => ?_) (fun hb4 => ?_)
    ·try simp only [nmL] at hb4
     refine SOps.indexRefA 0 rfl rfl arrayB_124_2_4_1 rfl (by omega) (SOps.loadRef 0 0 0 rfl flatB_4 rfl rfl rfl rfl (SOps.pick rfl rfl (SOps.nil ?_)))
     refine SRound.cond rfl (fun hc5 => ?_) (fun hc5 => ?_)
     ·try simp only [nmL] at hc5
      refine SRound.seqR ?_
      have hne : o ≠ [] := hop (by simp_all)
      have hol2 : 0 < o.length := List.length_pos_iff.2 hne
      have hon : 0 < (o.map encS).length := by rw [List.length_map]; exact hol2
      refine SOps.reHeap (H' := [(b2, .row 124 2 [[.v (.bool y.2.1), .v (.bool y.2.2)]]), (b1, .row 4 1 [[.v (.bool op)]]), (b0, .row 22 1 [[.sl k 1 0 o.length]]), (k, .row 9 1 (o.map encS))]) (by rw [accD_ne hon, accH_ne hon, List.length_map]; rfl) (SOps.loadRef 2 0 0 rfl flatB_22 rfl rfl rfl rfl (SOps.loadRef 2 0 0 rfl flatB_22 rfl rfl rfl rfl (SOps.lenSl rfl sliceB_22_9_1 (SOps.subI rfl rfl (by first | omega | (simp only [lenB]; omega) | (simp only [List.length_map, lenB]; omega) | (simp; done)) (by first | omega | (simp only [lenB]; omega) | (simp only [List.length_map, lenB]; omega) | (simp; done)) (SOps.indexS (o.length - 1) rfl rfl sliceB_22_9_1 (by omega) (by omega) (SOps.assign rfl (SOps.nil (SRound.region (SOps.move rfl (SOps.move rfl (SOps.nilCheck rfl rfl (SOps.loadK 3 (o.length - 1) rfl flatB_9 rfl (by omega) (by omega) rfl (SOps.callP (sTrimSuffix _ _) rfl ?_)))))))))))))
      rintro _ rfl
      refine SOps.move rfl (SOps.concat rfl rfl (by first | omega | (have h8 := trimB_size (o[o.length - 1]) ⟨#[45]⟩; have h7 := how _ (List.getElem_mem (show o.length - 1 < o.length by omega)); show _ + _ ≤ _; simp only [lenB]; omega)) (SOps.nilCheck rfl rfl (SOps.storeK 3 (o.length - 1) rfl rfl oneB_9 rfl (by omega) (by omega) rfl (fun _ => rfl) (SOps.nil ?_))))
      show SRound _ _ _ _ _
      refine SRound.region (SOps.indexRefA 1 rfl rfl arrayB_124_2_4_1 rfl (by omega) (SOps.loadRef 0 0 1 rfl flatB_4 rfl rfl rfl rfl (SOps.move rfl ?_)))
      refine SOps.caseB 58 rfl (fun hb6 => ?_) (fun hb6 => ?_)
      ·try simp only [nmL] at hb6
       refine SOps.move rfl (SOps.callP (sHasSuffix _ _) rfl ?_)
       rintro _ rfl
       refine SOps.pick rfl rfl (SOps.storeM 1 rfl rfl oneB_4 rfl (SOps.nil ?_))
       first
        | exact ⟨rfl, k, by rw [hnx, plJ hol2 (by assumption) (by assumption) (by assumption)]; dsimp only; rw [accD_ne (by simp; omega), accH_ne (by simp; omega)]; simp only [List.length_map, List.length_set]; exact .cons _ (.refl _)⟩
        | exact ⟨rfl, b3, by rw [hnx, plN (by first | exact .inl (by assumption) | exact .inr (by assumption)) (by assumption)]; dsimp only; rw [List.map_append]; exact .cons _ (.refl _)⟩
        | exact ⟨rfl, b4, by rw [hnx, plN (by first | exact .inl (by assumption) | exact .inr (by assumption)) (by assumption)]; dsimp only; rw [List.map_append]; exact .cons _ (.refl _)⟩
        | exact ⟨rfl, b5, by rw [hnx, plN (by first | exact .inl (by assumption) | exact .inr (by assumption)) (by assumption)]; dsimp only; rw [List.map_append]; exact .cons _ (.refl _)⟩
        | exact ⟨rfl, b6, by rw [hnx, plN (by first | exact .inl (by assumption) | exact .inr (by assumption)) (by assumption)]; dsimp only; rw [List.map_append]; exact .cons _ (.refl _)⟩
        | exact ⟨rfl, b7, by rw [hnx, plN (by first | exact .inl (by assumption) | exact .inr (by assumption)) (by assumption)]; dsimp only; rw [List.map_append]; exact .cons _ (.refl _)⟩
        | exact ⟨rfl, b8, by rw [hnx, plN (by first | exact .inl (by assumption) | exact .inr (by assumption)) (by assumption)]; dsimp only; rw [List.map_append]; exact .cons _ (.refl _)⟩
        | exact ⟨rfl, b9, by rw [hnx, plN (by first | exact .inl (by assumption) | exact .inr (by assumption)) (by assumption)]; dsimp only; rw [List.map_append]; exact .cons _ (.refl _)⟩
        | exact ⟨rfl, b10, by rw [hnx, plN (by first | exact .inl (by assumption) | exact .inr (by assumption)) (by assumption)]; dsimp only; rw [List.map_append]; exact .cons _ (.refl _)⟩
        | exact ⟨rfl, b11, by rw [hnx, plN (by first | exact .inl (by assumption) | exact .inr (by assumption)) (by assumption)]; dsimp only; rw [List.map_append]; exact .cons _ (.refl _)⟩
      ·try simp only [nmL] at hb6
       refine SOps.skip rfl (SOps.skip rfl (SOps.pick rfl rfl (SOps.storeM 1 rfl rfl oneB_4 rfl (SOps.nil ?_))))
       first
        | exact ⟨rfl, k, by rw [hnx, plJ hol2 (by assumption) (by assumption) (by assumption)]; dsimp only; rw [accD_ne (by simp; omega), accH_ne (by simp; omega)]; simp only [List.length_map, List.length_set]; exact .cons _ (.refl _)⟩
        | exact ⟨rfl, b3, by rw [hnx, plN (by first | exact .inl (by assumption) | exact .inr (by assumption)) (by assumption)]; dsimp only; rw [List.map_append]; exact .cons _ (.refl _)⟩
        | exact ⟨rfl, b4, by rw [hnx, plN (by first | exact .inl (by assumption) | exact .inr (by assumption)) (by assumption)]; dsimp only; rw [List.map_append]; exact .cons _ (.refl _)⟩
        | exact ⟨rfl, b5, by rw [hnx, plN (by first | exact .inl (by assumption) | exact .inr (by assumption)) (by assumption)]; dsimp only; rw [List.map_append]; exact .cons _ (.refl _)⟩
        | exact ⟨rfl, b6, by rw [hnx, plN (by first | exact .inl (by assumption) | exact .inr (by assumption)) (by assumption)]; dsimp only; rw [List.map_append]; exact .cons _ (.refl _)⟩
        | exact ⟨rfl, b7, by rw [hnx, plN (by first | exact .inl (by assumption) | exact .inr (by assumption)) (by assumption)]; dsimp only; rw [List.map_append]; exact .cons _ (.refl _)⟩
        | exact ⟨rfl, b8, by rw [hnx, plN (by first | exact .inl (by assumption) | exact .inr (by assumption)) (by assumption)]; dsimp only; rw [List.map_append]; exact .cons _ (.refl _)⟩
        | exact ⟨rfl, b9, by rw [hnx, plN (by first | exact .inl (by assumption) | exact .inr (by assumption)) (by assumption)]; dsimp only; rw [List.map_append]; exact .cons _ (.refl _)⟩
        | exact ⟨rfl, b10, by rw [hnx, plN (by first | exact .inl (by assumption) | exact .inr (by assumption)) (by assumption)]; dsimp only; rw [List.map_append]; exact .cons _ (.refl _)⟩
        | exact ⟨rfl, b11, by rw [hnx, plN (by first | exact .inl (by assumption) | exact .inr (by assumption)) (by assumption)]; dsimp only; rw [List.map_append]; exact .cons _ (.refl _)⟩
     ·try simp only [nmL] at hc5
      refine SRound.region (SOps.loadRef 2 0 0 rfl flatB_22 rfl rfl rfl rfl (SOps.move rfl (SOps.frame1 (SOps.litF rfl sliceB_22_9_1 zeroIs_9 rfl (SOps.nil rfl)) ?_)))
      refine SOps.appendAcc [_, _, _] _ sliceB_22_9_1 elemB_9_1_16 rfl rfl rfl SrcD.isl (by simp) (by first | (simp [lenB] <;> (first | omega | (simp only [lenB]; omega) | (simp only [List.length_map, lenB]; omega) | (simp; done))) | (simp only [lenB]; (first | omega | (simp only [lenB]; omega) | (simp only [List.length_map, lenB]; omega) | (simp; done)))) (by first | (simp <;> (first | omega | (simp only [lenB]; omega) | (simp only [List.length_map, lenB]; omega) | (simp; done))) | (first | omega | (simp only [lenB]; omega) | (simp only [List.length_map, lenB]; omega) | (simp; done))) (fun b3 => ?_)
      refine SOps.storeM 2 rfl rfl oneB_22 rfl ?_ (accD_one _ _ _)
      refine SOps.nil ?_
      show SRound _ _ _ _ _
      refine SRound.region (SOps.indexRefA 1 rfl rfl arrayB_124_2_4_1 rfl (by omega) (SOps.loadRef 0 0 1 rfl flatB_4 rfl rfl rfl rfl (SOps.move rfl ?_)))
      refine SOps.caseB 58 rfl (fun hb7 => ?_) (fun hb7 => ?_)
      ·try simp only [nmL] at hb7
       refine SOps.move rfl (SOps.callP (sHasSuffix _ _) rfl ?_)
       rintro _ rfl
       refine SOps.pick rfl rfl (SOps.storeM 1 rfl rfl oneB_4 rfl (SOps.nil ?_))
       first
        | exact ⟨rfl, k, by rw [hnx, plJ hol2 (by assumption) (by assumption) (by assumption)]; dsimp only; rw [accD_ne (by simp; omega), accH_ne (by simp; omega)]; simp only [List.length_map, List.length_set]; exact .cons _ (.refl _)⟩
        | exact ⟨rfl, b3, by rw [hnx, plN (by first | exact .inl (by assumption) | exact .inr (by assumption)) (by assumption)]; dsimp only; rw [List.map_append]; exact .cons _ (.refl _)⟩
        | exact ⟨rfl, b4, by rw [hnx, plN (by first | exact .inl (by assumption) | exact .inr (by assumption)) (by assumption)]; dsimp only; rw [List.map_append]; exact .cons _ (.refl _)⟩
        | exact ⟨rfl, b5, by rw [hnx, plN (by first | exact .inl (by assumption) | exact .inr (by assumption)) (by assumption)]; dsimp only; rw [List.map_append]; exact .cons _ (.refl _)⟩
        | exact ⟨rfl, b6, by rw [hnx, plN (by first | exact .inl (by assumption) | exact .inr (by assumption)) (by assumption)]; dsimp only; rw [List.map_append]; exact .cons _ (.refl _)⟩
        | exact ⟨rfl, b7, by rw [hnx, plN (by first | exact .inl (by assumption) | exact .inr (by assumption)) (by assumption)]; dsimp only; rw [List.map_append]; exact .cons _ (.refl _)⟩
        | exact ⟨rfl, b8, by rw [hnx, plN (by first | exact .inl (by assumption) | exact .inr (by assumption)) (by assumption)]; dsimp only; rw [List.map_append]; exact .cons _ (.refl _)⟩
        | exact ⟨rfl, b9, by rw [hnx, plN (by first | exact .inl (by assumption) | exact .inr (by assumption)) (by assumption)]; dsimp only; rw [List.map_append]; exact .cons _ (.refl _)⟩
        | exact ⟨rfl, b10, by rw [hnx, plN (by first | exact .inl (by assumption) | exact .inr (by assumption)) (by assumption)]; dsimp only; rw [List.map_append]; exact .cons _ (.refl _)⟩
        | exact ⟨rfl, b11, by rw [hnx, plN (by first | exact .inl (by assumption) | exact .inr (by assumption)) (by assumption)]; dsimp only; rw [List.map_append]; exact .cons _ (.refl _)⟩
      ·try simp only [nmL] at hb7
       refine SOps.skip rfl (SOps.skip rfl (SOps.pick rfl rfl (SOps.storeM 1 rfl rfl oneB_4 rfl (SOps.nil ?_))))
       first
        | exact ⟨rfl, k, by rw [hnx, plJ hol2 (by assumption) (by assumption) (by assumption)]; dsimp only; rw [accD_ne (by simp; omega), accH_ne (by simp; omega)]; simp only [List.length_map, List.length_set]; exact .cons _ (.refl _)⟩
        | exact ⟨rfl, b3, by rw [hnx, plN (by first | exact .inl (by assumption) | exact .inr (by assumption)) (by assumption)]; dsimp only; rw [List.map_append]; exact .cons _ (.refl _)⟩
        | exact ⟨rfl, b4, by rw [hnx, plN (by first | exact .inl (by assumption) | exact .inr (by assumption)) (by assumption)]; dsimp only; rw [List.map_append]; exact .cons _ (.refl _)⟩
        | exact ⟨rfl, b5, by rw [hnx, plN (by first | exact .inl (by assumption) | exact .inr (by assumption)) (by assumption)]; dsimp only; rw [List.map_append]; exact .cons _ (.refl _)⟩
        | exact ⟨rfl, b6, by rw [hnx, plN (by first | exact .inl (by assumption) | exact .inr (by assumption)) (by assumption)]; dsimp only; rw [List.map_append]; exact .cons _ (.refl _)⟩
        | exact ⟨rfl, b7, by rw [hnx, plN (by first | exact .inl (by assumption) | exact .inr (by assumption)) (by assumption)]; dsimp only; rw [List.map_append]; exact .cons _ (.refl _)⟩
        | exact ⟨rfl, b8, by rw [hnx, plN (by first | exact .inl (by assumption) | exact .inr (by assumption)) (by assumption)]; dsimp only; rw [List.map_append]; exact .cons _ (.refl _)⟩
        | exact ⟨rfl, b9, by rw [hnx, plN (by first | exact .inl (by assumption) | exact .inr (by assumption)) (by assumption)]; dsimp only; rw [List.map_append]; exact .cons _ (.refl _)⟩
        | exact ⟨rfl, b10, by rw [hnx, plN (by first | exact .inl (by assumption) | exact .inr (by assumption)) (by assumption)]; dsimp only; rw [List.map_append]; exact .cons _ (.refl _)⟩
        | exact ⟨rfl, b11, by rw [hnx, plN (by first | exact .inl (by assumption) | exact .inr (by assumption)) (by assumption)]; dsimp only; rw [List.map_append]; exact .cons _ (.refl _)⟩
    ·try simp only [nmL] at hb4
     refine SOps.skip rfl (SOps.skip rfl (SOps.pick rfl rfl (SOps.nil ?_)))
     refine SRound.cond rfl (fun h => by cases h) (fun _ => ?_)
     refine SRound.region (SOps.loadRef 2 0 0 rfl flatB_22 rfl rfl rfl rfl (SOps.move rfl (SOps.frame1 (SOps.litF rfl sliceB_22_9_1 zeroIs_9 rfl (SOps.nil rfl)) ?_)))
     refine SOps.appendAcc [_, _, _] _ sliceB_22_9_1 elemB_9_1_16 rfl rfl rfl SrcD.isl (by simp) (by first | (simp [lenB] <;> (first | omega | (simp only [lenB]; omega) | (simp only [List.length_map, lenB]; omega) | (simp; done))) | (simp only [lenB]; (first | omega | (simp only [lenB]; omega) | (simp only [List.length_map, lenB]; omega) | (simp; done)))) (by first | (simp <;> (first | omega | (simp only [lenB]; omega) | (simp only [List.length_map, lenB]; omega) | (simp; done))) | (first | omega | (simp only [lenB]; omega) | (simp only [List.length_map, lenB]; omega) | (simp; done))) (fun b4 => ?_)
     refine SOps.storeM 2 rfl rfl oneB_22 rfl ?_ (accD_one _ _ _)
     refine SOps.nil ?_
     show SRound _ _ _ _ _
     refine SRound.region (SOps.indexRefA 1 rfl rfl arrayB_124_2_4_1 rfl (by omega) (SOps.loadRef 0 0 1 rfl flatB_4 rfl rfl rfl rfl (SOps.move rfl ?_)))
     refine SOps.caseB 58 rfl (fun hb8 => ?_) (fun hb8 => ?_)
     ·try simp only [nmL] at hb8
      refine SOps.move rfl (SOps.callP (sHasSuffix _ _) rfl ?_)
      rintro _ rfl
      refine SOps.pick rfl rfl (SOps.storeM 1 rfl rfl oneB_4 rfl (SOps.nil ?_))
      first
       | exact ⟨rfl, k, by rw [hnx, plJ hol2 (by assumption) (by assumption) (by assumption)]; dsimp only; rw [accD_ne (by simp; omega), accH_ne (by simp; omega)]; simp only [List.length_map, List.length_set]; exact .cons _ (.refl _)⟩
       | exact ⟨rfl, b3, by rw [hnx, plN (by first | exact .inl (by assumption) | exact .inr (by assumption)) (by assumption)]; dsimp only; rw [List.map_append]; exact .cons _ (.refl _)⟩
       | exact ⟨rfl, b4, by rw [hnx, plN (by first | exact .inl (by assumption) | exact .inr (by assumption)) (by assumption)]; dsimp only; rw [List.map_append]; exact .cons _ (.refl _)⟩
       | exact ⟨rfl, b5, by rw [hnx, plN (by first | exact .inl (by assumption) | exact .inr (by assumption)) (by assumption)]; dsimp only; rw [List.map_append]; exact .cons _ (.refl _)⟩
       | exact ⟨rfl, b6, by rw [hnx, plN (by first | exact .inl (by assumption) | exact .inr (by assumption)) (by assumption)]; dsimp only; rw [List.map_append]; exact .cons _ (.refl _)⟩
       | exact ⟨rfl, b7, by rw [hnx, plN (by first | exact .inl (by assumption) | exact .inr (by assumption)) (by assumption)]; dsimp only; rw [List.map_append]; exact .cons _ (.refl _)⟩
       | exact ⟨rfl, b8, by rw [hnx, plN (by first | exact .inl (by assumption) | exact .inr (by assumption)) (by assumption)]; dsimp only; rw [List.map_append]; exact .cons _ (.refl _)⟩
       | exact ⟨rfl, b9, by rw [hnx, plN (by first | exact .inl (by assumption) | exact .inr (by assumption)) (by assumption)]; dsimp only; rw [List.map_append]; exact .cons _ (.refl _)⟩
       | exact ⟨rfl, b10, by rw [hnx, plN (by first | exact .inl (by assumption) | exact .inr (by assumption)) (by assumption)]; dsimp only; rw [List.map_append]; exact .cons _ (.refl _)⟩
       | exact ⟨rfl, b11, by rw [hnx, plN (by first | exact .inl (by assumption) | exact .inr (by assumption)) (by assumption)]; dsimp only; rw [List.map_append]; exact .cons _ (.refl _)⟩
     ·try simp only [nmL] at hb8
      refine SOps.skip rfl (SOps.skip rfl (SOps.pick rfl rfl (SOps.storeM 1 rfl rfl oneB_4 rfl (SOps.nil ?_))))
      first
       | exact ⟨rfl, k, by rw [hnx, plJ hol2 (by assumption) (by assumption) (by assumption)]; dsimp only; rw [accD_ne (by simp; omega), accH_ne (by simp; omega)]; simp only [List.length_map, List.length_set]; exact .cons _ (.refl _)⟩
       | exact ⟨rfl, b3, by rw [hnx, plN (by first | exact .inl (by assumption) | exact .inr (by assumption)) (by assumption)]; dsimp only; rw [List.map_append]; exact .cons _ (.refl _)⟩
       | exact ⟨rfl, b4, by rw [hnx, plN (by first | exact .inl (by assumption) | exact .inr (by assumption)) (by assumption)]; dsimp only; rw [List.map_append]; exact .cons _ (.refl _)⟩
       | exact ⟨rfl, b5, by rw [hnx, plN (by first | exact .inl (by assumption) | exact .inr (by assumption)) (by assumption)]; dsimp only; rw [List.map_append]; exact .cons _ (.refl _)⟩
       | exact ⟨rfl, b6, by rw [hnx, plN (by first | exact .inl (by assumption) | exact .inr (by assumption)) (by assumption)]; dsimp only; rw [List.map_append]; exact .cons _ (.refl _)⟩
       | exact ⟨rfl, b7, by rw [hnx, plN (by first | exact .inl (by assumption) | exact .inr (by assumption)) (by assumption)]; dsimp only; rw [List.map_append]; exact .cons _ (.refl _)⟩
       | exact ⟨rfl, b8, by rw [hnx, plN (by first | exact .inl (by assumption) | exact .inr (by assumption)) (by assumption)]; dsimp only; rw [List.map_append]; exact .cons _ (.refl _)⟩
       | exact ⟨rfl, b9, by rw [hnx, plN (by first | exact .inl (by assumption) | exact .inr (by assumption)) (by assumption)]; dsimp only; rw [List.map_append]; exact .cons _ (.refl _)⟩
       | exact ⟨rfl, b10, by rw [hnx, plN (by first | exact .inl (by assumption) | exact .inr (by assumption)) (by assumption)]; dsimp only; rw [List.map_append]; exact .cons _ (.refl _)⟩
       | exact ⟨rfl, b11, by rw [hnx, plN (by first | exact .inl (by assumption) | exact .inr (by assumption)) (by assumption)]; dsimp only; rw [List.map_append]; exact .cons _ (.refl _)⟩
   ·obtain ⟨k, hsub⟩ := hI
    rw [List.length_map] at hsub
    obtain ⟨-, hol, how⟩ := plR_inv hM (wrdA fl pg).length (Nat.le_refl _)
    show SMCode _ _ _ _ _
    refine SMCode.weaken (st' := (⟨75, [(2, .ipin (encG l)), (8, .ref b0 0), (9, .ref b1 0)], ([(b1, .row 4 1 [[.v (.bool (plR (wrdA fl pg) (wrdA fl pg).length).2)]]), (b0, .row 22 1 [[accD 1 k ((plR (wrdA fl pg) (wrdA fl pg).length).1.map encS)]])] ++ (accH 9 1 k ((plR (wrdA fl pg) (wrdA fl pg).length).1.map encS) ++ []))⟩ : St)) (St.Le.ofSub ⟨rfl, rfl, rfl, trivial⟩ hsub) (SMCode.seq (SMCode.seqR (SOps.loadRef 0 0 0 rfl flatB_4 rfl rfl rfl rfl (SOps.nil ?_))))
    refine SMCode.cond rfl (fun hc9 => ?_) (fun hc9 => ?_)
    ·try simp only [nmL] at hc9
     refine SMCode.seqR (SOps.assign rfl (SOps.assign rfl (SOps.nil (SMCode.ret ?_))))
     exact ⟨_, Res.two (.tmp rfl) (.tmp rfl), congrArg (fun p : ByteArray × Int => DV.tup [.v (.string p.1), .v (.int .i64 p.2)]) (show (.empty, 3) = plainR vd se fl pg from Eq.symm (by unfold plainR; rw [if_neg (by simp_all), if_neg (by rw [hua]; simp), if_pos (by assumption)]))⟩
    ·try simp only [nmL] at hc9
     refine SMCode.skip ?_
     show SMCode _ _ _ _ _
     refine SMCode.seqR (SOps.loadRef 1 0 0 rfl flatB_22 rfl rfl rfl rfl ?_)
     refine SOps.callH [_, _] _ _ (GCall.thawAcc (sJoin _ (by omega) (fun w h => Nat.le_trans (how w h) hX))) rfl rfl (fun d H hR => ?_)
     obtain ⟨rfl, rfl⟩ := hR
     refine SOps.assign rfl (SOps.nil (SMCode.seq (SMCode.seqR (SOps.loadPinA rfl aggB_62_30 (Nat.le_of_ble_eq_true rfl) (SOps.move rfl (SOps.callP h65 rfl ?_))))))
     rintro _ ⟨d4, rfl⟩
     refine SOps.move rfl (SOps.extract rfl rfl (SOps.extract rfl rfl (SOps.assign rfl (SOps.assign rfl (SOps.nil (SMCode.seqR (SOps.move rfl (SOps.bin rfl rfl rfl (SOps.nil ?_)))))))))
     refine SMCode.cond rfl (fun hc10 => ?_) (fun hc10 => ?_)
     ·try simp only [nmL] at hc10
      refine SMCode.seqR (SOps.move rfl (SOps.assign rfl (SOps.assign rfl (SOps.nil (SMCode.ret ?_)))))
      exact ⟨_, Res.two (.tmp rfl) (.tmp rfl), congrArg (fun p : ByteArray × Int => DV.tup [.v (.string p.1), .v (.int .i64 p.2)]) (show (.empty, se) = plainR vd se fl pg from Eq.symm (by unfold plainR; rw [if_neg (by simp_all), if_neg (by rw [hua]; simp), if_neg (by simp_all), if_pos (by simp_all)]))⟩
     ·try simp only [nmL] at hc10
      refine SMCode.skip ?_
      show SMCode _ _ _ _ _
      refine SMCode.seqR (SOps.move rfl (SOps.assign rfl (SOps.assign rfl (SOps.nil (SMCode.ret ?_)))))
      exact ⟨_, Res.two (.tmp rfl) (.tmp rfl), congrArg (fun p : ByteArray × Int => DV.tup [.v (.string p.1), .v (.int .i64 p.2)]) (show ((catW (plR (wrdA fl pg) (wrdA fl pg).length).1), 0) = plainR vd se fl pg from Eq.symm (by unfold plainR; rw [if_neg (by simp_all), if_neg (by rw [hua]; simp), if_neg (by simp_all), if_neg (by simp_all)]))⟩
theorem cPlain (hV : VS E) (l : Lng) (pg : List ByteArray) (lg : ByteArray → ByteArray) (fl : ByteArray → List ByteArray) (vd : Bool) (se : Int) (M : Nat) (hM : ∀ x ∈ (wrdA fl pg), x.1.size ≤ M) (hX : (wrdA fl pg).length * M ≤ 1048576) (hX2 : (wrdA fl pg).length ≤ 1048576)
    (hLg : ∀ w ∈ pg, GCall Tryz.prog E 28 [.v (.int .i64 (baseR l)), .v (.string w)] [] (fun d H => d = .v (.string (lg w)) ∧ H = [])) (hFF : ∀ w ∈ pg, GCall Tryz.prog E 106 [.v (.string (lg w)), .fn 107 []] [] (fun d H => d = DStrs (fl w) ∧ H = []))
    (h64 : GCall Tryz.prog E 64 [.agg (encG l)] [] (fun d H => d = .v (.bool vd) ∧ H = [])) (h65 : GCall Tryz.prog E 65 [.agg (encG l), .v (.string (catW (plR (wrdA fl pg) (wrdA fl pg).length).1))] [] (fun d H => (∃ d4, d = .tup [d4, .v (.int .i64 se)]) ∧ H = [])) : GCall Tryz.prog E 30 [.agg (encG l), DStrs pg] [] (fun d H => d = .tup [.v (.string (plainR vd se fl pg).1), .v (.int .i64 (plainR vd se fl pg).2)] ∧ H = []) :=
  GCall.clean (cPlain0 hV l pg lg fl vd se M hM hX hX2 hLg hFF h64 h65) (fun d H h => ⟨d, fun _ _ _ h => h, h⟩)
end Go.GH
namespace Go.GH
open Go Go.Lib Go.Proofs Go.RowKit
variable {E : Env}
def blkP (r : Nat) : Bool := decide ((r : Int) = 32)
def fldR (s : ByteArray) : List ByteArray := Lib.goFieldsP blkP s
theorem spansP_len (p : Nat → Bool) (s : ByteArray) : ∀ (f pos : Nat) (st : Option Nat) (acc : List (Nat × Nat)), (spansFromP p s f pos st acc).1.length ≤ acc.length + f
  | 0, _, _, _ => Nat.le_refl _
  | f + 1, pos, st, acc => by
    unfold spansFromP
    split
    · split
      · cases st with
        | none => exact Nat.le_trans (spansP_len p s f _ _ _) (by omega)
        | some a => exact Nat.le_trans (spansP_len p s f _ _ _) (by simp; omega)
      · cases st with
        | none => exact Nat.le_trans (spansP_len p s f _ _ _) (by omega)
        | some a => exact Nat.le_trans (spansP_len p s f _ _ _) (by omega)
    · simp
theorem fldR_len (s : ByteArray) : (fldR s).length ≤ s.size + 1 := by
  unfold fldR Lib.goFieldsP spansOfP
  rw [List.length_map]
  have h := spansP_len blkP s s.size 0 none []
  unfold closeSpans
  split <;> simp at h ⊢ <;> omega
theorem fldR_size {s x : ByteArray} (h : x ∈ fldR s) : x.size ≤ s.size := by
  unfold fldR Lib.goFieldsP at h
  obtain ⟨y, _, rfl⟩ := List.mem_map.1 h
  rw [ByteArray.size_extract]
  omega
theorem Tryz.isBlank (w : World) : PredAtRunes Tryz.prog 107 #[] blkP w := fun W r _ _ => by
  unfold FnGives
  go_enter Tryz.func107, Tryz.ntmps107
  go_wp2
  go_ret
  exact ⟨rfl, 0, rfl⟩
theorem sFields (s : ByteArray) (hs : s.size ≤ 1048576) : GCall Tryz.prog E 106 [.v (.string s), .fn 107 []] [] (fun d H => d = DStrs (fldR s) ∧ H = []) := by
  refine GCall.ofRow (by kernel_rfl) (fun x hx => Nat.le_trans (fldR_size hx) (by unfold lenB; omega)) (Nat.le_trans (fldR_len s) (by unfold lenB; omega)) (fun w F vs hE hF hl hr => ?_)
  have hl2 : vs.size = 2 := hl
  have h0 := (hr 0 vs[0] _ (Array.getElem?_eq_getElem (by omega)) rfl).inv_v.1
  have h1 := hr 1 vs[1] _ (Array.getElem?_eq_getElem (by omega)) rfl
  have hv : vs = #[vs[0], vs[1]] := by
    apply Array.ext
    · simpa using hl
    · intro i h2 h3
      rcases (show i = 0 ∨ i = 1 by simp at h3; omega) with rfl | rfl <;> rfl
  rw [hv, h0]
  generalize vs[1] = v1 at h1
  cases h1 with
  | @fn _ us _ hul _ =>
    obtain rfl : us = #[] := Array.eq_empty_of_size_eq_zero (by simpa using hul)
    refine (Any.strings_FieldsFunc_runes Tryz.laysFF 107 #[] (enters_of Tryz.func107 (by kernel_rfl) rfl) blkP s w (by omega) (Tryz.isBlank w) (by kernel_rfl) (by kernel_rfl)).mono ?_
    rintro e w' ⟨A, h3, h4, h5, h6⟩
    refine ⟨⟨A, _, h3, Nat.le_refl _, h4, ?_⟩, h6⟩
    obtain ⟨a1, a2⟩ := h5
    rcases a2 with ⟨a2, _⟩ | ⟨g, cap, cur, e1, e2, e3, e4, e5, e6, e7⟩
    · cases a2
    · simp only [Value.slice.injEq, Option.some.injEq, Addr.mk.injEq, and_true, true_and] at e1
      obtain ⟨rfl, rfl⟩ := e1
      refine ⟨(Array.getElem?_eq_some_iff.1 e3).1, fun j x hj => ?_⟩
      have h7 : cur[j]? = some (.string x) := by
        rw [← Array.getElem?_toList]
        have h8 := congrArg (fun l => l[j]?) e7
        simp only [List.getElem?_take, List.getElem?_map] at h8
        have hjl : j < (goFieldsP blkP s).length := (List.getElem?_eq_some_iff.1 hj).1
        rw [if_pos (by omega), show (goFieldsP blkP s)[j]? = some x from hj] at h8
        exact h8
      unfold World.cell?
      simp [e3, h7]
end Go.GH
namespace Go.GH
open Go Go.Lib Go.Proofs Go.RowKit

/-! ### the environment -/
def E50 : Env where
  holds := fun w F => Lib.Utf8Tabs 0 1 w ∧ F 0 ∧ F 1 ∧ (∃ m, w.cell? ⟨2, 0, none⟩ = some (.int .i64 m)) ∧ F 2
  mono := fun {w w' F F'} hw hF h => by
    obtain ⟨⟨h1, h2⟩, h3, h4, h5, h6⟩ := h
    refine ⟨⟨fun c hc => ?_, fun i hi => ⟨?_, ?_⟩⟩, hF _ h3, hF _ h4, ?_, hF _ h6⟩
    · rw [cell?_same (hw _ h3)]; exact h1 c hc
    · rw [cell?_same (hw _ h4)]; exact (h2 i hi).1
    · rw [cell?_same (hw _ h4)]; exact (h2 i hi).2
    · rw [cell?_same (hw _ h6)]; exact h5
theorem vs50 : VS E50 := fun s => GCall.ofCalls (by kernel_rfl) trivial (fun w F vs hE hl hr => by
    obtain ⟨rfl, hs⟩ := arg1 hl hr
    rw [utf8R_valid]
    exact Any.utf8_ValidString Tryz.laysValid s w hs hE.1)
/-- strings.Split at the blank. -/
def splB (s : ByteArray) : List ByteArray := Lib.splitB sp1 0 (Lib.countB s sp1) s
theorem splitB_size (sep : ByteArray) : ∀ (k : Nat) (s x : ByteArray), x ∈ Lib.splitB sep 0 k s → x.size ≤ s.size
  | 0, s, x, h => by rw [Lib.splitB_zero, List.mem_singleton] at h; rw [h]; exact Nat.le_refl _
  | k + 1, s, x, h => by
    unfold Lib.splitB at h
    split at h
    · rw [List.mem_singleton] at h; rw [h]; exact Nat.le_refl _
    · rcases List.mem_cons.1 h with h | h
      · rw [h, ByteArray.size_extract]; omega
      · have := splitB_size sep k _ x h
        rw [ByteArray.size_extract] at this
        omega
theorem splitB_len (sep : ByteArray) : ∀ (k : Nat) (s : ByteArray), (Lib.splitB sep 0 k s).length ≤ k + 1
  | 0, s => Nat.le_refl _
  | k + 1, s => by
    unfold Lib.splitB
    split
    · simp
    · have := splitB_len sep k (s.extract ((Lib.indexB s sep).toNat + sep.size) s.size)
      simp only [List.length_cons]
      omega
theorem arg2' {w : World} {F : Nat → Prop} {vs : Array Value} {x y : Value} (hl : vs.size = 2) (hr : ∀ (j : Nat) (v : Value) (d : DV), vs[j]? = some v → [DV.v x, DV.v y][j]? = some d → Rep w F v d) : vs = #[x, y] := (arg2 hl hr).1
theorem sSplitB (s : ByteArray) (hs : s.size ≤ 1048576) : GCall Tryz.prog E50 100 [.v (.string s), .v (.string sp1)] [] (fun d H => d = DStrs (splB s) ∧ H = []) := by
  have hcb := Lib.countB_le sp1 (by decide) s.size s (Nat.le_refl _)
  have hlen := splitB_len sp1 (Lib.countB s sp1) s
  refine GCall.ofRow (by kernel_rfl) (fun x hx => Nat.le_trans (splitB_size sp1 _ s x hx) (by unfold lenB; omega)) (Nat.le_trans hlen (by unfold lenB; omega)) (fun w F vs hE hF hl hr => ?_)
  rw [arg2' hl hr]
  obtain ⟨_, _, _, ⟨m, hm⟩, _⟩ := hE
  refine (Any.strings_Split { Tryz.laysSplit with } Tryz.laysSplit.i9 s sp1 m w (by omega) hm (by decide)).mono ?_
  rintro e w' ⟨h1, rfl⟩
  have hall : (splB s).length = Lib.countB s sp1 + 1 := by
    have := Lib.splitB_all sp1 (by decide) 0 _ s rfl
    unfold splB
    omega
  refine ⟨⟨w.heap.size, Lib.countB s sp1 + 1, by rw [h1, hall], by rw [hall]; exact Nat.le_refl _, Nat.le_refl _, by simp, fun j x hj => ?_⟩, (Below.refl _ w).alloc (Nat.le_refl _) _⟩
  unfold World.cell?
  rw [World.alloc_heap_new]
  have h9 : ((Lib.splitB sp1 0 (Lib.countB s sp1) s).map Value.string)[j]? = some (Value.string x) := by rw [List.getElem?_map, show (Lib.splitB sp1 0 (Lib.countB s sp1) s)[j]? = some x from hj]; rfl
  simp [h9]

/-! ### calls that only read -/
def onE {α : Type} (b : Bool) (x : α) : Option α := bif b then some x else none
theorem onE_some {α : Type} {b : Bool} {x y : α} (h : onE b x = some y) : b = true ∧ x = y := by
  unfold onE at h
  cases b with
  | true => exact ⟨rfl, Option.some.inj h⟩
  | false => cases h
theorem RL1 {ρ : Rn} {x : Value} {ds : List DV} (h : RL ρ [.v x] ds) : ds = [.v x] := by
  obtain ⟨b, t, rfl, h1, h2⟩ := h.inv_cons
  rw [h1.inv_v, h2.inv_nil]
theorem RL2 {ρ : Rn} {x y : Value} {ds : List DV} (h : RL ρ [.v x, .v y] ds) : ds = [.v x, .v y] := by
  obtain ⟨b, t, rfl, h1, h2⟩ := h.inv_cons
  rw [h1.inv_v, RL1 h2]
theorem RL.self {ρ : Rn} {l : List DV} (h : ∀ d ∈ l, ∃ x, d = .v x) : RL ρ l l := PWl.refl (fun a ha => by obtain ⟨x, rfl⟩ := h a ha; exact .v x)
theorem RD.strs (ρ : Rn) (l : List ByteArray) : RD ρ (DStrs l) (DStrs l) := RD.isl' (PWl.refl (fun a ha => RL.self (fun d hd => by
  obtain ⟨x, _, rfl⟩ := List.mem_map.1 ha
  exact ⟨_, by simpa [encS] using hd⟩)))
abbrev OkH (g : FuncId) (ds : List DV) (hp : Tr DO) (nx : Nat) (d : DV) (up : List (Nat × Option DO)) (nx' : Nat) : Prop :=
  Pure' hp.get nx (upsE hp up).get nx' (up.map (·.1)) ∧ CallOk Tryz.prog E50 g ds hp nx (d, upsE hp up, nx', up.map (·.1))
theorem hookP {g : FuncId} {ds : List DV} {hp : Tr DO} {nx : Nat} {d : DV} (hd : ∀ ρ, RD ρ d d) (h : ∀ ρ dsA, RL ρ ds dsA → GCall Tryz.prog E50 g dsA [] (fun d' H => d' = d ∧ H = [])) : OkH g ds hp nx d [] nx :=
  ⟨Pure'.refl _ _, fun ρ dsA H hc hf hR => (GCall.frameP (H0 := []) (G := H) (List.Perm.refl _) (h ρ dsA hR)).mono (by
    rintro d' H' ⟨H0', ⟨rfl, rfl⟩, rfl, _⟩
    exact ⟨ρ, Post.id (fun p hp => hp), hd ρ⟩)⟩
def isS (s t : ByteArray) : Bool := s.data.toList == t.data.toList
theorem isS_eq {s t : ByteArray} (h : isS s t = true) : s = t := by
  unfold isS at h
  have := eq_of_beq h
  exact ByteArray.ext (Array.toList_inj.1 this)
def hkP (f : FuncId) (ds : List DV) : Option (Option DV) := match ds with
  | [.v (.string s)] => bif Nat.beq f 70 then some (some (.v (.bool (utf8R s)))) else none
  | [.v (.string s), .v (.string p)] =>
    bif Nat.beq f 72 then some (some (.v (.string (trimB s p)))) else
    bif Nat.beq f 78 then some (onE (isS p spnl && (utf8R s && Nat.ble s.size 1048576)) (.v (.bool (anySp s)))) else
    bif Nat.beq f 100 then some (onE (isS p sp1 && Nat.ble s.size 1048576) (DStrs (splB s))) else none
  | [.v (.string s), .v (.int .i64 (.ofNat n))] => bif Nat.beq f 79 then some (onE (isS s sp1 && Nat.ble n 1048576) (.v (.string (blB n)))) else none
  | _ => none
theorem bif_ite {α : Type} {b : Bool} {x y z : α} (h : (bif b then x else y) = z) : (b = true ∧ x = z) ∨ (b = false ∧ y = z) := by
  cases b with
  | true => exact .inl ⟨rfl, h⟩
  | false => exact .inr ⟨rfl, h⟩
theorem hkP_ok {f : FuncId} {ds : List DV} {d : DV} {hp : Tr DO} {nx : Nat} (h : hkP f ds = some (some d)) : OkH f ds hp nx d [] nx := by
  unfold hkP at h
  split at h
  · rcases bif_ite h with ⟨hf, h⟩ | ⟨_, h⟩
    · cases h
      obtain rfl := Nat.eq_of_beq_eq_true hf
      exact hookP (fun ρ => .v _) (fun ρ dsA hR => by rw [RL1 hR]; exact vs50 _)
    · cases h
  · rcases bif_ite h with ⟨hf, h⟩ | ⟨_, h⟩
    · cases h
      obtain rfl := Nat.eq_of_beq_eq_true hf
      exact hookP (fun ρ => .v _) (fun ρ dsA hR => by rw [RL2 hR]; exact sTrimSuffix _ _)
    rcases bif_ite h with ⟨hf, h⟩ | ⟨_, h⟩
    · obtain rfl := Nat.eq_of_beq_eq_true hf
      obtain ⟨hc, rfl⟩ := onE_some (Option.some.inj h)
      simp only [Bool.and_eq_true] at hc
      obtain ⟨h1, h2, h3⟩ := hc
      obtain rfl := isS_eq h1
      exact hookP (fun ρ => .v _) (fun ρ dsA hR => by rw [RL2 hR]; exact sContainsAny _ h2 (Nat.le_of_ble_eq_true h3))
    rcases bif_ite h with ⟨hf, h⟩ | ⟨_, h⟩
    · obtain rfl := Nat.eq_of_beq_eq_true hf
      obtain ⟨hc, rfl⟩ := onE_some (Option.some.inj h)
      simp only [Bool.and_eq_true] at hc
      obtain ⟨h1, h3⟩ := hc
      obtain rfl := isS_eq h1
      exact hookP (fun ρ => RD.strs ρ _) (fun ρ dsA hR => by rw [RL2 hR]; exact sSplitB _ (Nat.le_of_ble_eq_true h3))
    · cases h
  · rcases bif_ite h with ⟨hf, h⟩ | ⟨_, h⟩
    · obtain rfl := Nat.eq_of_beq_eq_true hf
      obtain ⟨hc, rfl⟩ := onE_some (Option.some.inj h)
      simp only [Bool.and_eq_true] at hc
      obtain ⟨h1, h3⟩ := hc
      obtain rfl := isS_eq h1
      exact hookP (fun ρ => .v _) (fun ρ dsA hR => by rw [RL2 hR]; exact sRepeat _ (Nat.le_of_ble_eq_true h3))
    · cases h
  · cases h
end Go.GH
namespace Go.GH
open Go Go.Lib Go.Proofs Go.Proofs.YteodhhepbnehhaaGreatDoor
theorem u8Extra : U8Extra Tryz.prog Tryz.laysValid_ren :=
  ⟨by kernel_rfl, by kernel_rfl, by kernel_rfl, by kernel_rfl, by kernel_rfl, by kernel_rfl, by kernel_rfl⟩
theorem laid_E50 (W : World) (h : laidMetH Tryz.prog Rows.justifySheetsRow.laid W) (hS : W.ShapedOpen Tryz.prog) : E50.holds W (AllF W) := by
  have h' : laidMet Tryz.prog [("unicode/utf8.acceptRanges", Rows.laid_unicode_utf8_acceptRanges), ("unicode/utf8.first", Rows.laid_unicode_utf8_first)] W := h
  have e1 : Rows.laid_unicode_utf8_first = firstData := by kernel_rfl
  have e2 : (Rows.laid_unicode_utf8_acceptRanges : DataW Unit) = acceptData := by kernel_rfl
  rw [e1, e2] at h'
  obtain ⟨h1, h2, h3⟩ := tabE_all (utf8Tabs_of_readsT (U8Types.of196 Tryz.laysValid) u8Extra (laidMet.reads h' (.tail _ (.head _))) (laidMet.reads h' (.head _)))
  obtain ⟨m, hm⟩ := Tryz.laysSplit.s1_3 W hS
  exact ⟨h1, h2, h3, ⟨m, hm⟩, (cell?_lt hm).1⟩
end Go.GH
namespace Go.GH
open Go

theorem map_of {α β : Type} {f : α → β} : ∀ {es : List β}, (∀ e ∈ es, ∃ x, e = f x) → ∃ xs : List α, es = xs.map f
  | [], _ => ⟨[], rfl⟩
  | e :: es, h => by
    obtain ⟨x, rfl⟩ := h e (List.mem_cons_self ..)
    obtain ⟨xs, rfl⟩ := map_of (fun e he => h e (List.mem_cons_of_mem _ he))
    exact ⟨x :: xs, rfl⟩
def ElemIs (L : List DTy) (e : List DV) : Prop := e.length = L.length ∧ ∀ (j : Nat) d ty, e[j]? = some d → L[j]? = some ty → HasD ty d
theorem HasD.slice {α : Type} {L : List DTy} {f : α → List DV} {d : DV} (h : HasD (.sl L) d) (hf : ∀ e, ElemIs L e → ∃ x, e = f x) : ∃ xs : List α, d = .isl false L.length (xs.map f) := by
  cases h with
  | @sl L es hl hd =>
    obtain ⟨xs, rfl⟩ := map_of (f := f) (es := es) (fun e he => by
      obtain ⟨i, hi⟩ := List.mem_iff_getElem?.1 he
      exact hf e ⟨hl i e hi, fun j d ty hj ht => hd i e j d ty hi hj ht⟩)
    exact ⟨xs, rfl⟩
theorem ElemIs.one {ty : DTy} {e : List DV} (h : ElemIs [ty] e) : ∃ d, e = [d] ∧ HasD ty d := by
  obtain ⟨h1, h2⟩ := h
  match e, h1 with
  | [d], _ => exact ⟨d, rfl, h2 0 d ty rfl rfl⟩
theorem ElemIs.two {t1 t2 : DTy} {e : List DV} (h : ElemIs [t1, t2] e) : ∃ d1 d2, e = [d1, d2] ∧ HasD t1 d1 ∧ HasD t2 d2 := by
  obtain ⟨h1, h2⟩ := h
  match e, h1 with
  | [d1, d2], _ => exact ⟨d1, d2, rfl, h2 0 d1 t1 rfl rfl, h2 1 d2 t2 rfl rfl⟩
theorem ElemIs.three {t1 t2 t3 : DTy} {e : List DV} (h : ElemIs [t1, t2, t3] e) : ∃ d1 d2 d3, e = [d1, d2, d3] ∧ HasD t1 d1 ∧ HasD t2 d2 ∧ HasD t3 d3 := by
  obtain ⟨h1, h2⟩ := h
  match e, h1 with
  | [d1, d2, d3], _ => exact ⟨d1, d2, d3, rfl, h2 0 d1 t1 rfl rfl, h2 1 d2 t2 rfl rfl, h2 2 d3 t3 rfl rfl⟩
theorem HasD.int_inv {k : IntKind} {d : DV} (h : HasD (.int k) d) : ∃ n, d = .v (.int k n) ∧ k.has n := by cases h with | int h => exact ⟨_, rfl, h⟩
theorem HasD.str_inv {d : DV} (h : HasD .str d) : ∃ s, d = .v (.string s) := by cases h; exact ⟨_, rfl⟩
theorem HasD.bool_inv {d : DV} (h : HasD .bool d) : ∃ b, d = .v (.bool b) := by cases h; exact ⟨_, rfl⟩
theorem HasD.letters {d : DV} (h : HasD (.sl [.int .i32, .int .u32]) d) : ∃ a, d = DLs a :=
  h.slice (f := encL) (fun e he => by
    obtain ⟨d1, d2, rfl, h1, h2⟩ := he.two
    obtain ⟨r, rfl, _⟩ := h1.int_inv
    obtain ⟨c, rfl, _⟩ := h2.int_inv
    exact ⟨⟨r, c⟩, rfl⟩)
theorem HasD.ints {d : DV} (h : HasD (.sl [.int .i64]) d) : ∃ l, d = DInts l :=
  h.slice (f := encI) (fun e he => by
    obtain ⟨d1, rfl, h1⟩ := he.one
    obtain ⟨r, rfl, _⟩ := h1.int_inv
    exact ⟨r, rfl⟩)
theorem HasD.masks {d : DV} (h : HasD (.sl [.int .u32]) d) : ∃ l, d = DMasks l :=
  h.slice (f := encU) (fun e he => by
    obtain ⟨d1, rfl, h1⟩ := he.one
    obtain ⟨r, rfl, _⟩ := h1.int_inv
    exact ⟨r, rfl⟩)
theorem HasD.strs {d : DV} (h : HasD (.sl [.str]) d) : ∃ l, d = DStrs l :=
  h.slice (f := encS) (fun e he => by
    obtain ⟨d1, rfl, h1⟩ := he.one
    obtain ⟨r, rfl⟩ := h1.str_inv
    exact ⟨r, rfl⟩)

end Go.GH
namespace Go.GH
open Go Go.RowKit Go.Proofs.YteodhhepbnehhaaGreatDoor

inductive SmallD (N : Nat) : DV → Prop
  | v {x : Value} (h : ∀ s, x = .string s → s.size ≤ N) : SmallD N (.v x)
  | isl {nn : Bool} {sz : Nat} {es : List (List DV)} (hl : es.length ≤ N) (h : ∀ (i : Nat) e (j : Nat) d, es[i]? = some e → e[j]? = some d → SmallD N d) : SmallD N (.isl nn sz es)
theorem bulk_one {H : Type} (d : DataW H) : 1 ≤ Rows.uptoBulk d := by
  cases d with
  | lit l => cases l <;> simp [Rows.uptoBulk]
  | _ => simp [Rows.uptoBulk]
theorem bulk_part {H : Type} {d : DataW H} : ∀ {l : List (DataW H)}, d ∈ l → Rows.uptoBulk d ≤ Rows.uptoBulkAll l
  | [], h => by cases h
  | x :: l, h => by
    rw [Rows.uptoBulkAll]
    rcases List.mem_cons.1 h with rfl | h
    · omega
    · have := bulk_part h; omega
theorem bulk_len {H : Type} : ∀ (l : List (DataW H)), l.length ≤ Rows.uptoBulkAll l
  | [] => Nat.zero_le _
  | x :: l => by
    rw [Rows.uptoBulkAll, List.length_cons]
    have := bulk_len l
    have := bulk_one x
    omega
theorem bulk_elems {H : Type} (a b : List (DataW H)) : Rows.uptoBulkAll a ≤ Rows.uptoBulk (.slice a b) := by
  rw [Rows.uptoBulk]; omega
theorem bulk_agg {H : Type} (a : List (DataW H)) : Rows.uptoBulkAll a ≤ Rows.uptoBulk (.agg a) := by
  rw [Rows.uptoBulk]; omega
theorem bulk_str {H : Type} (s : ByteArray) : Rows.uptoBulk (DataW.lit (H := H) (.string s.data.toList)) = s.size + 1 := by
  rw [Rows.uptoBulk]; simp
def CellsS (N : Nat) (w : World) (cs : List Value) (L : List DTy) (ds : List DV) : Prop :=
  cs.length = L.length ∧ ds.length = L.length ∧ ∀ (j : Nat) v d ty, cs[j]? = some v → ds[j]? = some d → L[j]? = some ty → Rep w (AllF w) v d ∧ HasD ty d ∧ v.oneCell' = true ∧ SmallD N d
def PWS (N : Nat) (w : World) (cs : List Value) (L : List DTy) : Prop :=
  cs.length = L.length ∧ ∀ (j : Nat) v ty, cs[j]? = some v → L[j]? = some ty → ∃ d, Rep w (AllF w) v d ∧ HasD ty d ∧ v.oneCell' = true ∧ SmallD N d
theorem PWS.cells {N : Nat} {w : World} {cs : List Value} {L : List DTy} (h : PWS N w cs L) : ∃ ds, CellsS N w cs L ds := by
  have key : ∀ j, ∃ d, ∀ v ty, cs[j]? = some v → L[j]? = some ty → Rep w (AllF w) v d ∧ HasD ty d ∧ v.oneCell' = true ∧ SmallD N d := fun j => by
    by_cases hj : j < L.length
    · obtain ⟨d, hd⟩ := h.2 j _ _ (List.getElem?_eq_getElem (show j < cs.length by rw [h.1]; exact hj)) (List.getElem?_eq_getElem hj)
      refine ⟨d, fun v ty hv ht => ?_⟩
      rw [List.getElem?_eq_getElem (show j < cs.length by rw [h.1]; exact hj)] at hv
      rw [List.getElem?_eq_getElem hj] at ht
      obtain rfl := Option.some.inj hv
      obtain rfl := Option.some.inj ht
      exact hd
    · exact ⟨.any, fun v ty _ ht => absurd (List.getElem?_eq_some_iff.1 ht).1 hj⟩
  refine ⟨(List.range L.length).map (fun j => (key j).choose), h.1, by simp, fun j v d ty hv hd ht => ?_⟩
  rw [List.getElem?_map] at hd
  obtain ⟨q, hq, rfl⟩ := Option.map_eq_some_iff.1 hd
  have hlt : j < L.length := (List.getElem?_eq_some_iff.1 ht).1
  rw [List.getElem?_range hlt] at hq
  obtain rfl := Option.some.inj hq
  exact (key j).choose_spec v ty hv ht
theorem PWS.one {N : Nat} {w : World} {v : Value} {ty : DTy} {d : DV} (h1 : Rep w (AllF w) v d) (h2 : HasD ty d) (h3 : v.oneCell' = true) (h4 : SmallD N d) : PWS N w [v] [ty] :=
  ⟨rfl, fun j u t hv ht => by
    match j, hv, ht with
    | 0, hv, ht => simp at hv ht; subst hv; subst ht; exact ⟨d, h1, h2, h3, h4⟩
    | j + 1, hv, ht => simp at hv⟩
theorem pws_trod {N : Nat} {H : Type} {enc : TypeId × Value → H} {P : Program} {w : World} {sp : Nat → Bool} {held : Bool} {t : TypeId} {L : List DTy} (h : TyIs P t L) :
    ∀ (fuel : Nat) (cs : List Value) (x : DataW H × List MemPlace), DataW.trod enc P w 0 sp held fuel t cs = some x → Rows.uptoBulk x.1 ≤ N → PWS N w cs L := by
  induction h with
  | @int t k h =>
    intro fuel cs x hx hb0
    obtain ⟨n, rfl, hxe, hwf⟩ := DataW.trod_int h hx
    exact .one (d := .v (.int k n)) (.v (show k.has n from lit_int_wf hwf)) (.int (lit_int_wf hwf)) rfl (.v (fun s e => by cases e))
  | @str t h =>
    intro fuel cs x hx hb0
    obtain ⟨s, rfl, hxe, hs⟩ := DataW.trod_string h hx
    have hs : s.size ≤ lenB := by
      have e : maxLen = lenB := by decide
      omega
    exact .one (d := .v (.string s)) (.v hs) (.str hs) rfl (.v (fun s' e => by cases e; rw [hxe, bulk_str] at hb0; omega))
  | @bool t h =>
    intro fuel cs x hx hb0
    obtain ⟨b, rfl, _⟩ := DataW.trod_bool h hx
    exact .one (d := .v (.bool b)) (.v trivial) .bool rfl (.v (fun s e => by cases e))
  | @sl t e L h he hc hne ih =>
    intro fuel cs x hx hb0
    rcases DataW.trod_slice h hx with ⟨rfl, _⟩ | ⟨a, len, cap, elems, rest, n, rfl, rfl, hxe, hb, hl, hm, hlen, hel, _, _⟩
    · exact .one (d := .isl false L.length []) (.isl (b := 0) (o := 0) (fun _ _ => undef) rfl (by omega) (by simp [lenB]) (fun h => by cases h) (fun h => absurd rfl h) (fun i e h => by simp at h) (fun i e j d h => by simp at h) (fun i e j d h => by simp at h))
        (.sl (fun i e h => by simp at h) (fun i e j d ty h => by simp at h)) rfl (.isl (by simp) (fun i e j d h => by simp at h))
    · have key : ∀ i, ∃ p : List Value × List DV, i < len → w.cells? 0 (a.add (i * L.length)) L.length = some p.1 ∧ CellsS N w p.1 L p.2 := fun i => by
        by_cases hi : i < len
        · have h1 := hel i hi
          rw [List.getElem?_eq_getElem (by omega)] at h1
          obtain ⟨cs', h2, h3⟩ := Option.bind_eq_some_iff.1 h1
          have hbe : Rows.uptoBulk (elems[i]'(by omega)).1 ≤ N := by
            rw [hxe] at hb0
            exact Nat.le_trans (bulk_part (List.mem_map.2 ⟨_, List.getElem_mem _, rfl⟩)) (Nat.le_trans (bulk_elems _ _) hb0)
          obtain ⟨ds, hds⟩ := (ih n cs' _ h3 hbe).cells
          exact ⟨(cs', ds), fun _ => ⟨by rw [← hc]; exact h2, hds⟩⟩
        · exact ⟨([], []), fun h => absurd h hi⟩
      have hpos : 0 < L.length := List.length_pos_iff.2 hne
      have hspot : 0 < len → a.spot = none ∧ a.block < w.heap.size := fun h0 => by
        obtain ⟨h1, h2, _⟩ := (key 0).choose_spec h0
        obtain ⟨_, _, h4⟩ := World.cells?_some h1
        have h5 := h4 0 hpos
        rw [List.getElem?_eq_getElem (by omega)] at h5
        simp only [Nat.zero_mul] at h5
        have h6 := cell?_lt h5
        simp [Addr.add] at h6
        exact ⟨h6.2, h6.1⟩
      have hadd : 0 < len → ∀ q, a.add q = ⟨a.block, a.off + q, none⟩ := fun h0 q => by
        have := (hspot h0).1
        obtain ⟨b, o, s⟩ := a
        simp only at this
        subst this
        exact add_plain' b o q
      let es : List (List DV) := (List.range len).map (fun i => (key i).choose.2)
      have hes : ∀ (i : Nat) e, es[i]? = some e → i < len ∧ e = (key i).choose.2 := fun i e hi => by
        simp only [es, List.getElem?_map] at hi
        obtain ⟨q, hq, rfl⟩ := Option.map_eq_some_iff.1 hi
        have hlt : i < len := by have := (List.getElem?_eq_some_iff.1 hq).1; simpa using this
        rw [List.getElem?_range hlt] at hq
        obtain rfl := Option.some.inj hq
        exact ⟨hlt, rfl⟩
      have hcell : ∀ (i : Nat) e (j : Nat) d, es[i]? = some e → e[j]? = some d → ∃ v ty, L[j]? = some ty ∧ w.cell? ⟨a.block, a.off + (i * L.length + j), none⟩ = some v ∧ ((key i).choose.1)[j]? = some v ∧ Rep w (AllF w) v d ∧ HasD ty d ∧ v.oneCell' = true ∧ SmallD N d := fun i e j d hi hj => by
        obtain ⟨hlt, rfl⟩ := hes i e hi
        obtain ⟨h1, h2, h3, h4⟩ := (key i).choose_spec hlt
        obtain ⟨_, _, h5⟩ := World.cells?_some h1
        have hjl : j < L.length := by rw [← h3]; exact (List.getElem?_eq_some_iff.1 hj).1
        have hv := List.getElem?_eq_getElem (show j < ((key i).choose.1).length by omega)
        refine ⟨_, _, List.getElem?_eq_getElem hjl, ?_, hv, h4 j _ d _ hv hj (List.getElem?_eq_getElem hjl)⟩
        rw [← hv, ← h5 j hjl, hadd (by omega), add_plain', Nat.add_assoc]
      have hesl : es.length = len := by simp [es]
      have hmx : maxLen = lenB := by decide
      refine .one (d := .isl false L.length es) (.isl (b := a.block) (o := a.off) (fun i j => (((key i).choose.1)[j]?).getD undef) hesl.symm hl (by omega) (fun h => by cases h) (fun hne' => ?_) (fun i e hi => ?_) (fun i e j d hi hj => ?_) (fun i e j d hi hj => ?_)) (.sl (fun i e hi => ?_) (fun i e j d ty hi hj hty => ?_)) rfl (.isl (by rw [hesl, ← hlen]; rw [hxe] at hb0; exact Nat.le_trans (by simpa using bulk_len (elems.map (·.1))) (Nat.le_trans (bulk_elems _ _) hb0)) (fun i e j d hi hj => by obtain ⟨_, _, _, _, _, _, _, _, h7⟩ := hcell i e j d hi hj; exact h7))
      · have h0 : 0 < len := by
          rcases Nat.eq_zero_or_pos len with h | h
          · exact absurd (by simp [es, h]) hne'
          · exact h
        refine ⟨?_, (hspot h0).2⟩
        have := (hspot h0).1
        obtain ⟨b, o, s⟩ := a
        simp only at this
        subst this
        rfl
      · obtain ⟨hlt, rfl⟩ := hes i e hi; exact ((key i).choose_spec hlt).2.2.1
      · obtain ⟨v, ty, _, h2, h3, _, _, h6, _⟩ := hcell i e j d hi hj
        simp only [h3, Option.getD_some]
        exact ⟨h2, h6⟩
      · obtain ⟨v, ty, _, _, h3, h4, _⟩ := hcell i e j d hi hj
        simp only [h3, Option.getD_some]
        exact h4
      · obtain ⟨hlt, rfl⟩ := hes i e hi; exact ((key i).choose_spec hlt).2.2.1
      · obtain ⟨v, ty', h1, _, _, _, h5, _⟩ := hcell i e j d hi hj
        rw [h1] at hty
        obtain rfl := Option.some.inj hty
        exact h5
  | @struct t fs Ls h hc hl hf ho ih =>
    intro fuel cs x hx hb0
    obtain ⟨xs, n, rfl, hxe, hlen, hxl, hx⟩ := DataW.trod_struct h hx
    refine ⟨hlen.trans hc, fun j v ty hv hty => ?_⟩
    obtain ⟨i, Li, q, h1, h2, rfl⟩ := flatten_find Ls j ty hty
    have hi : i < fs.size := by rw [← hl]; exact (List.getElem?_eq_some_iff.1 h1).1
    have hfi := Array.getElem?_eq_getElem hi
    obtain ⟨o1, o2⟩ := ho i _ Li hfi h1
    have h3 := hx i _ hfi
    rw [List.getElem?_eq_getElem (show i < xs.length by omega)] at h3
    have hbe : Rows.uptoBulk (xs[i]'(by omega)).1 ≤ N := by
      rw [hxe] at hb0
      exact Nat.le_trans (bulk_part (List.mem_map.2 ⟨_, List.getElem_mem _, rfl⟩)) (Nat.le_trans (bulk_agg _) hb0)
    obtain ⟨_, h4⟩ := ih i _ Li hfi h1 n _ _ h3 hbe
    have hql : q < Li.length := (List.getElem?_eq_some_iff.1 h2).1
    exact h4 q v ty (by rw [List.getElem?_take, if_pos (by omega), List.getElem?_drop, o1]; exact hv) h2

/-- An argument of one cell. -/
theorem arg_repS {N : Nat} {H : Type} {enc : TypeId × Value → H} {P : Program} {w : World} {sp : Nat → Bool} {held : Bool} {t : TypeId} {ty : DTy} {v : Value} {d : DataW H} {p : List MemPlace} (hT : TyIs P t [ty]) (h : DataW.Trod enc P w 0 sp held t v d p) (hv : v.cells = #[v]) (hb : Rows.uptoBulk d ≤ N) : ∃ dv, Rep w (AllF w) v dv ∧ HasD ty dv ∧ SmallD N dv := by
  obtain ⟨fuel, h⟩ := h
  rw [hv] at h
  obtain ⟨ds, h1, h2, h3⟩ := (pws_trod hT fuel _ _ h hb).cells
  match ds, h2 with
  | [dv], _ => exact ⟨dv, (h3 0 v dv ty rfl rfl rfl).1, (h3 0 v dv ty rfl rfl rfl).2.1, (h3 0 v dv ty rfl rfl rfl).2.2.2⟩
end Go.GH
namespace Go.GH
open Go
theorem HasD.boxes {d : DV} (h : HasD (.sl [.str, .sl [.int .i64]]) d) : ∃ l, d = DBxs l :=
  h.slice (f := encBx) (fun e he => by
    obtain ⟨d1, d2, rfl, h1, h2⟩ := he.two
    obtain ⟨s, rfl⟩ := h1.str_inv
    obtain ⟨p, rfl⟩ := h2.ints
    exact ⟨⟨s, p⟩, rfl⟩)
theorem HasD.lines {d : DV} (h : HasD (.sl [.sl [.str], .bool]) d) : ∃ l, d = DLns l :=
  h.slice (f := encLn) (fun e he => by
    obtain ⟨d1, d2, rfl, h1, h2⟩ := he.two
    obtain ⟨p, rfl⟩ := h1.strs
    obtain ⟨b, rfl⟩ := h2.bool_inv
    exact ⟨⟨p, b⟩, rfl⟩)
end Go.GH
namespace Go.GH
open Go
theorem ElemIs.line {e : List DV} (h : ElemIs [.sl [.str], .bool] e) : ∃ x : Ln, e = encLn x := by
  obtain ⟨d1, d2, rfl, h1, h2⟩ := h.two
  obtain ⟨p, rfl⟩ := h1.strs
  obtain ⟨b, rfl⟩ := h2.bool_inv
  exact ⟨⟨p, b⟩, rfl⟩
end Go.GH
namespace Go.GH
open Go
theorem SmallD.str {N : Nat} {s : ByteArray} (h : SmallD N (.v (.string s))) : s.size ≤ N := by cases h with | v h => exact h s rfl
theorem SmallD.boxes {N : Nat} {l : List Bx} (h : SmallD N (DBxs l)) : ∀ x ∈ l, x.word.size ≤ N := fun x hx => by
  obtain ⟨i, hi⟩ := List.mem_iff_getElem?.1 hx
  cases h with
  | isl hl h => exact (h i (encBx x) 0 (.v (.string x.word)) (by rw [List.getElem?_map, hi]; rfl) rfl).str
theorem SmallD.line {N : Nat} {x : Ln} (h : ∀ d ∈ encLn x, SmallD N d) : ∀ s ∈ x.words, s.size ≤ N := fun s hs => by
  have h0 := h (DStrs x.words) (by simp [encLn])
  obtain ⟨i, hi⟩ := List.mem_iff_getElem?.1 hs
  cases h0 with
  | isl hl h => exact (h i (encS s) 0 (.v (.string s)) (by rw [List.getElem?_map, hi]; rfl) rfl).str
end Go.GH
namespace Go.GH
open Go Go.Proofs
variable {E : Env}
end Go.GH
namespace Go.GH
open Go Go.Proofs
variable {E : Env}
theorem SCode.reSlot {C : Ctx} {st : St} {c : Code} {Q : Exit → St → Prop} {t : Tmp} {d d' : DV} (hd : st.get t = some d) (he : d = d') (h : SCode C c ⟨st.n, (t, d') :: st.slots, st.heap⟩ Q) : SCode C c st Q := by
  subst he
  intro base ok a w ⟨F, hs⟩
  exact h base ok a w ⟨F, SimF.relabel hs hd id⟩
end Go.GH
namespace Go.GH
open Go Go.Lib
def colP (l : List Bx) (i : Nat) : Int := (pt3 l i).2.2
def hyP (l : List Bx) (i : Nat) : Bool := decide (0 < (pt3 l i).2.1)
def endP (l : List Bx) (i : Nat) : Int := colP l i + if hyP l i then 1 else -1
theorem lenP_eq (l : List Bx) (i k : Nat) : lenP l i k = endP l k - colP l i := by
  unfold lenP endP colP hyP
  by_cases h : 0 < (pt3 l k).2.1
  · rw [if_pos h, if_pos (by simpa using h)]; omega
  · rw [if_neg h, if_neg (by simpa using h)]; omega
theorem colP_eq {l : List Bx} {i : Nat} (h : i < ptN l) : colP l i = (stB l (ptQ l i).1 : Int) + (ptQ l i).2 ∧ hyP l i = decide (0 < (ptQ l i).2) := by
  unfold colP hyP
  rw [pt3_eq h]
  exact ⟨rfl, rfl⟩
theorem pts_step2 {l : List Bx} {i k : Nat} (h : boxesB l = true) (hik : i < k) (hk : k < ptN l) : colP l i < colP l k ∧ endP l i ≤ endP l k ∧ colP l i + 1 ≤ endP l k := by
  obtain ⟨c1, y1⟩ := colP_eq (show i < ptN l by omega)
  obtain ⟨c2, y2⟩ := colP_eq hk
  have h1 := ptQ_ltP h hik hk
  have h2 := ptQ_small h (show i < ptN l - 1 by omega)
  have h3 := ptQ_ok h hk
  unfold endP
  rw [c1, c2, y1, y2]
  generalize ptQ l i = a at *
  generalize ptQ l k = b at *
  obtain ⟨h21, h22, h23⟩ := h2
  rw [wAt_lt h21] at h23
  have hb0 : 0 ≤ b.2 := by
    rcases h3 with h3 | h3
    · exact h3.2.1
    · rw [h3]; exact Int.le_refl _
  have hb1 : b.1 ≤ l.length := by
    rcases h3 with h3 | h3
    · exact Nat.le_of_lt h3.1
    · rw [h3]; exact Nat.le_refl _
  simp only [decide_eq_true_eq]
  rcases h1 with h1 | ⟨h1, h4⟩
  · have h5 := stB_succ h21
    have h6 := stB_mono (l := l) (i := a.1 + 1) (k := b.1) (by omega) hb1
    unfold wlen at h5
    split <;> split <;> omega
  · rw [h1]
    split <;> split <;> omega
theorem lenP_mono {l : List Bx} {i j k n : Nat} (h : boxesB l = true) (h1 : i ≤ j) (h2 : k ≤ n) (hj : j < ptN l) (hn : n < ptN l) : lenP l j k ≤ lenP l i n := by
  rw [lenP_eq, lenP_eq]
  have h3 : colP l i ≤ colP l j := by
    rcases Nat.lt_or_ge i j with h4 | h4
    · have := (pts_step2 h h4 hj).1; omega
    · obtain rfl : i = j := by omega
      exact Int.le_refl _
  have h5 : endP l k ≤ endP l n := by
    rcases Nat.lt_or_ge k n with h4 | h4
    · exact (pts_step2 h h4 hn).2.1
    · obtain rfl : k = n := by omega
      exact Int.le_refl _
  omega
theorem stop_iff {l : List Bx} {w : Int} {i n : Nat} (h : boxesB l = true) (h1 : i < n) (hn : n < ptN l) : n < stopP l w i ↔ lenP l i n ≤ w := by
  refine ⟨stopP_fit h1, fun h2 => ?_⟩
  rcases Nat.lt_or_ge n (stopP l w i) with h3 | h3
  · exact h3
  · rcases stopP_stop (l := l) (w := w) (i := i) (by omega) with h4 | ⟨h4, h5⟩
    · omega
    · have := lenP_mono h (Nat.le_refl i) h3 (by omega) hn
      omega
/-- From a to z by lines that fit. -/
def Fit (l : List Bx) (w : Int) : Nat → List Nat → Nat → Prop
  | a, [], z => a = z
  | a, k :: ks, z => a < k ∧ k < ptN l ∧ lenP l a k ≤ w ∧ Fit l w k ks z
theorem Fit.le {l : List Bx} {w : Int} : ∀ {a z : Nat} {ks : List Nat}, Fit l w a ks z → a ≤ z
  | _, _, [], h => Nat.le_of_eq h
  | _, _, k :: ks, ⟨h1, _, _, h2⟩ => by have := h2.le; omega
theorem Fit.wider {l : List Bx} {w v : Int} (hw : w ≤ v) : ∀ {a z : Nat} {ks : List Nat}, Fit l w a ks z → Fit l v a ks z
  | _, _, [], h => h
  | _, _, k :: ks, ⟨h1, h2, h3, h4⟩ => ⟨h1, h2, by omega, h4.wider hw⟩
theorem Fit.piece {l : List Bx} {w : Int} (h : boxesB l = true) {z : Nat} (hz : z < ptN l) : ∀ {a : Nat} {ks : List Nat}, Fit l w a ks z → ∀ i, a ≤ i → i < z → lenP l i (i + 1) ≤ w
  | a, [], hf, i, h1, h2 => by have : a = z := hf; omega
  | a, k :: ks, ⟨f1, f2, f3, f4⟩, i, h1, h2 => by
    rcases Nat.lt_or_ge i k with h3 | h3
    · have := lenP_mono h (i := a) (j := i) (k := i + 1) (n := k) h1 (by omega) (by omega) f2
      omega
    · exact f4.piece h hz i h3 h2
def AllFit (l : List Bx) (w : Int) : Prop := ∀ i, i < ptN l - 1 → lenP l i (i + 1) ≤ w
theorem Fit.steps {l : List Bx} {w : Int} {z : Nat} (hz : z < ptN l) : ∀ (d a : Nat), a + d = z → (∀ i, a ≤ i → i < z → lenP l i (i + 1) ≤ w) → ∃ ks, Fit l w a ks z
  | 0, a, h, _ => ⟨[], by show a = z; omega⟩
  | d + 1, a, h, hf => by
    obtain ⟨ks, hks⟩ := Fit.steps hz d (a + 1) (by omega) (fun i h1 h2 => hf i (by omega) h2)
    exact ⟨(a + 1) :: ks, by omega, by omega, hf a (Nat.le_refl _) (by omega), hks⟩
theorem fit_iff {l : List Bx} {w : Int} (h : boxesB l = true) : (∃ ks, Fit l w 0 ks (ptN l - 1)) ↔ AllFit l w := by
  have := ptN_pos l
  refine ⟨fun ⟨ks, hk⟩ i hi => hk.piece h (by omega) i (Nat.zero_le _) hi, fun hf => ?_⟩
  exact Fit.steps (by omega) (ptN l - 1) 0 (by omega) (fun i _ hi => hf i hi)
/-- What a line costs. -/
def stepC (l : List Bx) (w pen : Int) (a k : Nat) : Int := (if k < ptN l - 1 then (w - lenP l a k) * (w - lenP l a k) else 0) + (if hyP l k then pen else 0)
def costP (l : List Bx) (w pen : Int) : Nat → List Nat → Int
  | _, [] => 0
  | a, k :: ks => stepC l w pen a k + costP l w pen k ks
theorem lineC_eq (l : List Bx) (w pen : Int) (i n : Nat) (b : Int) : lineC l w pen i n b = b + stepC l w pen i n := by
  unfold lineC stepC hyP
  simp only [decide_eq_true_eq]
  omega
theorem sq_nonneg (x : Int) : 0 ≤ x * x := by
  rcases Int.le_total 0 x with h | h
  · exact Int.mul_nonneg h h
  · exact Int.mul_nonneg_of_nonpos_of_nonpos h h
theorem stepC_nonneg {l : List Bx} {w pen : Int} {a k : Nat} (hp : 0 ≤ pen) : 0 ≤ stepC l w pen a k := by
  have := sq_nonneg (w - lenP l a k)
  unfold stepC
  split <;> split <;> omega
/-! the search, one point at a time -/
theorem bstV_spec {l : List Bx} {w pen : Int} {i : Nat} {t : List (Int × Int)} (hp : 0 ≤ pen) (ht : ∀ d, -1 ≤ (t.getD d (0, 0)).1) : ∀ d,
    -1 ≤ (bstV l w pen i t d).1 ∧
    (∀ e, e < d → 0 ≤ (t.getD e (0, 0)).1 → 0 ≤ (bstV l w pen i t d).1 ∧ (bstV l w pen i t d).1 ≤ (t.getD e (0, 0)).1 + stepC l w pen i (i + 1 + e)) ∧
    (0 ≤ (bstV l w pen i t d).1 → ∃ e, e < d ∧ (bstV l w pen i t d).2 = ((i + 1 + e : Nat) : Int) ∧ 0 ≤ (t.getD e (0, 0)).1 ∧ (bstV l w pen i t d).1 = (t.getD e (0, 0)).1 + stepC l w pen i (i + 1 + e) ∧
      ∀ e2, e < e2 → e2 < d → 0 ≤ (t.getD e2 (0, 0)).1 → (bstV l w pen i t d).1 < (t.getD e2 (0, 0)).1 + stepC l w pen i (i + 1 + e2))
  | 0 => ⟨Int.le_refl _, fun e he => by omega, fun h => by have : (0 : Int) ≤ -1 := h; omega⟩
  | d + 1 => by
    obtain ⟨ih0, ih1, ih2⟩ := bstV_spec hp ht (l := l) (w := w) (i := i) d
    have hst := stepC_nonneg (l := l) (w := w) (a := i) (k := i + 1 + d) hp
    rw [bstV]
    unfold stepB
    rw [lineC_eq]
    generalize bstV l w pen i t d = x at *
    generalize hq : (t.getD d (0, 0)).1 = q at *
    by_cases h1 : q < 0
    · rw [if_pos h1]
      refine ⟨ih0, fun e he h0 => ?_, fun h => ?_⟩
      · rcases Nat.lt_or_ge e d with h2 | h2
        · exact ih1 e h2 h0
        · obtain rfl : e = d := by omega
          omega
      · obtain ⟨e, e1, e2, e3, e4, e5⟩ := ih2 h
        refine ⟨e, by omega, e2, e3, e4, fun k k1 k2 k3 => ?_⟩
        rcases Nat.lt_or_ge k d with h2 | h2
        · exact e5 k k1 h2 k3
        · obtain rfl : k = d := by omega
          omega
    · rw [if_neg h1]
      by_cases h2 : x.1 < 0 ∨ q + stepC l w pen i (i + 1 + d) ≤ x.1
      · rw [if_pos h2]
        dsimp only
        refine ⟨by omega, fun e he h0 => ?_, fun h => ⟨d, by omega, rfl, by omega, by omega, fun k k1 k2 => by omega⟩⟩
        rcases Nat.lt_or_ge e d with h3 | h3
        · have := ih1 e h3 h0; omega
        · obtain rfl : e = d := by omega
          omega
      · rw [if_neg h2]
        refine ⟨ih0, fun e he h0 => ?_, fun h => ?_⟩
        · rcases Nat.lt_or_ge e d with h3 | h3
          · exact ih1 e h3 h0
          · obtain rfl : e = d := by omega
            omega
        · obtain ⟨e, e1, e2, e3, e4, e5⟩ := ih2 h
          refine ⟨e, by omega, e2, e3, e4, fun k k1 k2 k3 => ?_⟩
          rcases Nat.lt_or_ge k d with h3 | h3
          · exact e5 k k1 h3 k3
          · obtain rfl : k = d := by omega
            omega
/-- The cheapest from a point on, and the next point. -/
def bestP (l : List Bx) (w pen : Int) (i : Nat) : Int × Int := (bstL l w pen (ptN l - 1)).getD i (0, 0)
theorem bstL_shift (l : List Bx) (w pen : Int) : ∀ (j d i : Nat), (bstL l w pen (j + d)).getD (d + i) (0, 0) = (bstL l w pen j).getD i (0, 0)
  | j, 0, i => by rw [Nat.zero_add]; rfl
  | j, d + 1, i => by
    rw [← Nat.add_assoc, bstL, show d + 1 + i = (d + i) + 1 by omega, List.getD_cons_succ]
    exact bstL_shift l w pen j d i
theorem bestP_last (l : List Bx) (w pen : Int) : bestP l w pen (ptN l - 1) = (0, 0) := by
  unfold bestP
  have := bstL_shift l w pen 0 (ptN l - 1) 0
  rw [Nat.zero_add, Nat.add_zero] at this
  rw [this]; rfl
theorem bestP_step {l : List Bx} (w pen : Int) {i : Nat} (hi : i < ptN l - 1) : bestP l w pen i = bstV l w pen i (bstL l w pen (ptN l - 2 - i)) (stopP l w i - (i + 1)) ∧ ∀ d, i + 1 + d ≤ ptN l - 1 → (bstL l w pen (ptN l - 2 - i)).getD d (0, 0) = bestP l w pen (i + 1 + d) := by
  unfold bestP
  refine ⟨?_, fun d hd => ?_⟩
  · have := bstL_shift l w pen (ptN l - 1 - i) i 0
    rw [show ptN l - 1 - i + i = ptN l - 1 by omega, Nat.add_zero] at this
    rw [this, show ptN l - 1 - i = (ptN l - 2 - i) + 1 by omega, bstL, List.getD_cons_zero, show ptN l - 2 - (ptN l - 2 - i) = i by omega, show ptN l - 1 - (ptN l - 2 - i) = i + 1 by omega]
  · have := bstL_shift l w pen (ptN l - 2 - i) (i + 1) d
    rw [show ptN l - 2 - i + (i + 1) = ptN l - 1 by omega] at this
    rw [this]
theorem bstL_ge {l : List Bx} {w pen : Int} (hp : 0 ≤ pen) : ∀ j d, -1 ≤ ((bstL l w pen j).getD d (0, 0)).1
  | 0, d => by
    cases d with
    | zero => show (-1 : Int) ≤ 0; omega
    | succ d => show (-1 : Int) ≤ 0; omega
  | j + 1, d => by
    rw [bstL]
    cases d with
    | zero => rw [List.getD_cons_zero]; exact (bstV_spec hp (bstL_ge hp j) _).1
    | succ d => rw [List.getD_cons_succ]; exact bstL_ge hp j d
theorem bestP_spec {l : List Bx} {w pen : Int} (hb : boxesB l = true) (hp : 0 ≤ pen) {i : Nat} (hi : i < ptN l - 1) :
    (∀ n, i < n → n < ptN l → lenP l i n ≤ w → 0 ≤ (bestP l w pen n).1 → 0 ≤ (bestP l w pen i).1 ∧ (bestP l w pen i).1 ≤ (bestP l w pen n).1 + stepC l w pen i n) ∧
    (0 ≤ (bestP l w pen i).1 → ∃ n, i < n ∧ n < ptN l ∧ lenP l i n ≤ w ∧ (bestP l w pen i).2 = (n : Int) ∧ 0 ≤ (bestP l w pen n).1 ∧ (bestP l w pen i).1 = (bestP l w pen n).1 + stepC l w pen i n ∧
      ∀ m, n < m → m < ptN l → lenP l i m ≤ w → 0 ≤ (bestP l w pen m).1 → (bestP l w pen i).1 < (bestP l w pen m).1 + stepC l w pen i m) := by
  obtain ⟨h1, h2⟩ := bestP_step w pen hi
  obtain ⟨_, h3, h4⟩ := bstV_spec (l := l) (w := w) (i := i) hp (bstL_ge hp (ptN l - 2 - i)) (stopP l w i - (i + 1))
  have hsl := stopP_le (l := l) (w := w) (i := i) (by omega)
  rw [← h1] at h3 h4
  refine ⟨fun n n1 n2 n3 n4 => ?_, fun h0 => ?_⟩
  · have h5 := (stop_iff hb n1 n2).2 n3
    have h6 := h2 (n - (i + 1)) (by omega)
    rw [show i + 1 + (n - (i + 1)) = n by omega] at h6
    have h7 := h3 (n - (i + 1)) (by omega) (by rw [h6]; exact n4)
    rw [h6, show i + 1 + (n - (i + 1)) = n by omega] at h7
    exact h7
  · obtain ⟨e, e1, e2, e3, e4, e5⟩ := h4 h0
    have h6 := h2 e (by omega)
    rw [h6] at e3 e4
    refine ⟨i + 1 + e, by omega, by omega, stopP_fit (by omega) (by omega), e2, e3, e4, fun m m1 m2 m3 m4 => ?_⟩
    have h5 := (stop_iff hb (show i < m by omega) m2).2 m3
    have h7 := h2 (m - (i + 1)) (by omega)
    rw [show i + 1 + (m - (i + 1)) = m by omega] at h7
    have h8 := e5 (m - (i + 1)) (by omega) (by omega) (by rw [h7]; exact m4)
    rw [h7, show i + 1 + (m - (i + 1)) = m by omega] at h8
    exact h8
end Go.GH
namespace Go.GH
open Go Go.Lib
def Prp (s : ByteArray) : Prop := encs (runes s) = s
theorem prp_encs {rs : List Int} (h : ∀ r ∈ rs, Utf8.valid r = true) : Prp (encs rs) := by unfold Prp; rw [runes_encs h]
theorem prp_app {x y : ByteArray} (hx : Prp x) (hy : Prp y) : runes (x ++ y) = runes x ++ runes y ∧ Prp (x ++ y) := by
  have e : x ++ y = encs (runes x ++ runes y) := by rw [encs_append, hx, hy]
  have h : runes (x ++ y) = runes x ++ runes y := by
    rw [e]
    exact runes_encs (fun r hr => (List.mem_append.1 hr).elim runes_valid runes_valid)
  exact ⟨h, by unfold Prp; rw [h]; exact e.symm⟩
theorem wlen_app {x y : ByteArray} (hx : Prp x) (hy : Prp y) : wlen (x ++ y) = wlen x + wlen y := by
  unfold wlen; rw [(prp_app hx hy).1, List.length_append]
theorem prp_sp1 : Prp sp1 ∧ wlen sp1 = 1 := ⟨by unfold Prp; decide +kernel, by decide +kernel⟩
theorem prp_hy1 : Prp hy1 ∧ wlen hy1 = 1 := ⟨by unfold Prp; decide +kernel, by decide +kernel⟩
def sumW (ws : List ByteArray) : Nat := (ws.map (fun w => wlen w + 1)).sum
theorem sumW_app (x y : List ByteArray) : sumW (x ++ y) = sumW x + sumW y := by unfold sumW; rw [List.map_append, List.sum_append]
theorem sumW_one (x : ByteArray) : sumW [x] = wlen x + 1 := by unfold sumW; simp
theorem foldl_len : ∀ (ws : List ByteArray) (w : ByteArray), Prp w → (∀ x ∈ ws, Prp x) → wlen (ws.foldl (fun a x => a ++ sp1 ++ x) w) = wlen w + sumW ws ∧ Prp (ws.foldl (fun a x => a ++ sp1 ++ x) w)
  | [], w, hw, _ => ⟨rfl, hw⟩
  | x :: ws, w, hw, h => by
    have hx := h x (List.mem_cons_self ..)
    have h1 := (prp_app hw prp_sp1.1).2
    have h2 := (prp_app h1 hx).2
    have ih := foldl_len ws (w ++ sp1 ++ x) h2 (fun y hy => h y (List.mem_cons_of_mem _ hy))
    rw [List.foldl_cons]
    refine ⟨?_, ih.2⟩
    rw [ih.1, wlen_app h1 hx, wlen_app hw prp_sp1.1, prp_sp1.2]
    unfold sumW
    rw [List.map_cons, List.sum_cons]
    omega
theorem catW_len {ws : List ByteArray} (hne : ws ≠ []) (h : ∀ x ∈ ws, Prp x) : wlen (catW ws) + 1 = sumW ws ∧ Prp (catW ws) := by
  cases ws with
  | nil => exact absurd rfl hne
  | cons w ws =>
    have := foldl_len ws w (h w (List.mem_cons_self ..)) (fun y hy => h y (List.mem_cons_of_mem _ hy))
    refine ⟨?_, this.2⟩
    show wlen (ws.foldl _ w) + 1 = _
    rw [this.1]
    unfold sumW
    rw [List.map_cons, List.sum_cons]
    omega
theorem textL_len {ln : Ln} (hne : ln.words ≠ []) (h : ∀ x ∈ ln.words, Prp x) : wlen (textL ln) + 1 = sumW ln.words + if ln.hyph then 1 else 0 := by
  have h1 := catW_len hne h
  unfold textL
  split
  · rw [wlen_app h1.2 prp_hy1.1, prp_hy1.2]; omega
  · omega
theorem sumW_wsA {l : List Bx} {a : Nat} : ∀ {b : Nat}, a ≤ b → b ≤ l.length → sumW (wsA l a b) + stB l a = stB l b
  | 0, h, _ => by
    obtain rfl : a = 0 := by omega
    rw [wsA_zero]; rfl
  | b + 1, h, hb => by
    rcases Nat.lt_or_ge b a with h1 | h1
    · obtain rfl : a = b + 1 := by omega
      rw [wsA_zero]; exact Nat.zero_add _
    · have ih := sumW_wsA (l := l) (a := a) (b := b) h1 (by omega)
      have e : wlen (encs (runes (l[b]).word)) = wlen (l[b]).word := by unfold wlen; rw [runes_encs (fun r hr => runes_valid hr)]
      rw [wsA_succ h1 (by omega), sumW_app, sumW_one, stB_succ (show b < l.length by omega), e]
      omega
theorem wsA_cons {l : List Bx} {a b : Nat} (h : a < b) (hb : b ≤ l.length) : wsA l a b = encs (wAt l a) :: wsA l (a + 1) b := by
  unfold wsA
  rw [List.drop_eq_getElem_cons (show a < (l.take b).length by simp; omega), List.map_cons, wAt_lt (show a < l.length by omega)]
  simp
theorem wAt_valid {l : List Bx} {j : Nat} {r : Int} (h : r ∈ wAt l j) : Utf8.valid r = true := by
  unfold wAt at h
  split at h
  · exact runes_valid h
  · cases h
theorem runes_wAt (l : List Bx) (j : Nat) : runes (encs (wAt l j)) = wAt l j := runes_encs (fun r hr => wAt_valid hr)
/-- The words between two break points. -/
def pcW (l : List Bx) (a b : Nat × Int) : List ByteArray :=
  if a.1 = b.1 then [encs (((wAt l a.1).take b.2.toNat).drop a.2.toNat)] else encs ((wAt l a.1).drop a.2.toNat) :: (wsA l (a.1 + 1) b.1 ++ if 0 < b.2 then [encs ((wAt l b.1).take b.2.toNat)] else [])
theorem wsC_eq {l : List Bx} {a b : Nat × Int} (ha : PtOK l a) (hb : b.1 ≤ l.length) (hab : ltP a b) : wsC l (up3 l a) (up3 l b) = pcW l a b := by
  obtain ⟨a1, a2, a3⟩ := ha
  show (if 0 < a.2 then ((if 0 < b.2 then wsA l a.1 b.1 ++ [encs ((wAt l b.1).take b.2.toNat)] else wsA l a.1 b.1)).set 0 (encs ((runes (((if 0 < b.2 then wsA l a.1 b.1 ++ [encs ((wAt l b.1).take b.2.toNat)] else wsA l a.1 b.1)).getD 0 .empty)).drop a.2.toNat)) else (if 0 < b.2 then wsA l a.1 b.1 ++ [encs ((wAt l b.1).take b.2.toNat)] else wsA l a.1 b.1)) = _
  unfold pcW
  rcases hab with h | ⟨h, h2⟩
  · rw [if_neg (show ¬ a.1 = b.1 by omega), wsA_cons h hb]
    by_cases h0 : 0 < a.2
    · rw [if_pos h0]
      split
      · rw [List.cons_append, List.getD_cons_zero, runes_wAt, List.set_cons_zero]
      · rw [List.getD_cons_zero, runes_wAt, List.set_cons_zero, List.append_nil]
    · rw [if_neg h0, show a.2.toNat = 0 by omega, List.drop_zero]
      split
      · rfl
      · rw [List.append_nil]
  · rw [if_pos h, if_pos (show 0 < b.2 by omega), ← h, wsA_zero, List.nil_append]
    have e : runes (encs ((wAt l a.1).take b.2.toNat)) = (wAt l a.1).take b.2.toNat := runes_encs (fun r hr => wAt_valid (List.mem_of_mem_take hr))
    by_cases h0 : 0 < a.2
    · rw [if_pos h0, List.getD_cons_zero, e, List.set_cons_zero]
    · rw [if_neg h0, show a.2.toNat = 0 by omega, List.drop_zero]
theorem line_words {l : List Bx} {i k : Nat} (hb : boxesB l = true) (hik : i < k) (hk : k < ptN l) : (lineP l i k).words = pcW l (ptQ l i) (ptQ l k) ∧ (lineP l i k).hyph = hyP l k := by
  refine ⟨?_, rfl⟩
  show wsC l (pt3 l i) (pt3 l k) = _
  rw [pt3_eq (show i < ptN l by omega), pt3_eq hk]
  refine wsC_eq (ptQ_small hb (by omega)) ?_ (ptQ_ltP hb hik hk)
  rcases ptQ_ok hb hk with h | h
  · exact Nat.le_of_lt h.1
  · rw [h]; exact Nat.le_refl _
/-- A piece of a box's word. -/
def Gd (l : List Bx) (s : ByteArray) : Prop := ∃ (rs : List Int) (j : Nat), s = encs rs ∧ rs ≠ [] ∧ j < l.length ∧ (∀ r ∈ rs, r ∈ wAt l j) ∧ rs.length ≤ (wAt l j).length
theorem Gd.prp {l : List Bx} {s : ByteArray} (h : Gd l s) : Prp s := by
  obtain ⟨rs, j, rfl, _, _, h, _⟩ := h
  exact prp_encs (fun r hr => wAt_valid (h r hr))
theorem Gd.word {l : List Bx} {s : ByteArray} (hb : boxesB l = true) (h : Gd l s) : wordB s = true ∧ wlen s ≠ 0 := by
  have hp := h.prp
  obtain ⟨rs, j, rfl, hne, hj, h, _⟩ := h
  have hv : ∀ r ∈ rs, Utf8.valid r = true := fun r hr => wAt_valid (h r hr)
  have hl : wlen (encs rs) = rs.length := by unfold wlen; rw [runes_encs hv]
  have hpos : rs.length ≠ 0 := fun e => hne (List.length_eq_zero_iff.1 e)
  refine ⟨wordB_iff.2 ⟨fun e => ?_, (utf8R_iff _).2 hp, ?_⟩, by rw [hl]; exact hpos⟩
  · have e2 : wlen (encs rs) = 0 := by rw [e]; rfl
    omega
  · unfold anySp
    rw [runes_encs hv, List.any_eq_false]
    intro r hr
    have h1 := (wordB_iff.1 (boxB_iff.1 ((boxesB_iff.1 hb).2 _ (List.getElem_mem hj))).1).2.2
    have h2 := h r hr
    rw [wAt_lt hj] at h2
    unfold anySp at h1
    rw [List.any_eq_false] at h1
    exact h1 r h2
theorem Gd.size {l : List Bx} {s : ByteArray} (hb : boxesB l = true) (h : Gd l s) : s.size ≤ 800 := by
  obtain ⟨rs, j, rfl, _, hj, _, h⟩ := h
  have h1 := encs_size4 rs
  have h2 := (bnds_of hb).wlen _ (List.getElem_mem hj)
  rw [wAt_lt hj] at h
  unfold wlen at h2
  omega
theorem wAt_ne {l : List Bx} (hb : boxesB l = true) {j : Nat} (hj : j < l.length) : wAt l j ≠ [] := by
  intro e
  have h3 := (bnds_of hb).cor _ (List.getElem_mem hj)
  rw [wAt_lt hj] at e
  rw [e] at h3
  exact (wordB_iff.1 (boxB_iff.1 ((boxesB_iff.1 hb).2 _ (List.getElem_mem hj))).1).1 h3.symm
theorem wsA_gd {l : List Bx} (hb : boxesB l = true) {a b : Nat} (hbl : b ≤ l.length) : ∀ s ∈ wsA l a b, Gd l s := by
  intro s hs
  unfold wsA at hs
  obtain ⟨x, hx, rfl⟩ := List.mem_map.1 hs
  obtain ⟨j, hj, rfl⟩ := List.mem_iff_getElem.1 (List.mem_of_mem_take (List.mem_of_mem_drop hx))
  exact ⟨runes (l[j]).word, j, rfl, by have := wAt_ne hb hj; rw [wAt_lt hj] at this; exact this, hj, fun r hr => by rw [wAt_lt hj]; exact hr, by rw [wAt_lt hj]; exact Nat.le_refl _⟩
theorem pcW_gd {l : List Bx} (hb : boxesB l = true) {a b : Nat × Int} (ha : PtOK l a) (hbo : PtOK l b ∨ b = (l.length, 0)) (hab : ltP a b) : pcW l a b ≠ [] ∧ ∀ s ∈ pcW l a b, Gd l s := by
  obtain ⟨a1, a2, a3⟩ := ha
  unfold pcW
  rcases hab with h | ⟨h, h2⟩
  · rw [if_neg (show ¬ a.1 = b.1 by omega)]
    refine ⟨by simp, fun s hs => ?_⟩
    rcases List.mem_cons.1 hs with rfl | hs
    · refine ⟨_, a.1, rfl, ?_, a1, fun r hr => List.mem_of_mem_drop hr, by rw [List.length_drop]; omega⟩
      intro e
      have := congrArg List.length e
      rw [List.length_drop, List.length_nil] at this
      omega
    · rcases List.mem_append.1 hs with hs | hs
      · exact wsA_gd hb (by rcases hbo with h3 | h3; exact Nat.le_of_lt h3.1; rw [h3]; exact Nat.le_refl _) s hs
      · split at hs
        · rename_i h4
          rw [List.mem_singleton] at hs
          subst hs
          have hbl : b.1 < l.length := by
            rcases hbo with h5 | h5
            · exact h5.1
            · rw [h5] at h4; simp at h4
          refine ⟨_, b.1, rfl, ?_, hbl, fun r hr => List.mem_of_mem_take hr, by rw [List.length_take]; omega⟩
          intro e
          have := congrArg List.length e
          have hne := wAt_ne hb hbl
          have : (wAt l b.1).length ≠ 0 := fun e => hne (List.length_eq_zero_iff.1 e)
          rw [List.length_take, List.length_nil] at *
          omega
        · cases hs
  · rw [if_pos h]
    refine ⟨by simp, fun s hs => ?_⟩
    rw [List.mem_singleton] at hs
    subst hs
    have hb3 : b.2 < ((wAt l b.1).length : Int) := by
      rcases hbo with h5 | h5
      · exact h5.2.2
      · rw [h5] at h2; dsimp only at h2; omega
    refine ⟨_, a.1, rfl, ?_, a1, fun r hr => List.mem_of_mem_take (List.mem_of_mem_drop hr), by rw [List.length_drop, List.length_take]; omega⟩
    intro e
    have := congrArg List.length e
    rw [List.length_drop, List.length_take, List.length_nil] at this
    rw [h] at this
    omega
theorem line_gd {l : List Bx} {i k : Nat} (hb : boxesB l = true) (hik : i < k) (hk : k < ptN l) : (lineP l i k).words ≠ [] ∧ ∀ s ∈ (lineP l i k).words, Gd l s := by
  rw [(line_words hb hik hk).1]
  exact pcW_gd hb (ptQ_small hb (by omega)) (ptQ_ok hb hk) (ptQ_ltP hb hik hk)
theorem pcW_length {l : List Bx} {a b : Nat × Int} (hb : b.1 ≤ l.length) : (pcW l a b).length ≤ l.length + 2 := by
  unfold pcW
  split
  · simp
  · rw [List.length_cons, List.length_append, wsA_len hb]
    split
    · rw [List.length_singleton]; omega
    · rw [List.length_nil]; omega
theorem line_ok {l : List Bx} {i k : Nat} (hb : boxesB l = true) (hik : i < k) (hk : k < ptN l) : LnOK (lineP l i k) := by
  have h1 := line_gd hb hik hk
  have h2 := bnds_of hb
  refine ⟨?_, fun s hs => by have := (h1.2 s hs).size hb; omega⟩
  rw [(line_words hb hik hk).1]
  have h3 : (ptQ l k).1 ≤ l.length := by
    rcases ptQ_ok hb hk with h | h
    · exact Nat.le_of_lt h.1
    · rw [h]; exact Nat.le_refl _
  have := pcW_length (l := l) (a := ptQ l i) h3
  have := h2.len
  omega
theorem wlen_encs {rs : List Int} (h : ∀ r ∈ rs, Utf8.valid r = true) : wlen (encs rs) = rs.length := by unfold wlen; rw [runes_encs h]
theorem pcW_sum {l : List Bx} {a b : Nat × Int} (ha : PtOK l a) (hbo : PtOK l b ∨ b = (l.length, 0)) (hab : ltP a b) : (sumW (pcW l a b) : Int) = (stB l b.1 : Int) + b.2 - ((stB l a.1 : Int) + a.2) + if 0 < b.2 then 1 else 0 := by
  obtain ⟨a1, a2, a3⟩ := ha
  have hs := stB_succ a1
  have hw : wlen (l[a.1]).word = (wAt l a.1).length := by rw [wAt_lt a1]; rfl
  unfold pcW
  rcases hab with h | ⟨h, h2⟩
  · have hbl : b.1 ≤ l.length := by
      rcases hbo with h3 | h3
      · exact Nat.le_of_lt h3.1
      · rw [h3]; exact Nat.le_refl _
    have hA := sumW_wsA (l := l) (a := a.1 + 1) (b := b.1) (by omega) hbl
    rw [if_neg (show ¬ a.1 = b.1 by omega), ← List.singleton_append, sumW_app, sumW_app, sumW_one, wlen_encs (fun r hr => wAt_valid (List.mem_of_mem_drop hr)), List.length_drop]
    by_cases h0 : 0 < b.2
    · have hb3 : b.2 < ((wAt l b.1).length : Int) := by
        rcases hbo with h5 | h5
        · exact h5.2.2
        · rw [h5] at h0; simp at h0
      rw [if_pos h0, if_pos h0, sumW_one, wlen_encs (fun r hr => wAt_valid (List.mem_of_mem_take hr)), List.length_take]
      omega
    · have hb0 : b.2 = 0 := by
        rcases hbo with h5 | h5
        · have := h5.2.1; omega
        · rw [h5]
      have e0 : sumW [] = 0 := rfl
      rw [if_neg h0, if_neg h0, e0]
      omega
  · have hb3 : b.2 < ((wAt l b.1).length : Int) := by
      rcases hbo with h5 | h5
      · exact h5.2.2
      · rw [h5] at h2; dsimp only at h2; omega
    rw [if_pos h, if_pos (show 0 < b.2 by omega), sumW_one, wlen_encs (fun r hr => wAt_valid (List.mem_of_mem_take (List.mem_of_mem_drop hr))), List.length_drop, List.length_take, ← h]
    rw [← h] at hb3
    omega
/-- The text of a line is as long as the columns between its points say. -/
theorem line_len {l : List Bx} {i k : Nat} (hb : boxesB l = true) (hik : i < k) (hk : k < ptN l) : (wlen (textL (lineP l i k)) : Int) = lenP l i k := by
  have h1 := line_gd hb hik hk
  have h2 := textL_len h1.1 (fun x hx => (h1.2 x hx).prp)
  rw [(line_words hb hik hk).2, (line_words hb hik hk).1] at h2
  have h3 := pcW_sum (ptQ_small hb (show i < ptN l - 1 by omega)) (ptQ_ok hb hk) (ptQ_ltP hb hik hk)
  obtain ⟨c1, _⟩ := colP_eq (show i < ptN l by omega)
  obtain ⟨c2, y2⟩ := colP_eq hk
  rw [lenP_eq]
  unfold endP
  rw [c1, c2, y2]
  rw [y2] at h2
  simp only [decide_eq_true_eq] at h2 ⊢
  by_cases h0 : 0 < (ptQ l k).2
  · rw [if_pos h0] at h2 h3 ⊢; omega
  · rw [if_neg h0] at h2 h3 ⊢; omega
/-! what the reference builds -/
end Go.GH
namespace Go.GH
open Go Go.Lib
theorem best_le {l : List Bx} {w pen : Int} (hb : boxesB l = true) (hp : 0 ≤ pen) : ∀ {i : Nat} {ks : List Nat}, Fit l w i ks (ptN l - 1) → 0 ≤ (bestP l w pen i).1 ∧ (bestP l w pen i).1 ≤ costP l w pen i ks
  | i, [], h => by
    have h1 : i = ptN l - 1 := h
    rw [h1, bestP_last]
    exact ⟨Int.le_refl _, Int.le_refl _⟩
  | i, k :: ks, ⟨h1, h2, h3, h4⟩ => by
    have ih := best_le hb hp h4
    have h5 := (bestP_spec (w := w) hb hp (show i < ptN l - 1 by have := h4.le; omega)).1 k h1 h2 h3 ih.1
    refine ⟨h5.1, ?_⟩
    show _ ≤ stepC l w pen i k + costP l w pen k ks
    omega
def nextL (l : List Bx) (w pen : Int) : List Int := (bstL l w pen (ptN l - 1)).map (·.2)
theorem nextL_at (l : List Bx) (w pen : Int) (i : Nat) : (nextL l w pen).getD i 0 = (bestP l w pen i).2 := by
  unfold nextL bestP
  rw [List.getD_eq_getElem?_getD, List.getD_eq_getElem?_getD, List.getElem?_map]
  cases (bstL l w pen (ptN l - 1))[i]? <;> rfl
theorem best_way {l : List Bx} {w pen : Int} (hb : boxesB l = true) (hp : 0 ≤ pen) : ∀ (f i : Nat), i ≤ ptN l - 1 → ptN l - 1 < f + i → 0 ≤ (bestP l w pen i).1 →
    Fit l w i (pathF (ptN l - 1) (nextL l w pen) f i) (ptN l - 1) ∧ costP l w pen i (pathF (ptN l - 1) (nextL l w pen) f i) = (bestP l w pen i).1
  | 0, i, h1, h2, _ => by omega
  | f + 1, i, h1, h2, h0 => by
    rw [pathF]
    by_cases hi : i < ptN l - 1
    · rw [if_pos hi]
      obtain ⟨n, n1, n2, n3, n4, n5, n6, _⟩ := (bestP_spec (w := w) hb hp hi).2 h0
      have ih := best_way hb hp f n (by omega) (by omega) n5
      rw [nextL_at, n4, Int.toNat_natCast]
      refine ⟨⟨n1, n2, n3, ih.1⟩, ?_⟩
      show stepC l w pen i n + costP l w pen n _ = _
      rw [ih.2, n6]; omega
    · rw [if_neg hi]
      have h3 : i = ptN l - 1 := by omega
      refine ⟨h3, ?_⟩
      rw [h3, bestP_last]; rfl
theorem best_iff {l : List Bx} {w pen : Int} (hb : boxesB l = true) (hp : 0 ≤ pen) : 0 ≤ (bestP l w pen 0).1 ↔ AllFit l w := by
  have h1 := ptN_pos l
  refine ⟨fun h => (fit_iff hb).1 ⟨_, (best_way hb hp (ptN l) 0 (Nat.zero_le _) (by omega) h).1⟩, fun h => ?_⟩
  obtain ⟨ks, hk⟩ := (fit_iff hb).2 h
  exact (best_le hb hp hk).1
/-! greedy -/
/-! counting -/
theorem AllFit.wider {l : List Bx} {w v : Int} (hw : w ≤ v) (h : AllFit l w) : AllFit l v := fun i hi => by have := h i hi; omega
end Go.GH
namespace Go.GH
open Go Go.Lib
theorem linesOf_len (l : List Bx) : ∀ (a : Nat) (ks : List Nat), (linesOf l a ks).length = ks.length
  | _, [] => rfl
  | a, k :: ks => by rw [linesOf, List.length_cons, List.length_cons, linesOf_len l k ks]
theorem valid_of {l : List Bx} {w : Int} (h : validL l w = true) : (1 ≤ w ∧ w ≤ 200) ∧ boxesB l = true := by
  unfold validL at h
  rw [Bool.and_eq_true, wideB_iff] at h
  exact h
theorem linesR_ok {l : List Bx} {w pen : Int} (hv : validL l w = true) (hp : penB pen = true) :
    ((linesR l w pen).2.2 = 0 ∧ AllFit l w ∧ ∃ ks, Fit l w 0 ks (ptN l - 1) ∧ (linesR l w pen).1 = linesOf l 0 ks ∧ costP l w pen 0 ks = (linesR l w pen).2.1 ∧ ∀ qs, Fit l w 0 qs (ptN l - 1) → (linesR l w pen).2.1 ≤ costP l w pen 0 qs) ∨ ((linesR l w pen).2.2 = 2 ∧ ¬ AllFit l w ∧ (linesR l w pen).2.1 = 0 ∧ (linesR l w pen).1 = []) := by
  have hb := (valid_of hv).2
  have hp0 := (penB_iff.1 hp).1
  have hpos := ptN_pos l
  have hbi := best_iff (w := w) hb hp0
  have hbp : ((bstL l w pen (ptN l - 1)).getD 0 (0, 0)).1 = (bestP l w pen 0).1 := rfl
  unfold linesR
  rw [if_pos (by rw [hv, hp]; rfl), hbp]
  by_cases h : (bestP l w pen 0).1 < 0
  · rw [if_pos h]
    exact .inr ⟨rfl, fun h2 => by have := hbi.2 h2; omega, rfl, rfl⟩
  · rw [if_neg h]
    have hw := best_way hb hp0 (ptN l) 0 (Nat.zero_le _) (by omega) (show 0 ≤ (bestP l w pen 0).1 by omega)
    exact .inl ⟨rfl, hbi.1 (by omega), _, hw.1, rfl, hw.2, fun qs hq => (best_le hb hp0 hq).2⟩
/-! penalties -/
theorem Fit.len {l : List Bx} {w : Int} : ∀ {a z : Nat} {ks : List Nat}, Fit l w a ks z → ks.length ≤ z - a
  | _, _, [], _ => Nat.zero_le _
  | a, z, k :: ks, ⟨h1, _, _, h2⟩ => by
    have := h2.len
    have := h2.le
    rw [List.length_cons]; omega
/-! smallest pieces -/
end Go.GH
namespace Go.GH
open Go Go.Lib
end Go.GH
namespace Go.GH
open Go Go.Lib
/-! how many -/
/-! the first cheapest -/
end Go.GH
namespace Go.GH
open Go Go.Lib
theorem way_ok {l : List Bx} {w : Int} (hb : boxesB l = true) : ∀ {i z : Nat} {ks : List Nat}, Fit l w i ks z → ∀ x ∈ linesOf l i ks, LnOK x
  | _, _, [], _, x, hx => by cases hx
  | i, z, k :: ks, ⟨h1, h2, h3, h4⟩, x, hx => by
    rcases List.mem_cons.1 hx with rfl | hx
    · exact line_ok hb h1 h2
    · exact way_ok hb h4 x hx
theorem cnt_pts {l : List Bx} : ∀ k, k ≤ l.length → (ptsF (l.take k)).length + 1 = cntB (l.take k)
  | 0, _ => by rw [List.take_zero]; rfl
  | k + 1, hk => by
    have ih := cnt_pts k (by omega) (l := l)
    rw [ptsF_take (by omega), cntB_take (by omega), List.length_append, List.length_cons, List.length_map]
    omega
theorem ptN_cnt (l : List Bx) : ptN l = cntB l := by
  have h := cnt_pts l.length (Nat.le_refl _) (l := l)
  rw [List.take_length] at h
  rw [ptN_eq, pointsL, List.length_append, List.length_singleton, h]
def endK : Nat → List Nat → Nat
  | a, [] => a
  | _, k :: ks => endK k ks
end Go.GH
namespace Go.GH
open Go Go.Lib
/-! nothing runs over -/
end Go.GH
namespace Go.GH
open Go Go.Lib
/-! along a way -/
theorem Fit.at {l : List Bx} {w : Int} : ∀ {a z : Nat} {ks : List Nat}, Fit l w a ks z → ∀ i, i < ks.length → endK a (ks.take i) < ks.getD i 0 ∧ ks.getD i 0 < ptN l ∧ lenP l (endK a (ks.take i)) (ks.getD i 0) ≤ w ∧ ks.getD i 0 ≤ z ∧ (i + 1 < ks.length → ks.getD i 0 < z)
  | a, z, k :: ks, ⟨h1, h2, h3, h4⟩, 0, _ => ⟨h1, h2, h3, h4.le, fun h => by
      show k < z
      cases ks with
      | nil => simp at h
      | cons q qs => have := h4.1; have := h4.2.2.2.le; omega⟩
  | a, z, k :: ks, ⟨h1, h2, h3, h4⟩, i + 1, hi => by
    have := h4.at i (by simpa using hi)
    exact ⟨this.1, this.2.1, this.2.2.1, this.2.2.2.1, fun h => this.2.2.2.2 (by simpa using h)⟩
end Go.GH
namespace Go.GH
open Go Go.Lib
theorem many_pts {l : List Bx} (h : manyB l = false) : ptN l ≤ 841 := by
  obtain ⟨h1, h2⟩ := many_ok h
  rw [ptN_cnt]
  have key : ∀ l : List Bx, (∀ x ∈ l, x.pts.length ≤ 20) → (l.map (fun b => 1 + b.pts.length)).sum ≤ 21 * l.length := fun l => by
    induction l with
    | nil => intro _; exact Nat.le_refl _
    | cons b l ih =>
      intro hx
      have := ih (fun x hx' => hx x (List.mem_cons_of_mem _ hx'))
      have := hx b (List.mem_cons_self ..)
      rw [List.map_cons, List.sum_cons, List.length_cons]; omega
  have := key l (fun x hx => (h2 x hx).2)
  unfold cntB
  omega
theorem Fit.small {l : List Bx} {w : Int} (h : manyB l = false) {ks : List Nat} (hf : Fit l w 0 ks (ptN l - 1)) : ks.length ≤ 840 := by
  have := hf.len
  have := many_pts h
  omega
end Go.GH
namespace Go.GH
open Go Go.Lib
theorem prpW {s : ByteArray} (h : wordB s = true) : Prp s := (utf8R_iff s).1 (wordB_iff.1 h).2.1
theorem blB_next (n : Nat) : blB (n + 1) = blB n ++ sp1 := by
  apply ByteArray.ext
  apply Array.toList_inj.1
  rw [ByteArray.data_append, Array.toList_append]
  show List.replicate (n + 1) 32 = List.replicate n 32 ++ [32]
  rw [List.replicate_succ']
theorem prp_bl : ∀ n, Prp (blB n) ∧ wlen (blB n) = n
  | 0 => ⟨by unfold Prp; decide +kernel, by decide +kernel⟩
  | n + 1 => by
    obtain ⟨h1, h2⟩ := prp_bl n
    rw [blB_next]
    exact ⟨(prp_app h1 prp_sp1.1).2, by rw [wlen_app h1 prp_sp1.1, h2, prp_sp1.2]⟩
theorem prp_empty : Prp ByteArray.empty ∧ wlen ByteArray.empty = 0 := ⟨by unfold Prp; decide +kernel, by decide +kernel⟩
def sumT (ws : List ByteArray) (k : Nat) : Nat := ((ws.take k).map wlen).sum
theorem sumT_next {ws : List ByteArray} {k : Nat} (h : k < ws.length) : sumT ws (k + 1) = sumT ws k + wlen (ws.getD k .empty) := by
  unfold sumT
  rw [List.take_add_one, List.getElem?_eq_getElem h, List.map_append, List.sum_append, getD_w h]
  simp
theorem sumT_all (ws : List ByteArray) : sumW ws = sumT ws ws.length + ws.length := by
  unfold sumT sumW
  rw [List.take_length]
  induction ws with
  | nil => rfl
  | cons w ws ih => simp only [List.map_cons, List.sum_cons, List.length_cons]; omega
theorem sprK_len {ws : List ByteArray} {g m : Nat} (hw : ∀ w ∈ ws, Prp w) (hg : g < ws.length) : ∀ k, k ≤ g → Prp (sprK ws g m k) ∧ wlen (sprK ws g m k) = sumT ws k + k * (1 + m / g) + min k (m % g)
  | 0, _ => ⟨prp_empty.1, by rw [sprK, prp_empty.2]; simp [sumT]⟩
  | k + 1, hk => by
    obtain ⟨h1, h2⟩ := sprK_len hw hg k (by omega)
    have hkl : k < ws.length := by omega
    have hpw : Prp (ws.getD k .empty) := by rw [getD_w hkl]; exact hw _ (List.getElem_mem hkl)
    obtain ⟨b1, b2⟩ := prp_bl (gapN m g k)
    have a1 := (prp_app h1 hpw).2
    rw [sprK, if_pos (by omega)]
    refine ⟨(prp_app a1 b1).2, ?_⟩
    rw [wlen_app a1 b1, wlen_app h1 hpw, b2, h2, sumT_next hkl, Nat.succ_mul]
    unfold gapN
    split <;> omega
theorem sprL_len {ln : Ln} {m : Nat} (hw : ∀ w ∈ ln.words, Prp w) (h2 : 2 ≤ ln.words.length) : wlen (sprL ln m) + 1 = sumW ln.words + m + if ln.hyph then 1 else 0 := by
  obtain ⟨g, hg⟩ : ∃ g, ln.words.length = g + 1 := ⟨ln.words.length - 1, by omega⟩
  obtain ⟨h1, h3⟩ := sprK_len (m := m) hw (show g < ln.words.length by omega) g (Nat.le_refl _)
  have hpw : Prp (ln.words.getD g .empty) := by rw [getD_w (by omega)]; exact hw _ (List.getElem_mem (by omega))
  have e : sprK ln.words (ln.words.length - 1) m ln.words.length = sprK ln.words g m g ++ ln.words.getD g .empty := by
    rw [hg, Nat.add_sub_cancel, sprK, if_neg (Nat.lt_irrefl _)]
  have hdm := Nat.div_add_mod m g
  have hml : m % g < g := Nat.mod_lt _ (by omega)
  have hk := sumT_all ln.words
  rw [hg, sumT_next (by omega)] at hk
  have hmul : g * (1 + m / g) = g + g * (m / g) := by rw [Nat.mul_add, Nat.mul_one]
  have h4 : wlen (sprK ln.words g m g ++ ln.words.getD g .empty) + 1 = sumW ln.words + m := by
    rw [wlen_app h1 hpw, h3, hmul, Nat.min_eq_right (by omega)]
    omega
  unfold sprL
  rw [e]
  split
  · rw [wlen_app (prp_app h1 hpw).2 prp_hy1.1, prp_hy1.2]; omega
  · omega
theorem spread_ok {ln : Ln} {w : Int} {last : Bool} (hwd : wideB w = true) (hp : prB ln = true) (hle : (wlen (textL ln) : Int) ≤ w) : (spreadR ln w last).2 = 0 ∧ (wlen (spreadR ln w last).1 : Int) = w := by
  have hgood : (wideB w && prB ln) = true := by rw [hwd, hp]; rfl
  obtain ⟨hp1, hp2⟩ := prB_iff.1 hp
  have hpw : ∀ x ∈ ln.words, Prp x := fun x hx => prpW (hp2 x hx)
  have hne : ln.words ≠ [] := List.length_pos_iff.1 hp1
  have htl := textL_len hne hpw
  obtain ⟨m, hm⟩ : ∃ m : Nat, w - (wlen (textL ln) : Int) = (m : Int) := ⟨(w - (wlen (textL ln) : Int)).toNat, by omega⟩
  by_cases hc : last = true ∨ ln.words.length = 1
  · rw [spread_last hgood hm hc]
    refine ⟨rfl, ?_⟩
    have hpt : Prp (textL ln) := by
      unfold textL
      split
      · exact (prp_app (catW_len hne hpw).2 prp_hy1.1).2
      · exact (catW_len hne hpw).2
    obtain ⟨b1, b2⟩ := prp_bl m
    show ((wlen (textL ln ++ blB m) : Nat) : Int) = w
    rw [wlen_app hpt b1, b2]
    omega
  · have hl : last = false := by cases last with | true => exact absurd (.inl rfl) hc | false => rfl
    have h1 : ¬ ln.words.length = 1 := fun e => hc (.inr e)
    rw [spread_gaps hgood hm hl h1]
    refine ⟨rfl, ?_⟩
    have := sprL_len (m := m) hpw (by omega)
    show ((wlen (sprL ln m) : Nat) : Int) = w
    omega
theorem linesOf_good {l : List Bx} {w : Int} (hb : boxesB l = true) : ∀ {a z : Nat} {ks : List Nat}, Fit l w a ks z → ∀ ln ∈ linesOf l a ks, prB ln = true ∧ (wlen (textL ln) : Int) ≤ w
  | _, _, [], _, ln, h => by cases h
  | a, z, k :: ks, ⟨h1, h2, h3, h4⟩, ln, h => by
    rcases List.mem_cons.1 h with rfl | h
    · obtain ⟨g1, g2⟩ := line_gd hb h1 h2
      exact ⟨prB_iff.2 ⟨List.length_pos_iff.2 g1, fun s hs => ((g2 s hs).word hb).1⟩, by rw [line_len hb h1 h2]; exact h3⟩
    · exact linesOf_good hb h4 ln h
theorem lines_good {l : List Bx} {w pen : Int} : ∀ ln ∈ (linesR l w pen).1, wideB w = true ∧ prB ln = true ∧ (wlen (textL ln) : Int) ≤ w ∧ LnOK ln := fun ln hln => by
  by_cases hv : validL l w = true
  · by_cases hp : penB pen = true
    · have hb := (valid_of hv).2
      rcases linesR_ok hv hp with ⟨_, _, ks, hf, e, _⟩ | ⟨_, _, _, e⟩
      · rw [e] at hln
        have := linesOf_good hb hf ln hln
        exact ⟨wideX_iff.2 (valid_of hv).1, this.1, this.2, way_ok hb hf ln hln⟩
      · rw [e] at hln; cases hln
    · unfold linesR at hln
      rw [if_neg (by simp [hp])] at hln
      cases hln
  · unfold linesR at hln
    rw [if_neg (by simp [hv])] at hln
    cases hln
end Go.GH
namespace Go.GH
open Go Go.Proofs
variable {E : Env}
end Go.GH
namespace Go.GH
open Go Go.Proofs
variable {E : Env}
end Go.GH
namespace Go.GH
open Go Go.Proofs
variable {E : Env}
end Go.GH
namespace Go.GH
open Go Go.Proofs
variable {E : Env}
end Go.GH
namespace Go.GH
open Go Go.Proofs
variable {E : Env}
def sprAt (ls : List Ln) (w : Int) (i : Nat) : ByteArray × Int := spreadR (ls.getD i ⟨[], false⟩) w ((i : Int) == (ls.length : Int) - 1)
def sprs (ls : List Ln) (w : Int) (k : Nat) : List ByteArray := (List.range k).map (fun i => (sprAt ls w i).1)
theorem sprs_next (ls : List Ln) (w : Int) (k : Nat) : sprs ls w (k + 1) = sprs ls w k ++ [(sprAt ls w k).1] := by unfold sprs; rw [List.range_succ, List.map_append]; rfl
theorem sprs_len (ls : List Ln) (w : Int) (k : Nat) : (sprs ls w k).length = k := by simp [sprs]
theorem sprs_get {ls : List Ln} {w : Int} {i k : Nat} (h : i < (sprs ls w k).length) : (sprs ls w k)[i] = (sprAt ls w i).1 := by simp [sprs]
def paraR (l : List Bx) (w pen : Int) : List ByteArray × Int := (sprs (linesR l w pen).1 w (linesR l w pen).1.length, (linesR l w pen).2.2)
theorem sprAt_eq {ls : List Ln} {w : Int} {i : Nat} (h : i < ls.length) : sprAt ls w i = spreadR ls[i] w ((i : Int) == (ls.length : Int) - 1) := by
  unfold sprAt
  rw [List.getD_eq_getElem?_getD, List.getElem?_eq_getElem h]; rfl
theorem lines_bad {l : List Bx} {w pen : Int} (h : ¬ (linesR l w pen).2.2 = 0) : (linesR l w pen).1 = [] := by
  by_cases hv : validL l w = true
  · by_cases hp : penB pen = true
    · rcases linesR_ok hv hp with ⟨e, _⟩ | ⟨_, _, _, e⟩
      · exact absurd e h
      · exact e
    · unfold linesR
      rw [if_neg (by simp [hp])]
  · unfold linesR
    rw [if_neg (by simp [hv])]
theorem para_bad {l : List Bx} {w pen : Int} (h : ¬ (linesR l w pen).2.2 = 0) : (paraR l w pen).1 = [] := by
  unfold paraR
  rw [lines_bad h]
  rfl
theorem LnOK.fit {ln : Ln} (h : LnOK ln) : (∀ w ∈ ln.words, w.size ≤ 1048576) ∧ ln.words.length ≤ 1048576 := ⟨fun w hw => Nat.le_trans (h.2 w hw) (by decide), Nat.le_trans h.1 (by decide)⟩
theorem linesR_few {l : List Bx} {w pen : Int} : (linesR l w pen).1.length ≤ ptN l := by
  by_cases hv : validL l w = true
  · by_cases hp : penB pen = true
    · rcases linesR_ok hv hp with ⟨_, _, ks, hf, e, _⟩ | ⟨_, _, _, e⟩
      · rw [e, linesOf_len]
        have := hf.len
        omega
      · rw [e]; exact Nat.zero_le _
    · unfold linesR
      rw [if_neg (by simp [hp])]; exact Nat.zero_le _
  · unfold linesR
    rw [if_neg (by simp [hv])]; exact Nat.zero_le _
theorem linesR_small {l : List Bx} {w pen : Int} : (linesR l w pen).1.length ≤ 200201 := by
  by_cases hv : validL l w = true
  · exact Nat.le_trans linesR_few (ptN_le (valid_of hv).2)
  · unfold linesR
    rw [if_neg (by simp [hv])]; exact Nat.zero_le _
theorem jParagraph (hV : VS E) (l : List Bx) (w pen : Int) (hbx : ∀ x ∈ l, x.word.size ≤ 1048576) : GCall Tryz.prog E 17 [DBxs l, .v (.int .i64 w), .v (.int .i64 pen)] [] (fun d H => d = .tup [DStrs (paraR l w pen).1, .v (.int .i64 (paraR l w pen).2)] ∧ H = []) := by
 refine GCall.body (C := ⟨Tryz.prog, E, true⟩) Tryz.func17 rfl (fun _ => rfl) (by kernel_rfl) rfl ?_
 refine SCode.seqR (SOps.assign rfl (SOps.assign rfl (SOps.nil (SCode.seqR (SOps.move rfl (SOps.move rfl (SOps.move rfl (SOps.callP (sLines hV l w pen hbx) rfl ?_))))))))
 rintro _ rfl
 refine SOps.move rfl (SOps.extract rfl rfl (SOps.extract rfl rfl (SOps.extract rfl rfl (SOps.assign rfl (SOps.assign rfl (SOps.assign rfl (SOps.nil (SCode.seq (SCode.seqR (SOps.move rfl (SOps.bin rfl rfl rfl (SOps.nil ?_))))))))))))
 refine SCode.cond rfl (fun hc1 => ?_) (fun hc1 => ?_)
 ·try simp only [nmL] at hc1
  refine SCode.seqR (SOps.move rfl (SOps.assign rfl (SOps.assign rfl (SOps.nil (SCode.nilIsl (t := 6) (sz := 1) rfl (SCode.ret ?_))))))
  exact ⟨_, Res.two (.tmp rfl) (.tmp rfl), by rw [para_bad (by simp_all)]; rfl, rfl⟩
 ·try simp only [nmL] at hc1
  refine SCode.skip ?_
  show SCode _ _ _ _
  refine SCode.seqR (SOps.assign rfl (SOps.nil (SCode.seq (SCode.seqR (SOps.move rfl (SOps.lenM rfl sliceB_36_24_2 (SOps.move rfl (SOps.nil (SCode.block (SCode.loop2 (fun (i : Nat) (k : Nat) => (⟨54, [(1, .v (.int .i64 w)), (8, DLns (linesR l w pen).1), (11, accD 1 k ((sprs (linesR l w pen).1 w i).map encS)), (27, DLns (linesR l w pen).1), (28, .v (.int .i64 ((linesR l w pen).1.length : Int))), (29, .v (.int .i64 (i : Int)))], (accH 9 1 k ((sprs (linesR l w pen).1 w i).map encS) ++ [])⟩ : St)) (fun (i : Nat) (k : Nat) => i ≤ (linesR l w pen).1.length) (fun (i : Nat) (k : Nat) => (linesR l w pen).1.length - i) (0) (0) (by exact Nat.zero_le _) (St.Le.of ⟨(by first | rfl | (show some _ = some _; simp)), (by first | rfl | (show some _ = some _; simp)), (by first | rfl | (show some _ = some _; simp)), (by first | rfl | (show some _ = some _; simp)), (by first | rfl | (show some _ = some _; simp)), (by first | rfl | (show some _ = some _; simp)), trivial⟩ rfl (by first | rfl | (simp))) ?_))))))))))
  rintro i k hi
  refine SCode.fact (isl_len (t := 27) rfl) (fun hB => ?_)
  simp only [List.length_map, lenB] at hB
  have hsl := sprs_len (linesR l w pen).1 w i
  have hfw := linesR_small (l := l) (w := w) (pen := pen)
  refine SCode.seqR (SOps.bin rfl rfl rfl (SOps.nil (SCode.seq ?_)))
  refine SCode.cond rfl (fun hc2 => ?_) (fun hc2 => ?_)
  ·try simp only [nmL] at hc2
   refine SCode.skip ?_
   show SCode _ _ _ _
   refine SCode.seq (SCode.block (SCode.seqR ?_))
   have hil : i < (linesR l w pen).1.length := by omega
   obtain ⟨hwd, hpr, hfit, hok⟩ := lines_good _ (List.getElem_mem hil)
   have hsp := spread_ok (last := ((i : Int) == ((linesR l w pen).1.length : Int) - 1)) hwd hpr hfit
   have hse := sprAt_eq (w := w) hil
   refine SOps.move rfl (SOps.indexM (i) rfl rfl sliceB_36_24_2 (by first | omega | (simp only [lenB]; omega) | (simp only [List.length_map, lenB]; omega) | (simp; done)) (by first | omega | (simp only [lenB]; omega) | (simp only [List.length_map, lenB]; omega) | (simp; done)) (SOps.loadPinA rfl aggB_24_2 (Nat.le_of_ble_eq_true rfl) ?_))
   refine SOps.alloc (sz := 2) zeroIs_24 (fun b0 hb_0 => ?_)
   refine SOps.assign rfl (SOps.storeAM 0 rfl rfl aggB_24_2 rfl (SOps.freezeRef (t := 13) 0 0 rfl rfl rfl rfl rfl (SOps.nil (SCode.seqR (SOps.loadPinA rfl aggB_24_2 (Nat.le_of_ble_eq_true rfl) (SOps.move rfl (SOps.move rfl (SOps.move rfl (SOps.lenM rfl sliceB_36_24_2 (SOps.subI rfl rfl (by first | omega | (simp only [lenB]; omega) | (simp only [List.length_map, lenB]; omega) | (simp; done)) (by first | omega | (simp only [lenB]; omega) | (simp only [List.length_map, lenB]; omega) | (simp; done)) (SOps.bin rfl rfl rfl (SOps.callP (jSpread hV _ w _ hok.fit.1 hok.fit.2) rfl ?_))))))))))))
   rintro _ rfl
   refine SOps.move rfl (SOps.extract rfl rfl (SOps.extract rfl rfl (SOps.assign rfl (SOps.assign rfl (SOps.nil (SCode.seq (SCode.seqR (SOps.move rfl (SOps.bin rfl rfl rfl (SOps.reSlot (t := 46) rfl (show _ = DV.v (.bool false) from congrArg (fun b => DV.v (.bool b)) (by rw [hsp.1]; rfl)) (SOps.nil ?_)))))))))))
   refine SCode.cond rfl (fun h => by cases h) (fun _ => ?_)
   refine SCode.skip ?_
   show SCode _ _ _ _
   refine SCode.region (SOps.move rfl (SOps.move rfl (SOps.litF rfl sliceB_22_9_1 zeroIs_9 rfl ?_)))
   refine SOps.appendAcc [] _ sliceB_22_9_1 elemB_9_1_16 rfl rfl rfl SrcD.isl (by simp) (by first | (simp [lenB] <;> (first | omega | (simp only [lenB]; omega) | (simp only [List.length_map, lenB]; omega) | (simp; done))) | (simp only [lenB]; (first | omega | (simp only [lenB]; omega) | (simp only [List.length_map, lenB]; omega) | (simp; done)))) (by first | (simp <;> (first | omega | (simp only [lenB]; omega) | (simp only [List.length_map, lenB]; omega) | (simp; done))) | (first | omega | (simp only [lenB]; omega) | (simp only [List.length_map, lenB]; omega) | (simp; done))) (fun b1 => ?_)
   refine SOps.assign rfl (SOps.nil ?_)
   show SCode _ _ _ _
   refine SCode.region (SOps.addI rfl rfl (by first | omega | (simp only [lenB]; omega) | (simp only [List.length_map, lenB]; omega) | (simp; done)) (by first | omega | (simp only [lenB]; omega) | (simp only [List.length_map, lenB]; omega) | (simp; done)) (SOps.move rfl (SOps.nil ?_)))
   exact ⟨i + 1, b1, by omega, by omega, St.Le.of ⟨rfl, rfl, (by show some _ = some _; rw [sprs_next, hse, List.map_append]; rfl), rfl, rfl, rfl, trivial⟩ rfl (by rw [sprs_next, hse, List.map_append]; rfl)⟩
  ·try simp only [nmL] at hc2
   refine SCode.exit ?_
   show SCode _ _ _ _
   refine SCode.seqR ?_
   obtain rfl : i = (linesR l w pen).1.length := by omega
   refine SOps.freezeAcc (t := 11) [] [] rfl rfl rfl (SOps.move rfl (SOps.assign rfl (SOps.assign rfl (SOps.nil (SCode.ret ?_)))))
   exact ⟨_, Res.two (.tmp rfl) (.tmp rfl), by unfold paraR; rw [show (linesR l w pen).2.2 = 0 from by simp_all], rfl⟩
end Go.GH
namespace Go.GH
open Go Go.Lib Go.Proofs Go.RowKit
def unY : List (List DV) → Option (List UInt8)
  | [] => some []
  | [.v (.int .u8 (.ofNat n))] :: l => bif Nat.blt n 256 then (unY l).map (UInt8.ofNat n :: ·) else none
  | _ => none
def unS : List (List DV) → Option (List ByteArray)
  | [] => some []
  | [.v (.string s)] :: l => (unS l).map (s :: ·)
  | _ => none
theorem unY_eq : ∀ {es : List (List DV)} {bs : List UInt8}, unY es = some bs → es = bs.map encY
  | [], bs, h => by unfold unY at h; cases h; rfl
  | e :: l, bs, h => by
    unfold unY at h
    split at h
    · rename_i h0; cases h0
    · rename_i n l' h0
      simp only [List.cons.injEq] at h0
      obtain ⟨rfl, rfl⟩ := h0
      rcases bif_ite h with ⟨hf, h⟩ | ⟨_, h⟩
      · obtain ⟨bs', h1, rfl⟩ := Option.map_eq_some_iff.1 h
        have hn : n < 256 := by simpa using hf
        rw [unY_eq h1]
        show _ = encY (UInt8.ofNat n) :: _
        unfold encY
        rw [show ((UInt8.ofNat n).toNat : Int) = Int.ofNat n by simp; omega]
      · cases h
    · cases h
theorem unS_eq : ∀ {es : List (List DV)} {ws : List ByteArray}, unS es = some ws → es = ws.map encS
  | [], bs, h => by unfold unS at h; cases h; rfl
  | e :: l, bs, h => by
    unfold unS at h
    split at h
    · rename_i h0; cases h0
    · rename_i n l' h0
      simp only [List.cons.injEq] at h0
      obtain ⟨rfl, rfl⟩ := h0
      obtain ⟨bs', h1, rfl⟩ := Option.map_eq_some_iff.1 h
      rw [unS_eq h1]
      rfl
    · cases h
theorem RLL.map_v {ρ : Rn} {α : Type} {f : α → List DV} (hf : ∀ a, ∃ x, f a = [.v x]) : ∀ {l : List α} {es : List (List DV)}, RLL ρ (l.map f) es → es = l.map f
  | [], es, h => h.inv_nil
  | a :: l, es, h => by
    obtain ⟨b, t, rfl, h1, h2⟩ := PWl.inv_cons h
    obtain ⟨x, hx⟩ := hf a
    rw [hx] at h1
    rw [RL1 h1, RLL.map_v hf h2, List.map_cons, hx]
theorem RLL.self_v {ρ : Rn} {α : Type} {f : α → List DV} (hf : ∀ a, ∃ x, f a = [.v x]) (l : List α) : RLL ρ (l.map f) (l.map f) := PWl.refl (fun e he => by
  obtain ⟨a, _, rfl⟩ := List.mem_map.1 he
  obtain ⟨x, hx⟩ := hf a
  rw [hx]
  exact RL.self (fun d hd => ⟨x, by simpa using hd⟩))
theorem encY_v (y : UInt8) : ∃ x, encY y = [.v x] := ⟨_, rfl⟩
theorem encS_v (s : ByteArray) : ∃ x, encS s = [.v x] := ⟨_, rfl⟩

/-! ### a builder -/
def okX (b : Nat) : DV → Bool
  | .v (.pointer none) => true
  | .vref b2 86 2 => Nat.beq b2 b
  | _ => false
def bldE (hp : Nat → Option DO) (b : Nat) : Option (List UInt8 × Option Nat) := match hp b with
  | some (.row 86 2 [[x, acc]]) => bif okX b x then (match acc with
    | .v (.slice none 0 0) => some ([], none)
    | .sl g 1 0 n => (match hp g with
      | some (.row 5 1 es) => (match unY es with
        | some (y :: bs) => bif Nat.beq n (bs.length + 1) then some (y :: bs, some g) else none
        | _ => none)
      | _ => none)
    | _ => none) else none
  | _ => none
theorem okX_rd {ρ : Rn} {b b' : Nat} {x x' : DV} (h : okX b x = true) (hb : ρ b = some b') (hr : RD ρ x x') : ∃ used, x' = adrB b' used := by
  unfold okX at h
  split at h
  · exact ⟨false, hr.inv_v⟩
  · obtain ⟨b2, rfl, h2⟩ := hr.inv_vref
    obtain rfl := Nat.eq_of_beq_eq_true h
    rw [hb] at h2
    obtain rfl := Option.some.inj h2
    exact ⟨true, rfl⟩
  · cases h
/-- What an abstract heap holds where the evaluator's holds a builder. -/
theorem bldE_ok {hp : Nat → Option DO} {b : Nat} {bs : List UInt8} {og : Option Nat} (h : bldE hp b = some (bs, og)) :
    hp b ≠ none ∧ (∀ g, og = some g → hp g ≠ none ∧ g ≠ b) ∧ (og = none → bs = []) ∧ ∀ ρ H b', CovH ρ hp H → ρ b = some b' → ∃ g' used G, (bldH b' g' used bs ++ G).Perm H ∧ (∀ p ∈ bldH b' g' used bs, p.1 = b' ∨ ∃ g, og = some g ∧ ρ g = some p.1) := by
  unfold bldE at h
  split at h
  · rename_i x acc hb
    rcases bif_ite h with ⟨hx, h⟩ | ⟨_, h⟩
    · split at h
      · cases h
        refine ⟨by rw [hb]; simp, (fun g h => by cases h), (fun _ => rfl), fun ρ H b' hc hbb => ?_⟩
        obtain ⟨b2, o', e1, e2, e3⟩ := hc.obj b _ hb
        rw [hbb] at e1
        obtain rfl := Option.some.inj e1
        cases e3 with
        | row h =>
          obtain ⟨r, t, rfl, h1, h2⟩ := PWl.inv_cons h
          obtain rfl := PWl.inv_nil h2
          obtain ⟨x', t, rfl, h3, h4⟩ := PWl.inv_cons h1
          obtain ⟨a', t, rfl, h5, h6⟩ := PWl.inv_cons h4
          obtain rfl := PWl.inv_nil h6
          rw [h5.inv_v] at e2
          obtain ⟨used, rfl⟩ := okX_rd hx hbb h3
          obtain ⟨G, hG⟩ := perm_one e2
          exact ⟨0, used, G, hG, fun p hp => .inl (by rw [List.mem_singleton.1 hp])⟩
      · rename_i g n hh
        clear hh
        split at h
        · rename_i es hg
          split at h
          · rename_i y bs0 hu
            rcases bif_ite h with ⟨hn, h⟩ | ⟨_, h⟩
            · cases h
              have hgb : g ≠ b := fun e => by rw [e, hb] at hg; cases hg
              refine ⟨by rw [hb]; simp, (fun g2 h2 => by cases h2; exact ⟨by rw [hg]; simp, hgb⟩), (fun h => by cases h), fun ρ H b' hc hbb => ?_⟩
              obtain rfl := Nat.eq_of_beq_eq_true hn
              obtain ⟨b2, o', e1, e2, e3⟩ := hc.obj b _ hb
              rw [hbb] at e1
              obtain rfl := Option.some.inj e1
              obtain ⟨g', og', k1, k2, k3⟩ := hc.obj g _ hg
              cases e3 with
              | row h =>
                obtain ⟨r, t, rfl, h1, h2⟩ := PWl.inv_cons h
                obtain rfl := PWl.inv_nil h2
                obtain ⟨x', t, rfl, h3, h4⟩ := PWl.inv_cons h1
                obtain ⟨a', t, rfl, h5, h6⟩ := PWl.inv_cons h4
                obtain rfl := PWl.inv_nil h6
                obtain ⟨g2, rfl, h7⟩ := h5.inv_sl
                rw [k1] at h7
                obtain rfl := Option.some.inj h7
                obtain ⟨used, rfl⟩ := okX_rd hx hbb h3
                cases k3 with
                | row hk =>
                  rw [unY_eq hu] at hk
                  obtain rfl := RLL.map_v encY_v hk
                  obtain ⟨G, hG⟩ := perm_two e2 k2 (fun e => by
                    have := congrArg Prod.fst e
                    simp only at this
                    subst this
                    exact hgb (hc.inj g b _ _ _ hg hb k1 hbb))
                  refine ⟨g', used, G, ?_, fun p hp => ?_⟩
                  · refine (List.Perm.of_eq ?_).trans hG
                    show [_, _] ++ G = _
                    simp [bldH, accD, List.length_map]
                  · rcases List.mem_cons.1 hp with h | h
                    · exact .inl (by rw [h])
                    · rw [List.mem_singleton.1 h]; exact .inr ⟨g, rfl, k1⟩
            · cases h
          · cases h
        · cases h
      · cases h
    · cases h
  · cases h
end Go.GH
namespace Go.GH
open Go Go.Lib Go.Proofs Go.RowKit
def newB (nx b : Nat) (bs : List UInt8) (og : Option Nat) : List (Nat × Option DO) := match bs with
  | [] => [(b, some (.row 86 2 [[.vref b 86 2, .v (.slice none 0 0)]]))]
  | y :: l => (nx, some (.row 5 1 ((y :: l).map encY))) :: ((match og with | some g => [(g, none)] | none => []) ++ [(b, some (.row 86 2 [[.vref b 86 2, .sl nx 1 0 (l.length + 1)]]))])
theorem blt_of {a c : Nat} (h : a < c) : Nat.blt a c = true := by simpa using h
theorem newB_facts {hp : Tr DO} {nx b : Nat} {bs : List UInt8} {og : Option Nat} (hcap : Nat.blt nx capE = true) (hb : b < nx) (hg : ∀ g, og = some g → g < nx ∧ g ≠ b ∧ bs ≠ []) :
    (upsE hp (newB nx b bs og)).get b = some (.row 86 2 [[.vref b 86 2, accD 1 nx (bs.map encY)]]) ∧ (bs ≠ [] → (upsE hp (newB nx b bs og)).get nx = some (.row 5 1 (bs.map encY)) ∧ nx ∈ (newB nx b bs og).map (·.1)) ∧ (∀ g, og = some g → (upsE hp (newB nx b bs og)).get g = none ∧ g ∈ (newB nx b bs og).map (·.1)) ∧
    b ∈ (newB nx b bs og).map (·.1) ∧ (∀ k ∈ (newB nx b bs og).map (·.1), k = b ∨ (k = nx ∧ bs ≠ []) ∨ og = some k) ∧ ∀ k, k ∉ (newB nx b bs og).map (·.1) → (upsE hp (newB nx b bs og)).get k = hp.get k := by
  have hnc : nx < capE := by simpa using hcap
  have cb : Nat.blt b capE = true := blt_of (by omega)
  cases bs with
  | nil =>
    cases og with
    | some g => exact absurd rfl (hg g rfl).2.2
    | none =>
      have key : ∀ j, (upsE hp (newB nx b [] none)).get j = if j = b then some (.row 86 2 [[.vref b 86 2, .v (.slice none 0 0)]]) else hp.get j := fun j => put_get _ _ _ cb
      refine ⟨by rw [key, if_pos rfl]; rfl, fun h => absurd rfl h, (fun g h => by cases h), List.mem_singleton.2 rfl, fun k hk => .inl (List.mem_singleton.1 hk), fun k hk => ?_⟩
      rw [key, if_neg (fun e => hk (List.mem_singleton.2 e))]
  | cons y l =>
    cases og with
    | none =>
      have key : ∀ j, (upsE hp (newB nx b (y :: l) none)).get j = if j = b then some (.row 86 2 [[.vref b 86 2, .sl nx 1 0 (l.length + 1)]]) else if j = nx then some (.row 5 1 ((y :: l).map encY)) else hp.get j := fun j => (put_get _ _ _ cb).trans (by rw [put_get _ _ _ hcap])
      refine ⟨by rw [key, if_pos rfl]; simp [accD], fun _ => ⟨by rw [key, if_neg (by omega), if_pos rfl], List.mem_cons_self ..⟩, (fun g h => by cases h), List.mem_cons_of_mem _ (List.mem_singleton.2 rfl), fun k hk => ?_, fun k hk => ?_⟩
      · rcases List.mem_cons.1 hk with h | h
        · exact .inr (.inl ⟨h, by simp⟩)
        · exact .inl (List.mem_singleton.1 h)
      · rw [key, if_neg (fun e => hk (by rw [e]; exact List.mem_cons_of_mem _ (List.mem_singleton.2 rfl))), if_neg (fun e => hk (by rw [e]; exact List.mem_cons_self ..))]
    | some g =>
      obtain ⟨g1, g2, _⟩ := hg g rfl
      have cg : Nat.blt g capE = true := blt_of (by omega)
      have key : ∀ j, (upsE hp (newB nx b (y :: l) (some g))).get j = if j = b then some (.row 86 2 [[.vref b 86 2, .sl nx 1 0 (l.length + 1)]]) else if j = g then none else if j = nx then some (.row 5 1 ((y :: l).map encY)) else hp.get j := fun j => (put_get _ _ _ cb).trans (by rw [put_get _ _ _ cg, put_get _ _ _ hcap])
      have hm : ∀ k, k ∈ (newB nx b (y :: l) (some g)).map (·.1) ↔ k = nx ∨ k = g ∨ k = b := fun k => by simp [newB]
      refine ⟨by rw [key, if_pos rfl]; simp [accD], fun _ => ⟨by rw [key, if_neg (by omega), if_neg (by omega), if_pos rfl], (hm _).2 (.inl rfl)⟩, fun g' h => ?_, (hm _).2 (.inr (.inr rfl)), fun k hk => ?_, fun k hk => ?_⟩
      · cases h
        exact ⟨by rw [key, if_neg g2, if_pos rfl], (hm _).2 (.inr (.inl rfl))⟩
      · rcases (hm k).1 hk with h | h | h
        · exact .inr (.inl ⟨h, by simp⟩)
        · exact .inr (.inr (by rw [h]))
        · exact .inl h
      · have := fun x => hk ((hm k).2 x)
        rw [key, if_neg (fun e => this (.inr (.inr e))), if_neg (fun e => this (.inr (.inl e))), if_neg (fun e => this (.inl e))]
theorem bldStep {f : FuncId} {xs : List DV} {d : DV} {hp : Tr DO} {nx b : Nat} {bs bs2 : List UInt8} {og : Option Nat} (hxs : ∀ ρ ys, RL ρ xs ys → ys = xs) (hd : ∀ ρ, RD ρ d d)
    (hcon : ∀ b g used, GCall Tryz.prog E50 f (.vref b 86 2 :: xs) (bldH b g used bs) (fun d' H => ∃ g', d' = d ∧ H = bldH b g' true bs2)) (h0 : bs2 = [] → bs = []) (hb : bldE hp.get b = some (bs, og)) (hcap : Nat.blt nx capE = true) (wf : WF hp.get nx) :
    OkH f (.vref b 86 2 :: xs) hp nx d (newB nx b bs2 og) (nx + 1) := by
  obtain ⟨k1, k2, k3, k4⟩ := bldE_ok hb
  have hbn := wf b k1
  have hgs : ∀ g, og = some g → g < nx ∧ g ≠ b ∧ bs2 ≠ [] := fun g e => ⟨wf g (k2 g e).1, (k2 g e).2, fun e2 => by
    have hbs := h0 e2
    subst hbs
    unfold bldE at hb
    split at hb
    · rcases bif_ite hb with ⟨_, hb⟩ | ⟨_, hb⟩
      · split at hb
        · cases hb; cases e
        · split at hb
          · split at hb
            · rcases bif_ite hb with ⟨_, hb⟩ | ⟨_, hb⟩
              · cases hb
              · cases hb
            · cases hb
          · cases hb
        · cases hb
      · cases hb
    · cases hb⟩
  obtain ⟨f1, f2, f3, f4, f5, f6⟩ := newB_facts (hp := hp) hcap hbn hgs
  refine ⟨⟨by omega, fun k hk hlt => ?_, fun k hk => ?_, f6⟩, fun ρ dsA H hc hf hR => ?_⟩
  · rcases f5 k hk with h | ⟨h, _⟩ | h
    · rw [h]; exact k1
    · omega
    · exact (k2 k h).1
  · rcases f5 k hk with h | ⟨h, _⟩ | h
    · omega
    · omega
    · have := (hgs k h).1; omega
  · obtain ⟨b1, t, rfl, h1, h2⟩ := hR.inv_cons
    obtain ⟨b', rfl, hbb⟩ := h1.inv_vref
    obtain rfl := hxs _ _ h2
    obtain ⟨g', used, G, hperm, hkeys⟩ := k4 ρ H b' hc hbb
    refine (GCall.frameP hperm (hcon b' g' used)).mono ?_
    rintro d' H' ⟨_, ⟨g2, rfl, rfl⟩, rfl, hnd⟩
    simp only at hf
    refine ⟨fun k => if k = nx then (if bs2 = [] then none else some g2) else ρ k, ⟨fun k hk => if_neg (fun e => hk ⟨by omega, by rw [e]; exact Nat.lt_succ_self _⟩), fun p hp hun => ?_, fun k hk o ho => ?_, ?_⟩, hd _⟩
    · have hpG : p ∈ G := by
        rcases List.mem_append.1 (hperm.mem_iff.2 hp) with h | h
        · rcases hkeys p h with h9 | ⟨g, hg, h9⟩
          · exact absurd (by rw [h9]; exact hbb) (hun b f4 hbn)
          · exact absurd h9 (hun g (f3 g hg).2 (hgs g hg).1)
        · exact h
      refine ⟨List.mem_append_right _ hpG, fun k c q1 q2 e => ?_⟩
      have e' : k = nx := by have : k < nx + 1 := q2; omega
      rw [if_pos e'] at e
      split at e
      · cases e
      · rename_i hne
        obtain rfl := Option.some.inj e
        intro e9
        rw [List.map_append, List.nodup_append] at hnd
        exact hnd.2.2 g2 (by
          unfold bldH
          rw [accH_ne (by rw [List.length_map]; exact List.length_pos_iff.2 hne)]
          simp) p.1 (List.mem_map.2 ⟨p, hpG, rfl⟩) e9
    · rcases f5 k hk with h | ⟨h, hne⟩ | h
      · subst h
        simp only at ho
        rw [f1] at ho
        obtain rfl := Option.some.inj ho
        refine ⟨b', .row 86 2 [[.vref b' 86 2, accD 1 g2 (bs2.map encY)]], by rw [if_neg (by omega)]; exact hbb, List.mem_append_left _ (List.mem_cons_self ..), .row (PWl.cons (PWl.cons (RD.vref (by show (if k = nx then _ else ρ k) = some b'; rw [if_neg (by omega)]; exact hbb)) (PWl.cons ?_ PWl.nil)) PWl.nil)⟩
        cases bs2 with
        | nil => exact .v _
        | cons y l => exact RD.sl (by simp)
      · subst h
        simp only at ho
        rw [(f2 hne).1] at ho
        obtain rfl := Option.some.inj ho
        refine ⟨g2, .row 5 1 (bs2.map encY), by rw [if_pos rfl, if_neg hne], List.mem_append_left _ ?_, .row (RLL.self_v encY_v _)⟩
        unfold bldH
        rw [accH_ne (by rw [List.length_map]; exact List.length_pos_iff.2 hne)]
        simp
      · simp only at ho
        rw [(f3 k h).1] at ho
        cases ho
    · have key : ∀ c, bs2 ≠ [] → b' = c → g2 = c → False := fun c hne e1 e2 => by
        subst e1; subst e2
        rw [List.map_append, List.nodup_append] at hnd
        have := hnd.1
        unfold bldH at this
        rw [accH_ne (by rw [List.length_map]; exact List.length_pos_iff.2 hne)] at this
        simp at this
      intro q1 hq1 q2 hq2 o1 o2 c e1 e2 e3 e4
      simp only at e1 e2
      rcases f5 q1 hq1 with h | ⟨h, hne⟩ | h
      · rcases f5 q2 hq2 with h' | ⟨h', hne⟩ | h'
        · rw [h, h']
        · subst h; subst h'
          rw [if_neg (by omega), hbb] at e3
          rw [if_pos rfl, if_neg hne] at e4
          exact (key c hne (Option.some.inj e3) (Option.some.inj e4)).elim
        · rw [(f3 _ h').1] at e2; cases e2
      · rcases f5 q2 hq2 with h' | ⟨h', _⟩ | h'
        · subst h; subst h'
          rw [if_neg (by omega), hbb] at e4
          rw [if_pos rfl, if_neg hne] at e3
          exact (key c hne (Option.some.inj e4) (Option.some.inj e3)).elim
        · rw [h, h']
        · rw [(f3 _ h').1] at e2; cases e2
      · rw [(f3 _ h).1] at e1; cases e1
end Go.GH
namespace Go.GH
open Go Go.Lib Go.Proofs Go.RowKit
/-- The builder's string: the builder is let go. -/
theorem bldStr {hp : Tr DO} {nx b : Nat} {bs : List UInt8} {og : Option Nat} (hl : bs.length ≤ 70368744177664) (hb : bldE hp.get b = some (bs, og)) (hcap : Nat.blt nx capE = true) (wf : WF hp.get nx) :
    OkH 43 [.vref b 86 2] hp nx (.v (.string ⟨bs.toArray⟩)) ((match og with | some g => [(g, none)] | none => []) ++ [(b, none)]) nx := by
  obtain ⟨k1, k2, k3, k4⟩ := bldE_ok hb
  have hbn := wf b k1
  have hnc : nx < capE := by simpa using hcap
  have cb : Nat.blt b capE = true := blt_of (by omega)
  obtain ⟨up, hup⟩ : ∃ up, up = ((match og with | some g => [(g, none)] | none => []) ++ [(b, none)] : List (Nat × Option DO)) := ⟨_, rfl⟩
  rw [← hup]
  have hm : ∀ k, k ∈ up.map (·.1) ↔ k = b ∨ og = some k := fun k => by
    rw [hup]
    cases og with
    | none => simp
    | some g => simp [eq_comm, or_comm]
  have key : ∀ j, (upsE hp up).get j = if j = b ∨ og = some j then none else hp.get j := fun j => by
    rw [hup]
    cases og with
    | none => exact (put_get _ _ _ cb).trans (by simp)
    | some g =>
      have cg : Nat.blt g capE = true := blt_of (by have := wf g (k2 g rfl).1; omega)
      refine (put_get _ _ _ cb).trans ?_
      rw [put_get _ _ _ cg]
      by_cases h1 : j = b
      · rw [if_pos h1, if_pos (.inl h1)]
      · rw [if_neg h1]
        by_cases h2 : j = g
        · rw [if_pos h2, if_pos (.inr (by rw [h2]))]
        · rw [if_neg h2, if_neg (by rintro (h | h); exact h1 h; exact h2 (Option.some.inj h).symm)]
  have hlive : ∀ k ∈ up.map (·.1), hp.get k ≠ none := fun k hk => by
    rcases (hm k).1 hk with h | h
    · rw [h]; exact k1
    · exact (k2 k h).1
  refine ⟨⟨Nat.le_refl _, fun k hk _ => hlive k hk, fun k hk => wf k (hlive k hk), fun k hk => by rw [key, if_neg (fun h => hk ((hm k).2 h))]⟩, fun ρ dsA H hc hf hR => ?_⟩
  obtain ⟨b1, t, rfl, h1, h2⟩ := hR.inv_cons
  obtain ⟨b', rfl, hbb⟩ := h1.inv_vref
  obtain rfl := h2.inv_nil
  obtain ⟨g', used, G, hperm, hkeys⟩ := k4 ρ H b' hc hbb
  refine (GCall.frameP hperm (bString (E := E50) b' g' used bs hl)).mono ?_
  rintro d' H' ⟨_, ⟨rfl, rfl⟩, rfl, hnd⟩
  refine ⟨ρ, ⟨fun _ _ => rfl, fun p hp hun => ⟨?_, fun k c q1 q2 => absurd q2 (Nat.not_lt.2 q1)⟩, fun k hk o ho => ?_, fun q1 hq1 q2 hq2 o1 o2 c e1 => ?_⟩, .v _⟩
  · rcases List.mem_append.1 (hperm.mem_iff.2 hp) with h | h
    · rcases hkeys p h with h9 | ⟨g, hg, h9⟩
      · exact absurd (by rw [h9]; exact hbb) (hun b ((hm b).2 (.inl rfl)) hbn)
      · exact absurd h9 (hun g ((hm g).2 (.inr hg)) (wf g (k2 g hg).1))
    · exact h
  · simp only at ho
    rw [key, if_pos ((hm k).1 hk)] at ho
    cases ho
  · simp only at e1
    rw [key, if_pos ((hm q1).1 hq1)] at e1
    cases e1
/-- strings.Join of a list that lies in a row of its own. -/
theorem joinStep {hp : Tr DO} {nx b el n : Nat} {es : List (List DV)} {ws : List ByteArray} (hb : hp.get b = some (.row el 1 es)) (hu : unS es = some ws) (hn : n = es.length) (h1 : ws.length ≤ 1048576) (h2 : ∀ w ∈ ws, w.size ≤ 1048576) :
    OkH 74 [.sl b 1 0 n, .v (.string sp1)] hp nx (.v (.string (catW ws))) [] nx := by
  refine ⟨Pure'.refl _ _, fun ρ dsA H hc hf hR => ?_⟩
  obtain ⟨b1, t, rfl, h3, h4⟩ := hR.inv_cons
  obtain ⟨b', rfl, hbb⟩ := h3.inv_sl
  obtain rfl := RL1 h4
  obtain ⟨b2, o', e1, e2, e3⟩ := hc.obj b _ hb
  rw [hbb] at e1
  obtain rfl := Option.some.inj e1
  cases e3 with
  | row h =>
    rw [unS_eq hu] at h
    obtain rfl := RLL.map_v encS_v h
    refine (GCall.thaw (ds := [.sl b' 1 0 n, .v (.string sp1)]) (H := H) (sJoin (E := E50) ws h1 h2) rfl (fun w F hH j d d' v hd hd' hr => ?_)).mono (fun d' H' ⟨e1, e2⟩ => ?_)
    · cases j with
      | zero =>
        simp only [List.getElem?_cons_zero, Option.some.injEq] at hd hd'
        subst hd; subst hd'
        rw [hn, unS_eq hu] at hr
        exact (rep_row (hH _ e2) hr).mono (fun _ _ => rfl) (fun _ _ h => h) (fun c hc => hc.imp id (fun e => by subst e; exact List.mem_map.2 ⟨_, e2, rfl⟩))
      | succ j =>
        simp only [List.getElem?_cons_succ] at hd hd'
        rw [hd] at hd'
        obtain rfl := Option.some.inj hd'
        exact hr.mono (fun _ _ => rfl) (fun _ _ h => h) (fun _ h => .inl h)
    · subst e1; subst e2
      exact ⟨ρ, Post.id (fun p hp => hp), .v _⟩
def hook50 (f : FuncId) (ds : List DV) (hp : Nat → Option DO) (nx : Nat) : Option (Option (DV × List (Nat × Option DO) × Nat)) := match ds with
  | [.vref b 86 2] => bif Nat.beq f 43 then some (match bldE hp b with
    | some (bs, og) => onE (Nat.ble bs.length 70368744177664 && Nat.blt nx capE) (.v (.string ⟨bs.toArray⟩), (match og with | some g => [(g, none)] | none => []) ++ [(b, none)], nx)
    | none => none) else none
  | [.vref b 86 2, .v (.string s)] => bif Nat.beq f 41 then some (match bldE hp b with
    | some (bs, og) => onE (Nat.ble (bs.length + s.size) 70368744177664 && Nat.blt nx capE) (.tup [.v (.int .i64 s.size), .v .nilIface], newB nx b (bs ++ s.data.toList) og, nx + 1)
    | none => none) else none
  | [.vref b 86 2, .v (.int .u8 (.ofNat n))] => bif Nat.beq f 42 then some (match bldE hp b with
    | some (bs, og) => onE (Nat.blt n 256 && (Nat.ble bs.length 70368744177664 && Nat.blt nx capE)) (.v .nilIface, newB nx b (bs ++ [UInt8.ofNat n]) og, nx + 1)
    | none => none) else none
  | [.sl b 1 0 n, .v (.string s)] => bif Nat.beq f 74 then some (match hp b with
    | some (.row _ 1 es) => (match unS es with
      | some ws => onE (isS s sp1 && (Nat.beq n es.length && (Nat.ble ws.length 1048576 && ws.all (fun w => Nat.ble w.size 1048576)))) (.v (.string (catW ws)), [], nx)
      | none => none)
    | _ => none) else none
  | _ => match hkP f ds with
    | some (some d) => some (some (d, [], nx))
    | some none => some none
    | none => none
noncomputable def K50 : Cfg := ⟨Tryz.prog, 86, hook50, fun f => Nat.beq f 99⟩
theorem hook50_ok : HookOk Tryz.prog E50 K50 := by
  intro g ds hp nx d up nx' h wf
  change hook50 g ds hp.get nx = _ at h
  unfold hook50 at h
  split at h
  · rename_i b
    rcases bif_ite h with ⟨hf, h⟩ | ⟨_, h⟩
    · obtain rfl := Nat.eq_of_beq_eq_true hf
      have h := Option.some.inj h
      split at h
      · rename_i bs og hb
        obtain ⟨hc, h⟩ := onE_some h
        cases h
        simp only [Bool.and_eq_true] at hc
        exact bldStr (Nat.le_of_ble_eq_true hc.1) hb hc.2 wf
      · cases h
    · cases h
  · rename_i b s
    rcases bif_ite h with ⟨hf, h⟩ | ⟨_, h⟩
    · obtain rfl := Nat.eq_of_beq_eq_true hf
      have h := Option.some.inj h
      split at h
      · rename_i bs og hb
        obtain ⟨hc, h⟩ := onE_some h
        cases h
        simp only [Bool.and_eq_true] at hc
        exact bldStep (xs := [.v (.string s)]) (fun ρ ys hR => RL1 hR) (fun ρ => RD.tup' (PWl.cons (.v _) (PWl.cons (.v _) PWl.nil))) (fun b g used => bWriteString b g used bs s (Nat.le_of_ble_eq_true hc.1)) (fun e => (List.append_eq_nil_iff.1 e).1) hb hc.2 wf
      · cases h
    · cases h
  · rename_i b n
    rcases bif_ite h with ⟨hf, h⟩ | ⟨_, h⟩
    · obtain rfl := Nat.eq_of_beq_eq_true hf
      have h := Option.some.inj h
      split at h
      · rename_i bs og hb
        obtain ⟨hc, h⟩ := onE_some h
        cases h
        simp only [Bool.and_eq_true] at hc
        have hn : n < 256 := by simpa using hc.1
        have hy : ((UInt8.ofNat n).toNat : Int) = Int.ofNat n := by simp; omega
        exact bldStep (xs := [.v (.int .u8 (.ofNat n))]) (fun ρ ys hR => RL1 hR) (fun ρ => .v _) (fun b g used => by have := bWriteByte (E := E50) b g used bs (UInt8.ofNat n) (Nat.le_of_ble_eq_true hc.2.1); rw [hy] at this; exact this) (fun e => (List.append_eq_nil_iff.1 e).1) hb hc.2.2 wf
      · cases h
    · cases h
  · rename_i b n s
    rcases bif_ite h with ⟨hf, h⟩ | ⟨_, h⟩
    · obtain rfl := Nat.eq_of_beq_eq_true hf
      have h := Option.some.inj h
      split at h
      · rename_i el es hb
        split at h
        · rename_i ws hu
          obtain ⟨hc, h⟩ := onE_some h
          cases h
          simp only [Bool.and_eq_true, List.all_eq_true] at hc
          obtain ⟨c1, c2, c3, c4⟩ := hc
          obtain rfl := isS_eq c1
          exact joinStep hb hu (Nat.eq_of_beq_eq_true c2) (Nat.le_of_ble_eq_true c3) (fun w hw => Nat.le_of_ble_eq_true (c4 w hw))
        · cases h
      · cases h
    · cases h
  · split at h
    · rename_i d0 hd
      cases h
      exact hkP_ok hd
    · cases h
    · cases h
end Go.GH
namespace Go.GH
open Go Go.RowKit
def optAll {α : Type} : List (Option α) → Option (List α)
  | [] => some []
  | some a :: l => (optAll l).map (a :: ·)
  | none :: _ => none
theorem optAll_map {α β : Type} {f : α → Option β} : ∀ {l : List α} {r : List β}, optAll (l.map f) = some r → PWl (fun a b => f a = some b) l r
  | [], r, h => by cases h; exact PWl.nil
  | a :: l, r, h => by
    rw [List.map_cons] at h
    cases hf : f a with
    | none => rw [hf] at h; cases h
    | some b =>
      rw [hf] at h
      obtain ⟨r', h1, rfl⟩ := Option.map_eq_some_iff.1 h
      exact PWl.cons hf (optAll_map h1)
/-- What a value reads as when all that it reaches is let go. -/
def fzE (hp : Nat → Option DO) : Nat → DV → Option DV
  | 0, _ => none
  | n + 1, d => match d with
    | .v x => some (.v x)
    | .agg ds => (optAll (ds.map (fzE hp n))).map DV.agg
    | .tup ds => (optAll (ds.map (fzE hp n))).map DV.tup
    | .isl nn sz es => (optAll (es.map (fun e => optAll (e.map (fzE hp n))))).map (DV.isl nn sz)
    | .sl b sz 0 len => (match hp b with
      | some (.row _ sz2 es) => bif Nat.beq sz sz2 && Nat.beq len es.length then (optAll (es.map (fun e => optAll (e.map (fzE hp n))))).map (DV.isl false sz) else none
      | _ => none)
    | _ => none
def noBlk : Nat → DV → Bool
  | 0, _ => false
  | n + 1, d => match d with
    | .v _ => true
    | .agg ds => ds.all (noBlk n)
    | .isl _ _ es => es.all (fun e => e.all (noBlk n))
    | _ => false
theorem noBlk_rd {ρ : Rn} : ∀ {n : Nat} {d : DV}, noBlk n d = true → RD ρ d d
  | 0, d, h => by cases h
  | n + 1, d, h => by
    unfold noBlk at h
    split at h
    · exact .v _
    · rw [List.all_eq_true] at h
      exact RD.agg' (PWl.refl (fun a ha => noBlk_rd (h a ha)))
    · rw [List.all_eq_true] at h
      exact RD.isl' (PWl.refl (fun e he => PWl.refl (fun a ha => noBlk_rd (List.all_eq_true.1 (h e he) a ha))))
    · cases h
theorem Rep.islMap {w : World} {F : Nat → Prop} {v : Value} {nn : Bool} {sz : Nat} {es es2 : List (List DV)} (h : Rep w F v (.isl nn sz es)) (hp : PWl (PWl (fun d d2 => ∀ x, Rep w F x d → Rep w F x d2)) es es2) : Rep w F v (.isl nn sz es2) := by
  have back : ∀ (i : Nat) e2, es2[i]? = some e2 → ∃ e, es[i]? = some e ∧ PWl (fun d d2 => ∀ x, Rep w F x d → Rep w F x d2) e e2 := fun i e2 h2 => by
    have hlt : i < es.length := hp.1 ▸ (List.getElem?_eq_some_iff.1 h2).1
    exact ⟨es[i], List.getElem?_eq_getElem hlt, hp.2 i _ _ (List.getElem?_eq_getElem hlt) h2⟩
  have back2 : ∀ {e e2 : List DV} (j : Nat) d2, PWl (fun d d2 => ∀ x, Rep w F x d → Rep w F x d2) e e2 → e2[j]? = some d2 → ∃ d, e[j]? = some d ∧ ∀ x, Rep w F x d → Rep w F x d2 := fun {e e2} j d2 q h2 => by
    have hlt : j < e.length := q.1 ▸ (List.getElem?_eq_some_iff.1 h2).1
    exact ⟨e[j], List.getElem?_eq_getElem hlt, q.2 j _ _ (List.getElem?_eq_getElem hlt) h2⟩
  cases h with
  | @isl A len cap nn sz es b o xs hlen hcap hB hnn hA hsz hc hr =>
    refine .isl (b := b) (o := o) xs (by rw [← hp.1]; exact hlen) hcap (by rw [← hp.1]; exact hB) hnn (fun hne => hA (fun e => hne ?_)) (fun i e2 h2 => ?_) (fun i e2 j d2 h2 h3 => ?_) (fun i e2 j d2 h2 h3 => ?_)
    · have := hp.1
      rw [e] at this
      exact List.eq_nil_of_length_eq_zero this.symm
    · obtain ⟨e, h1, q⟩ := back i e2 h2
      rw [← q.1]; exact hsz i e h1
    · obtain ⟨e, h1, q⟩ := back i e2 h2
      obtain ⟨d, h4, _⟩ := back2 j d2 q h3
      exact hc i e j d h1 h4
    · obtain ⟨e, h1, q⟩ := back i e2 h2
      obtain ⟨d, h4, h5⟩ := back2 j d2 q h3
      exact h5 _ (hr i e j d h1 h4)
theorem fzE_ok {ρ : Rn} {hp : Nat → Option DO} {H : DHeap} {w : World} {F : Nat → Prop} (hc : CovH ρ hp H) (hH : ∀ p ∈ H, F p.1 ∧ ObjRep w F p.1 p.2) :
    ∀ (n : Nat) {d d' dF : DV} {v : Value}, fzE hp n d = some dF → RD ρ d d' → Rep w F v d' → Rep w F v dF
  | 0, d, d', dF, v, h, _, _ => by cases h
  | n + 1, d, d', dF, v, h, hR, hv => by
    have lst : ∀ {ds ds' dsF : List DV}, optAll (ds.map (fzE hp n)) = some dsF → RL ρ ds ds' → PWl (fun d d2 => ∀ x, Rep w F x d → Rep w F x d2) ds' dsF := fun {ds ds' dsF} h1 h2 => by
      have h3 := optAll_map h1
      refine ⟨by rw [← h2.1, h3.1], fun i a b ha hb x hx => ?_⟩
      have hlt : i < ds.length := h2.1 ▸ (List.getElem?_eq_some_iff.1 ha).1
      exact fzE_ok hc hH n (h3.2 i _ _ (List.getElem?_eq_getElem hlt) hb) (h2.2 i _ _ (List.getElem?_eq_getElem hlt) ha) hx
    have lst2 : ∀ {es es' : List (List DV)} {esF : List (List DV)}, optAll (es.map (fun e => optAll (e.map (fzE hp n)))) = some esF → RLL ρ es es' → PWl (PWl (fun d d2 => ∀ x, Rep w F x d → Rep w F x d2)) es' esF := fun {es es' esF} h1 h2 => by
      have h3 := optAll_map h1
      refine ⟨by rw [← h2.1, h3.1], fun i a b ha hb => ?_⟩
      have hlt : i < es.length := h2.1 ▸ (List.getElem?_eq_some_iff.1 ha).1
      exact lst (h3.2 i _ _ (List.getElem?_eq_getElem hlt) hb) (h2.2 i _ _ (List.getElem?_eq_getElem hlt) ha)
    unfold fzE at h
    split at h
    · cases h
      rw [hR.inv_v] at hv
      exact hv
    · obtain ⟨dsF, h1, rfl⟩ := Option.map_eq_some_iff.1 h
      obtain ⟨ds', rfl, h2⟩ := hR.inv_agg
      have q := lst h1 h2
      cases hv with
      | agg hl hr =>
        refine .agg (by rw [hl, q.1]) (fun j x d2 hx hd2 => ?_)
        have hlt := q.1 ▸ (List.getElem?_eq_some_iff.1 hd2).1
        exact q.2 j _ _ (List.getElem?_eq_getElem hlt) hd2 x (hr j x _ hx (List.getElem?_eq_getElem hlt))
    · obtain ⟨dsF, h1, rfl⟩ := Option.map_eq_some_iff.1 h
      obtain ⟨ds', rfl, h2⟩ := hR.inv_tup
      have q := lst h1 h2
      cases hv with
      | tup hl hr =>
        refine .tup (by rw [hl, q.1]) (fun j x d2 hx hd2 => ?_)
        have hlt := q.1 ▸ (List.getElem?_eq_some_iff.1 hd2).1
        exact q.2 j _ _ (List.getElem?_eq_getElem hlt) hd2 x (hr j x _ hx (List.getElem?_eq_getElem hlt))
    · obtain ⟨esF, h1, rfl⟩ := Option.map_eq_some_iff.1 h
      obtain ⟨es', rfl, h2⟩ := hR.inv_isl
      exact hv.islMap (lst2 h1 h2)
    · rename_i b sz len
      obtain ⟨b', rfl, hb⟩ := hR.inv_sl
      split at h
      · rename_i el sz2 es ho
        cases hq : (Nat.beq sz sz2 && Nat.beq len es.length) with
        | false => rw [hq] at h; cases h
        | true =>
          rw [hq] at h
          rw [Bool.and_eq_true] at hq
          obtain rfl := Nat.eq_of_beq_eq_true hq.1
          obtain rfl := Nat.eq_of_beq_eq_true hq.2
          obtain ⟨esF, h1, rfl⟩ := Option.map_eq_some_iff.1 h
          obtain ⟨b2, o', e1, e2, e3⟩ := hc.obj b _ ho
          rw [hb] at e1
          obtain rfl := Option.some.inj e1
          cases e3 with
          | row h2 =>
            obtain ⟨hF, hO⟩ := hH _ e2
            rw [h2.1] at hv
            have := (rep_row hO hv).mono (F' := F) (fun _ _ => rfl) (fun _ _ h => h) (fun c hc => hc.elim id (fun e => by rw [e]; exact hF))
            exact this.islMap (lst2 h1 h2)
      · cases h
    · cases h
/-- The result of a closed call, as plain data. -/
def evF (K : Cfg) (fuel n : Nat) (g : FuncId) (ds : List DV) (m : Nat) : Option DV := match callE K fuel n g ds .lf 0 with
  | some (d, hp, _, _) => fzE hp.get m d
  | none => none
theorem ev_top {P : Program} {E : Env} {K : Cfg} (hok : ∀ fuel n, CallsOk P E (callE K fuel n)) {fuel n m m2 : Nat} {g : FuncId} {ds : List DV} {dF : DV} (hd : ds.all (noBlk m2) = true) (h : evF K fuel n g ds m = some dF) :
    GCall P E g ds [] (fun d' H => d' = dF ∧ H = []) := by
  unfold evF at h
  split at h
  · rename_i d hp nx lg hcall
    have wf0 : WF (Tr.lf : Tr DO).get 0 := fun b hb => absurd rfl hb
    obtain ⟨hpu, hco⟩ := hok fuel n g ds .lf 0 _ hcall wf0
    have hc0 : CovH (fun _ => none) (Tr.lf : Tr DO).get [] := ⟨(fun b o ho => by cases ho), (fun b1 b2 o1 o2 c h1 => by cases h1)⟩
    have hf0 : Free (fun _ => none) 0 nx := fun _ _ _ => rfl
    have hg := hco (fun _ => none) ds [] hc0 hf0 (PWl.refl (fun a ha => noBlk_rd (List.all_eq_true.1 hd a ha)))
    refine ⟨hg.1, fun w F vs hE hF hvs hr hH hk => (hg.2 w F vs hE hF hvs hr hH hk).mono ?_⟩
    rintro e w' ⟨u, d', H', F', rfl, ⟨ρ', hpost, hrd⟩, h3, h4, h5, h6, h7, h8⟩
    have hcv := hpost.cov hc0 hf0 hpu
    have hnew : ∀ p ∈ H', w.heap.size ≤ p.1 ∧ p.1 < w'.heap.size := fun p hp => ⟨(h6 p hp).1.resolve_left (fun hm => by cases hm), (h6 p hp).2.2.lt⟩
    refine ⟨u, dF, [], fun c => F' c ∨ c ∈ H'.map (·.1), rfl, ⟨rfl, rfl⟩, fun b hb => .inl (h3 b hb), fun b hb => ?_, ?_, (fun p hp => by cases hp), List.nodup_nil, h8⟩
    · rcases hb with hb | hb
      · exact h4 b hb
      · obtain ⟨p, hp, rfl⟩ := List.mem_map.1 hb
        exact ⟨(hnew p hp).2, .inr (hnew p hp).1⟩
    · refine fzE_ok hcv (fun p hp => ⟨.inr (List.mem_map.2 ⟨p, hp, rfl⟩), (h6 p hp).2.2.mono rfl (fun _ _ => rfl) (fun _ _ h => h) (fun _ h => .inl h)⟩) m h hrd (h5.mono (fun _ _ => rfl) (fun _ _ h => h) (fun _ h => .inl h))
  · cases h
end Go.GH
namespace Go.GH
open Go Go.Lib Go.Proofs Go.RowKit
theorem dfr50 : DfrOk Tryz.prog E50 K50.dfr := fun f hf => by
  obtain rfl := Nat.eq_of_beq_eq_true hf
  exact ⟨_, _, _, _, _, _, _, _, _, _, _, _, _, _, _, Tryz.func99, rfl, by kernel_rfl, fun b4 b5 H => recRet Tryz.func136 rfl rfl rfl Tryz.underlying20⟩
theorem calls50 (fuel n : Nat) : CallsOk Tryz.prog E50 (callE K50 fuel n) := ev_sound (C := ⟨Tryz.prog, E50, false⟩) rfl rfl (by kernel_rfl) dfr50 hook50_ok fuel n
def zc62 : List Value := [.string .empty, .bool false, .slice none 0 0, .slice none 0 0, .slice none 0 0, .slice none 0 0, .slice none 0 0, .int .i64 0, .int .i64 0, .slice none 0 0, .int .i64 0, .slice none 0 0, .slice none 0 0, .bool false, .string .empty, .int .i64 0, .string .empty, .bool false, .int .i64 0, .int .i64 0, .slice none 0 0, .slice none 0 0, .slice none 0 0, .slice none 0 0, .slice none 0 0, .bool false, .slice none 0 0, .slice none 0 0, .slice none 0 0, .string .empty]
theorem zc62_one : ∀ x ∈ zc62, x.oneCell' = true := by decide
def lng0 : Lng where
  o := fun k => .v (zc62.getD k (.int .i64 0))
  ho := fun k => by
    show (zc62.getD k (.int .i64 0)).oneCell' = true
    rw [List.getD_eq_getElem?_getD]
    cases h : zc62[k]? with
    | none => rfl
    | some x => exact zc62_one x (List.mem_of_getElem? h)
  rtl := false
  alph := [⟨97, 1⟩, ⟨116, 2⟩]
  ons := [[2]]
  ml := 2
  mr := 2
  san := []
  stop := ⟨#[46]⟩
def encG0 : List DV := (encG lng0).set 9 (.v (.slice none 0 0))
set_option maxRecDepth 100000 in
theorem ev35 : evF K50 1000 20 35 [] 12 = some (.agg encG0) := by kernel_rfl
theorem c35 : GCall Tryz.prog E50 35 [] [] (fun d H => d = .agg (encG lng0) ∧ H = []) :=
  GCall.clean (ev_top (m2 := 1) calls50 rfl ev35) (fun d H ⟨e, _⟩ => ⟨.agg (encG lng0), fun w F v hv => by rw [e] at hv; exact rep_aggNil (sz := 6) 9 hv rfl, rfl⟩)
end Go.GH
namespace Go.GH
open Go Go.Lib Go.Proofs Go.RowKit
def txt0 : ByteArray := ⟨#[116,97,116,97,32,116,97,46,32,97,116,97,116,97,46]⟩
def pg0 : List ByteArray := [⟨#[116,97,116,97,32]⟩, ⟨#[116,97,46,32,32]⟩, ⟨#[97,116,97,45,32]⟩, ⟨#[116,97,46,32,32]⟩]
set_option maxRecDepth 100000 in
theorem ev64 : evF K50 1000 20 64 [.agg (encG lng0)] 12 = some (.v (.bool true)) := by kernel_rfl
def snt0 : List ByteArray := [⟨#[116,97,116,97,32,116,97,46]⟩, ⟨#[97,116,97,116,97,46]⟩]
set_option maxRecDepth 100000 in
theorem ev65 : evF K50 1000 20 65 [.agg (encG lng0), .v (.string txt0)] 12 = some (.tup [DStrs snt0, .v (.int .i64 0)]) := by kernel_rfl
set_option maxRecDepth 100000 in
theorem ev26 : evF K50 1000 20 26 [.agg (encG lng0), .v (.string txt0), .v (.int .i64 5), .v (.int .i64 10)] 12 = some (.tup [DStrs pg0, .v (.int .i64 0)]) := by kernel_rfl
theorem c64 : GCall Tryz.prog E50 64 [.agg (encG lng0)] [] (fun d H => d = .v (.bool true) ∧ H = []) := ev_top (m2 := 8) calls50 (by decide) ev64
theorem c65 : GCall Tryz.prog E50 65 [.agg (encG lng0), .v (.string txt0)] [] (fun d H => d = .tup [DStrs snt0, .v (.int .i64 0)] ∧ H = []) := ev_top (m2 := 8) calls50 (by decide) ev65
theorem c26 : GCall Tryz.prog E50 26 [.agg (encG lng0), .v (.string txt0), .v (.int .i64 5), .v (.int .i64 10)] [] (fun d H => d = .tup [DStrs pg0, .v (.int .i64 0)] ∧ H = []) := ev_top (m2 := 8) calls50 (by decide) ev26
theorem plain0 : plainR true 0 (fun w => fldR w) pg0 = (txt0, 0) := by kernel_rfl
set_option maxRecDepth 100000 in
theorem ev28 : pg0.all (fun w => match evF K50 1000 20 28 [.v (.int .i64 0), .v (.string w)] 12 with | some (.v (.string s)) => isS s w | _ => false) = true := by kernel_rfl
theorem c28 {w : ByteArray} (hw : w ∈ pg0) : GCall Tryz.prog E50 28 [.v (.int .i64 0), .v (.string w)] [] (fun d H => d = .v (.string w) ∧ H = []) := by
  have h := List.all_eq_true.1 ev28 w hw
  split at h
  · rename_i s e
    rw [isS_eq h] at e
    exact ev_top (m2 := 2) calls50 rfl e
  · cases h
end Go.GH
namespace Go.GH
open Go Go.Lib Go.Proofs Go.RowKit
abbrev fl0 : ByteArray → List ByteArray := fun w => fldR w
theorem xs0_small : (wrdA fl0 pg0).all (fun x => Nat.ble x.1.size 100) = true := by kernel_rfl
theorem xs0_few : Nat.beq (wrdA fl0 pg0).length 4 = true := by kernel_rfl
theorem pg0_small : pg0.all (fun w => Nat.ble w.size 100) = true := by kernel_rfl
theorem txt0_eq : catW (plR (wrdA fl0 pg0) (wrdA fl0 pg0).length).1 = txt0 := by kernel_rfl
theorem c30 : GCall Tryz.prog E50 30 [.agg (encG lng0), DStrs pg0] [] (fun d H => d = .tup [.v (.string txt0), .v (.int .i64 0)] ∧ H = []) := by
  have hl := Nat.eq_of_beq_eq_true xs0_few
  have hs : ∀ w ∈ pg0, w.size ≤ 100 := fun w hw => Nat.le_of_ble_eq_true (List.all_eq_true.1 pg0_small w hw)
  have h := cPlain (E := E50) vs50 lng0 pg0 (fun w => w) fl0 true 0 100 (fun x hx => Nat.le_of_ble_eq_true (List.all_eq_true.1 xs0_small x hx)) (by omega) (by omega) (fun w hw => c28 hw) (fun w hw => sFields _ (by have := hs w hw; omega)) c64 (by rw [txt0_eq]; exact c65.mono (fun d H h => ⟨⟨_, h.1⟩, h.2⟩))
  rw [plain0] at h
  exact h
def sp0 : ByteArray := ⟨#[97,97,32,32,32,98,32,32,99,99]⟩
set_option maxRecDepth 100000 in
theorem ev13 : evF K50 1000 20 13 [.agg [DStrs [⟨#[97,97]⟩, ⟨#[98]⟩, ⟨#[99,99]⟩], .v (.bool false)], .v (.int .i64 10), .v (.bool false)] 12 = some (.tup [.v (.string sp0), .v (.int .i64 0)]) := by kernel_rfl
theorem c13 : GCall Tryz.prog E50 13 [.agg [DStrs [⟨#[97,97]⟩, ⟨#[98]⟩, ⟨#[99,99]⟩], .v (.bool false)], .v (.int .i64 10), .v (.bool false)] [] (fun d H => d = .tup [.v (.string sp0), .v (.int .i64 0)] ∧ H = []) := ev_top (m2 := 8) calls50 (by decide) ev13
set_option maxRecDepth 100000 in
theorem ev22 : evF K50 1000 20 22 [DStrs pg0, DStrs pg0] 12 = some (.v (.bool true)) := by kernel_rfl
theorem c22 : GCall Tryz.prog E50 22 [DStrs pg0, DStrs pg0] [] (fun d H => d = .v (.bool true) ∧ H = []) := ev_top (m2 := 8) calls50 (by decide) ev22
theorem sheets0 : Nat.beq (sheetsR [⟨#[97]⟩, ⟨#[98]⟩, ⟨#[99]⟩] 2).1.length 2 = true := by kernel_rfl
end Go.GH
namespace Go.GH
open Go Go.Proofs
variable {E : Env}
theorem placesB_24 : placesB Tryz.prog 24 [(0, 1), (1, 1)] = true := by kernel_rfl
theorem aAwake   : GCall Tryz.prog E50 12 [] [] (fun d H => d = .v (.bool true) ∧ H = []) := by
 refine GCall.body (C := ⟨Tryz.prog, E50, true⟩) Tryz.func12 rfl (fun _ => rfl) (by kernel_rfl) rfl ?_
 refine SCode.seqR (SOps.assign rfl (SOps.nil (SCode.seqR (SOps.litF rfl sliceB_22_9_1 zeroIs_9 rfl (SOps.buildM placesB_24 zeroIs_24 rfl rfl (SOps.callP c13 rfl ?_))))))
 rintro _ rfl
 refine SOps.move rfl (SOps.extract rfl rfl (SOps.extract rfl rfl (SOps.assign rfl (SOps.assign rfl (SOps.nil (SCode.seqR (SOps.callP c35 rfl ?_)))))))
 rintro _ rfl
 refine SOps.callP c26 rfl ?_
 rintro _ rfl
 refine SOps.move rfl (SOps.extract rfl rfl (SOps.extract rfl rfl (SOps.assign rfl (SOps.assign rfl (SOps.nil (SCode.seqR (SOps.callP c35 rfl ?_)))))))
 rintro _ rfl
 refine SOps.move rfl (SOps.callP c30 rfl ?_)
 rintro _ rfl
 refine SOps.move rfl (SOps.extract rfl rfl (SOps.extract rfl rfl (SOps.assign rfl (SOps.assign rfl (SOps.nil (SCode.seqR (SOps.litF rfl sliceB_22_9_1 zeroIs_9 rfl (SOps.callP (cSheets [⟨#[97]⟩, ⟨#[98]⟩, ⟨#[99]⟩] 2 (by decide)) rfl ?_))))))))
 rintro _ rfl
 refine SOps.move rfl (SOps.extract rfl rfl (SOps.extract rfl rfl (SOps.assign rfl (SOps.assign rfl (SOps.nil (SCode.seqR (SOps.move rfl (SOps.bin rfl rfl rfl (SOps.reSlot (t := 32) (d' := .v (.bool true)) rfl (by first | rfl | (congr 2; kernel_rfl)) (SOps.move rfl (SOps.move rfl (SOps.bin rfl rfl rfl (SOps.reSlot (t := 35) (d' := .v (.bool true)) rfl (by first | rfl | (congr 2; kernel_rfl)) (SOps.pick rfl rfl (SOps.move rfl (SOps.move rfl (SOps.litF rfl sliceB_22_9_1 zeroIs_9 rfl (SOps.callP c22 rfl ?_))))))))))))))))))
 rintro _ rfl
 refine SOps.pick rfl rfl (SOps.move rfl (SOps.move rfl (SOps.bin rfl rfl rfl (SOps.reSlot (t := 44) (d' := .v (.bool true)) rfl (by first | rfl | (congr 2; kernel_rfl)) (SOps.pick rfl rfl (SOps.move rfl (SOps.move rfl (SOps.bin rfl rfl rfl (SOps.reSlot (t := 48) (d' := .v (.bool true)) rfl (by first | rfl | (congr 2; kernel_rfl)) (SOps.pick rfl rfl (SOps.move rfl (SOps.move rfl (SOps.bin rfl rfl rfl (SOps.reSlot (t := 52) (d' := .v (.bool true)) rfl (by first | rfl | (congr 2; kernel_rfl)) (SOps.pick rfl rfl (SOps.move rfl (SOps.move rfl (SOps.lenM rfl sliceB_73_22_1 (SOps.bin rfl rfl rfl (SOps.reSlot (t := 57) (d' := .v (.bool true)) rfl (congrArg (fun n : Nat => DV.v (.bool (decide (((n : Nat) : Int) = 2)))) (Nat.eq_of_beq_eq_true sheets0)) (SOps.pick rfl rfl (SOps.move rfl (SOps.move rfl (SOps.bin rfl rfl rfl (SOps.reSlot (t := 61) (d' := .v (.bool true)) rfl (by first | rfl | (congr 2; kernel_rfl)) (SOps.pick rfl rfl (SOps.assign rfl (SOps.nil (SCode.ret ?_)))))))))))))))))))))))))))))
 exact ⟨_, Res.one (.tmp rfl), rfl, rfl⟩
end Go.GH
namespace Go.GH
open Go Go.Proofs
variable {E : Env}
theorem l50Paragraphs (l : List Bx) (w pen : Int) (hbx : ∀ x ∈ l, x.word.size ≤ 1048576) : GCall Tryz.prog E50 5 [DBxs l, .v (.int .i64 w), .v (.int .i64 pen)] [] (fun d H => d = .v (.bool true) ∧ H = []) := by
 have hpl : (paraR l w pen).1.length = (linesR l w pen).1.length := sprs_len _ _ _
 have hfw := linesR_small (l := l) (w := w) (pen := pen)
 refine GCall.body (C := ⟨Tryz.prog, E50, true⟩) Tryz.func5 rfl (fun _ => rfl) (by kernel_rfl) rfl ?_
 refine SCode.seqR (SOps.assign rfl (SOps.nil (SCode.seq (SCode.seqR (SOps.callP aAwake rfl ?_)))))
 rintro _ rfl
 refine SOps.un rfl rfl (SOps.nil ?_)
 refine SCode.cond rfl (fun h => by cases h) (fun _ => ?_)
 refine SCode.skip ?_
 show SCode _ _ _ _
 refine SCode.seq (SCode.seqR (SOps.move rfl (SOps.lenM rfl sliceB_33_111_2 (SOps.bin rfl rfl rfl (SOps.nil ?_)))))
 refine SCode.cond rfl (fun hc1 => ?_) (fun hc1 => ?_)
 ·try simp only [nmL] at hc1
  refine SCode.seqR (SOps.assign rfl (SOps.nil (SCode.ret ?_)))
  exact ⟨_, Res.one (.tmp rfl), rfl, rfl⟩
 ·try simp only [nmL] at hc1
  refine SCode.skip ?_
  show SCode _ _ _ _
  refine SCode.seqR (SOps.move rfl (SOps.move rfl (SOps.move rfl (SOps.callP (jParagraph vs50 l w pen hbx) rfl ?_))))
  rintro _ rfl
  refine SOps.move rfl (SOps.extract rfl rfl (SOps.extract rfl rfl (SOps.assign rfl (SOps.assign rfl (SOps.nil (SCode.seqR (SOps.move rfl (SOps.move rfl (SOps.move rfl (SOps.callP (sLines vs50 l w pen hbx) rfl ?_))))))))))
  rintro _ rfl
  refine SOps.move rfl (SOps.extract rfl rfl (SOps.extract rfl rfl (SOps.extract rfl rfl (SOps.assign rfl (SOps.assign rfl (SOps.assign rfl (SOps.nil (SCode.seq (SCode.seqR (SOps.move rfl (SOps.move rfl (SOps.bin rfl rfl rfl (SOps.reSlot (t := 37) rfl (show _ = DV.v (.bool false) from congrArg (fun b => DV.v (.bool b)) (by exact bne_self_eq_false (linesR l w pen).2.2)) (SOps.move rfl (SOps.move rfl (SOps.lenM rfl sliceB_22_9_1 (SOps.move rfl (SOps.lenM rfl sliceB_36_24_2 (SOps.bin rfl rfl rfl (SOps.reSlot (t := 43) rfl (show _ = DV.v (.bool false) from congrArg (fun b => DV.v (.bool b)) (by rw [hpl]; exact bne_self_eq_false _)) (SOps.pick rfl rfl (SOps.nil ?_))))))))))))))))))))))
  refine SCode.cond rfl (fun h => by cases h) (fun _ => ?_)
  refine SCode.skip ?_
  show SCode _ _ _ _
  refine SCode.seq (SCode.seqR (SOps.assign rfl (SOps.nil (SCode.block (SCode.loop1 (fun (i : Nat) => (⟨84, [(1, .v (.int .i64 w)), (7, DStrs (paraR l w pen).1), (9, DLns (linesR l w pen).1), (12, .v (.int .i64 (i : Int)))], []⟩ : St)) (fun (i : Nat) => i ≤ (linesR l w pen).1.length) (fun (i : Nat) => (paraR l w pen).1.length - i) (0) (by exact Nat.zero_le _) (St.Le.of ⟨(by first | rfl | (show some _ = some _; simp)), (by first | rfl | (show some _ = some _; simp)), (by first | rfl | (show some _ = some _; simp)), (by first | rfl | (show some _ = some _; simp)), trivial⟩ rfl (by first | rfl | (simp))) ?_)))))
  rintro i hi
  refine SCode.seq (SCode.seqR (SOps.move rfl (SOps.move rfl (SOps.lenM rfl sliceB_22_9_1 (SOps.bin rfl rfl rfl (SOps.nil ?_))))))
  refine SCode.cond rfl (fun hc2 => ?_) (fun hc2 => ?_)
  ·try simp only [nmL] at hc2
   refine SCode.skip ?_
   show SCode _ _ _ _
   refine SCode.seq (SCode.block (SCode.seqR ?_))
   have hil : i < (linesR l w pen).1.length := by omega
   obtain ⟨hwd, hpr, hfit, hok⟩ := lines_good _ (List.getElem_mem hil)
   have hsp := spread_ok (last := ((i : Int) == ((linesR l w pen).1.length : Int) - 1)) hwd hpr hfit
   have hse := sprAt_eq (w := w) hil
   have hip : i < (paraR l w pen).1.length := by omega
   have hpi : (paraR l w pen).1[i] = (spreadR (linesR l w pen).1[i] w ((i : Int) == ((linesR l w pen).1.length : Int) - 1)).1 := by rw [show (paraR l w pen).1[i] = (sprAt (linesR l w pen).1 w i).1 from sprs_get hip, hse]
   refine SOps.move rfl (SOps.move rfl (SOps.indexM (i) rfl rfl sliceB_36_24_2 (by first | omega | (simp only [lenB]; omega) | (simp only [List.length_map, lenB]; omega) | (simp; done)) (by first | omega | (simp only [lenB]; omega) | (simp only [List.length_map, lenB]; omega) | (simp; done)) (SOps.loadPinA rfl aggB_24_2 (Nat.le_of_ble_eq_true rfl) (SOps.move rfl (SOps.move rfl (SOps.move rfl (SOps.lenM rfl sliceB_36_24_2 (SOps.subI rfl rfl (by first | omega | (simp only [lenB]; omega) | (simp only [List.length_map, lenB]; omega) | (simp; done)) (by first | omega | (simp only [lenB]; omega) | (simp only [List.length_map, lenB]; omega) | (simp; done)) (SOps.bin rfl rfl rfl (SOps.callP (jSpread vs50 _ w _ hok.fit.1 hok.fit.2) rfl ?_))))))))))
   rintro _ rfl
   refine SOps.move rfl (SOps.extract rfl rfl (SOps.extract rfl rfl (SOps.assign rfl (SOps.assign rfl (SOps.nil (SCode.seqR (SOps.move rfl (SOps.move rfl (SOps.move rfl (SOps.indexM (i) rfl rfl sliceB_22_9_1 (by first | omega | (simp only [lenB]; omega) | (simp only [List.length_map, lenB]; omega) | (simp; done)) (by first | omega | (simp only [lenB]; omega) | (simp only [List.length_map, lenB]; omega) | (simp; done)) (SOps.loadPin rfl flatB_9 (SOps.bin rfl rfl rfl (SOps.reSlot (t := 70) rfl (show _ = DV.v (.bool false) from congrArg (fun b => DV.v (.bool b)) (by rw [hpi]; simp)) (SOps.move rfl (SOps.move rfl (SOps.bin rfl rfl rfl (SOps.reSlot (t := 73) rfl (show _ = DV.v (.bool false) from congrArg (fun b => DV.v (.bool b)) (by rw [hsp.1]; rfl)) (SOps.pick rfl rfl (SOps.move rfl (SOps.move rfl (SOps.move rfl (SOps.indexM (i) rfl rfl sliceB_22_9_1 (by first | omega | (simp only [lenB]; omega) | (simp only [List.length_map, lenB]; omega) | (simp; done)) (by first | omega | (simp only [lenB]; omega) | (simp only [List.length_map, lenB]; omega) | (simp; done)) (SOps.loadPin rfl flatB_9 (SOps.callP (q50Length _) rfl ?_))))))))))))))))))))))))
   rintro _ rfl
   refine SOps.move rfl (SOps.bin rfl rfl rfl (SOps.reSlot (t := 82) rfl (show _ = DV.v (.bool false) from congrArg (fun b => DV.v (.bool b)) (by rw [hpi, show ((runes (spreadR (linesR l w pen).1[i] w ((i : Int) == ((linesR l w pen).1.length : Int) - 1)).1).length : Int) = w from hsp.2]; exact bne_self_eq_false _)) (SOps.pick rfl rfl (SOps.nil ?_))))
   refine SCode.cond rfl (fun h => by cases h) (fun _ => ?_)
   refine SCode.skip ?_
   show SCode _ _ _ _
   refine SCode.region (SOps.move rfl (SOps.addI rfl rfl (by first | omega | (simp only [lenB]; omega) | (simp only [List.length_map, lenB]; omega) | (simp; done)) (by first | omega | (simp only [lenB]; omega) | (simp only [List.length_map, lenB]; omega) | (simp; done)) (SOps.assign rfl (SOps.nil ?_))))
   exact ⟨i + 1, by omega, by omega, St.Le.of ⟨rfl, rfl, rfl, rfl, trivial⟩⟩
  ·try simp only [nmL] at hc2
   refine SCode.exit ?_
   show SCode _ _ _ _
   refine SCode.seqR (SOps.assign rfl (SOps.nil (SCode.ret ?_)))
   exact ⟨_, Res.one (.tmp rfl), rfl, rfl⟩
end Go.GH
