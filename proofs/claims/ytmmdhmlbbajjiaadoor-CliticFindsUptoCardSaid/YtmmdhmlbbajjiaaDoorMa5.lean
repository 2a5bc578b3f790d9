/-
  Part 5 of the texts behind the walks of this claim: an own layer over the kit's wp, plain laws, and walks. No conditions.
-/
import Derived.Test.YtmmdhmlbbajjiaaDoorMa4
import Derived.Lib.AppendStr
import Derived.KernelRfl
import Derived.Test.YtmmdhmlbbajjiaaDoorRows
import Derived.OpenShut
import Derived.Laws.StructEq
import Derived.Tactics2
set_option linter.unusedVariables false
set_option linter.unusedSimpArgs false
set_option linter.deprecated false
namespace Go.GH
open Go Go.RowKit

/-- The same rules with, or without, own blocks from before. -/
abbrev Ctx.imp (C : Ctx) : Ctx := ⟨C.P, C.E, false⟩
abbrev Ctx.pur (C : Ctx) : Ctx := ⟨C.P, C.E, true⟩
theorem Act.eval_with (a : Act) (ds : List Deferred) : ({ a with defers := ds } : Act).eval = a.eval := by funext x; cases x <;> rfl
theorem upon_marks {P : Program} {o : Oper} {a : Act} {K K' : Act → World → Prop} {Q : Exit → Act → World → Prop} (ds : List Deferred) (hK : ∀ a w, K a w → K' { a with defers := a.defers ++ ds } w) :
    ∀ r : Result Next, o.upon P a K Q r → o.upon P { a with defers := a.defers ++ ds } K' (fun e a' w' => ∃ a0 : Act, a' = { a0 with defers := a0.defers ++ ds } ∧ Q e a0 w') r := by
  have hput : ∀ (b : Act) (v : Value), ({ b with defers := b.defers ++ ds } : Act).put o.dst v = { (b.put o.dst v) with defers := (b.put o.dst v).defers ++ ds } := fun b v => by cases o.dst <;> rfl
  have hL : LetsOut Q → LetsOut (fun e a' w' => ∃ a0 : Act, a' = { a0 with defers := a0.defers ++ ds } ∧ Q e a0 w') := fun ⟨a, w, h⟩ => ⟨_, w, a, rfl, h⟩
  intro r h
  cases r with
  | halt x w => cases x <;> first | exact ⟨a, rfl, h⟩ | exact h.elim
  | ok x w =>
    cases x with
    | value v => rw [Oper.upon_value, hput]; exact hK _ _ h
    | skip => rw [Oper.upon_skip, hput]; exact hK _ _ h
    | defer d =>
      have h' := hK _ _ h
      rw [Oper.upon_defer]
      have e := hput { a with defers := d :: a.defers } undef
      exact e ▸ h'
    | enter f args =>
      refine Calls.mono h (fun e w' q => ?_)
      cases e with
      | returned v => dsimp only; rw [hput]; exact hK _ _ q
      | panicked c => exact ⟨a, rfl, q⟩
      | outgrown => exact hL q
    | row row args => exact Rows.mono h (fun v w' r => by rw [hput]; exact hK _ _ r)
    | _ => exact h.elim
theorem wpList_marks {P : Program} {ops : Array Oper} {Q : Exit → Act → World → Prop} (ds : List Deferred) : ∀ (l : List Oper) (a : Act) (w : World), wpList P ops Q l a w →
    wpList P ops (fun e a' w' => ∃ a0 : Act, a' = { a0 with defers := a0.defers ++ ds } ∧ Q e a0 w') l { a with defers := a.defers ++ ds } w
  | [], a, w, h => ⟨a, rfl, h⟩
  | o :: l, a, w, h => by
    have ih := wpList_marks (P := P) (ops := ops) (Q := Q) ds l
    unfold wpList at h ⊢
    by_cases hw : Region.wanted o (yielded ops a.tmps) = true
    · rw [if_pos hw] at h ⊢
      rcases h with h | ⟨h1, a0, w0, h2⟩
      · left
        unfold Oper.wp at h ⊢
        rw [Act.eval_with]
        exact upon_marks ds ih _ h
      · right
        refine ⟨?_, _, w0, a0, rfl, h2⟩
        unfold Oper.asks at h1 ⊢
        rw [Act.eval_with]
        exact h1
    · rw [if_neg hw] at h ⊢
      have := ih _ _ h
      have e : ({ a with defers := a.defers ++ ds } : Act).put o.dst undef = { (a.put o.dst undef) with defers := (a.put o.dst undef).defers ++ ds } := by cases o.dst <;> rfl
      rw [e]
      exact this

/-- A frame that bears the mark of a range over a function. -/
def SimM (C : Ctx) (base : Base) (st : St) (a : Act) (w : World) : Prop :=
  ∃ F D, SimF C.E base F st { a with defers := [] } w ∧ a.defers = [{ target := .collected D, args := #[] }] ∧ w.heap[D]? = some (.deferred (some [])) ∧ ¬ F D ∧ (∀ p ∈ st.heap, p.1 ≠ D) ∧ base.w.heap.size ≤ D
def SimB (C : Ctx) (base : Base) (m : Bool) (st : St) (a : Act) (w : World) : Prop := match m with
  | false => Sim C.E base st a w
  | true => SimM C base st a w
def SMCode (C : Ctx) (c : Code) (m : Bool) (st : St) (Q : Exit → Bool → St → Prop) : Prop :=
  ∀ base, C.ok base → ∀ a w, SimB C base m st a w → c.wp C.P (fun e a' w' => ∃ m' st', Q e m' st' ∧ SimB C base m' st' a' w') a w
def thenM (C : Ctx) (y : Code) (Q : Exit → Bool → St → Prop) : Exit → Bool → St → Prop
  | .normal, m, st => SMCode C y m st Q
  | e, m, st => Q e m st
def blockM (id : Nat) (Q : Exit → Bool → St → Prop) : Exit → Bool → St → Prop
  | .exit id', m, st => if id' = id then Q .normal m st else Q (.exit id') m st
  | e, m, st => Q e m st
section
variable {C : Ctx} {m : Bool} {st : St} {Q : Exit → Bool → St → Prop}
theorem SMCode.of {c : Code} (h : SCode C c st (fun e st' => Q e false st')) : SMCode C c false st Q :=
  fun base ok a w hs => wp_mono (h base ok a w hs) (fun _ _ _ ⟨st', q, s⟩ => ⟨false, st', q, s⟩)
theorem SMCode.ret (h : Q .ret m st) : SMCode C .ret m st Q := fun _ _ _ _ hs => wp_ret ⟨m, st, h, hs⟩
theorem SMCode.seq {x y : Code} (h : SMCode C x m st (thenM C y Q)) : SMCode C (.seq x y) m st Q := fun base ok a w hs =>
  wp_seq (wp_mono (h base ok a w hs) (fun e a' w' ⟨m', st', q, s⟩ => by
    cases e <;> first | exact q base ok a' w' s | exact ⟨m', st', q, s⟩))
/-- Ahead of the statement: code as ever. -/
theorem SMCode.seqS {x y : Code} (h : SCode C x st (fun e st' => thenM C y Q e false st')) : SMCode C (.seq x y) false st Q := SMCode.seq (SMCode.of h)
theorem SMCode.seqRS {id : Nat} {ls : List Oper} {y : Code} (h : SOps C ls.toArray ls st (fun st' => SMCode C y false st' Q)) : SMCode C (.seq (.region id ls.toArray false) y) false st Q := SMCode.seqS (SCode.region h)
theorem SimF.weakM {base : Base} {a : Act} {w : World} {st' : St} (hl : st'.Le st) (h : SimM C base st a w) : SimM C base st' a w := by
  obtain ⟨F, D, h1, h2, h3, h4, h5, h6⟩ := h
  refine ⟨F, D, h1.weaken hl, h2, h3, h4, fun p hp => ?_, h6⟩
  obtain ⟨l, k1, k2⟩ := hl.heap
  exact h5 p (k2.subset (k1.mem_iff.1 hp))
theorem SMCode.weaken {c : Code} {st' : St} (hl : st'.Le st) (h : SMCode C c m st' Q) : SMCode C c m st Q := fun base ok a w hs => by
  cases m with
  | false => obtain ⟨F, hs⟩ := hs; exact h base ok a w ⟨F, hs.weaken hl⟩
  | true => exact h base ok a w (SimF.weakM hl hs)
theorem SMCode.block {id : Nat} {c : Code} (h : SMCode C c m st (blockM id Q)) : SMCode C (.block id c) m st Q := fun base ok a w hs =>
  wp_block (wp_mono (h base ok a w hs) (fun e a' w' ⟨m', st', q, s⟩ => by
    cases e with
    | exit id' =>
      simp only [blockM, Exit.inBlock] at *
      split
      · rename_i e; rw [if_pos e] at q; exact ⟨m', st', q, s⟩
      · rename_i e; rw [if_neg e] at q; exact ⟨m', st', q, s⟩
    | _ => exact ⟨m', st', q, s⟩))
/-- A region behind the statement. -/
theorem SMCode.region {id : Nat} {ls : List Oper} (h : SOps C.imp ls.toArray ls st (fun st' => Q .normal true st')) : SMCode C (.region id ls.toArray false) true st Q := by
  intro base ok a w ⟨F, D, hs, hd, hD, hF, hH, hb⟩
  have h1 := h ⟨w, F, _⟩ (fun hp => by cases hp) _ w ⟨F, hs.rebase⟩ (fun e a' w' => e = .normal ∧ ∃ st', Q .normal true st' ∧ Sim C.E ⟨w, F, fun b => b ∈ st.heap.map (·.1)⟩ st' a' w') (fun st' a' w' r s => ⟨rfl, st', r, s⟩)
  have h2 := wpList_marks [{ target := .collected D, args := #[] }] _ _ _ h1
  have e : ({ ({ a with defers := [] } : Act) with defers := ({ a with defers := [] } : Act).defers ++ [{ target := .collected D, args := #[] }] } : Act) = a := by
    show ({ tmps := a.tmps, defers := [] ++ [_] } : Act) = a
    rw [List.nil_append, ← hd]
  rw [e] at h2
  refine wp_mono (wp_region_lit h2) ?_
  rintro e a' w' ⟨a0, rfl, rfl, st', q, F', s⟩
  have hDl := (Array.getElem?_eq_some_iff.1 hD).1
  have hk : ¬ D ∈ st.heap.map (·.1) := fun hm => by obtain ⟨p, hp, e⟩ := List.mem_map.1 hm; exact hH p hp e
  refine ⟨true, st', q, F', D, ?_, by rw [s.defers]; rfl, (s.keep.block D hDl hk).trans hD, fun hF' => ?_, fun p hp e => ?_, hb⟩
  · have e2 : ({ ({ a0 with defers := a0.defers ++ [{ target := .collected D, args := #[] }] } : Act) with defers := [] } : Act) = a0 := by
      show ({ tmps := a0.tmps, defers := [] } : Act) = a0
      rw [← s.defers]
    rw [e2]
    exact hs.back s (fun b hb => by
      obtain ⟨p, hp, rfl⟩ := List.mem_map.1 hb
      exact (hs.heap p hp).1)
  · rcases (s.lt D hF').2 with x | x
    · exact hF x
    · exact absurd hDl (Nat.not_lt.2 x)
  · rcases (s.heap p hp).1 with x | x
    · exact hk (e ▸ x)
    · rw [e] at x; exact absurd hDl (Nat.not_lt.2 x)
theorem SMCode.seqR {id : Nat} {ls : List Oper} {y : Code} (h : SOps C.imp ls.toArray ls st (fun st' => SMCode C y true st' Q)) : SMCode C (.seq (.region id ls.toArray false) y) true st Q :=
  SMCode.seq (SMCode.region h)
theorem SimF.rebaseT {E : Env} {base : Base} {F : Nat → Prop} {st : St} {a : Act} {w : World} (h : SimF E base F st a w) (T : Nat → Prop) (h1 : ∀ p ∈ st.heap, T p.1) (h2 : ∀ b, T b → b < w.heap.size) : SimF E ⟨w, F, T⟩ F st a w where
  keep := Step.refl _ _
  base_lt := h2
  sub := fun _ x => x
  lt := fun b hb => ⟨(h.lt b hb).1, .inl hb⟩
  env := h.env
  size := h.size
  slots := h.slots
  heap := fun p hp => ⟨.inl (h1 p hp), (h.heap p hp).2⟩
  keys := h.keys
  defers := h.defers
theorem SimF.keysLt {E : Env} {base : Base} {F : Nat → Prop} {st : St} {a : Act} {w : World} (h : SimF E base F st a w) {b : Nat} (hb : b ∈ st.heap.map (·.1)) : b < w.heap.size ∧ ¬ F b := by
  obtain ⟨p, hp, rfl⟩ := List.mem_map.1 hb
  exact ⟨(h.heap p hp).2.2.lt, (h.heap p hp).2.1⟩

/-- 'for x := range g { .. }', each round leaving by the body's end. -/
theorem SMCode.range {g : Operand} {p : Tmp} {asg bd : Code} {f : FuncId} {ds xs : List DV} (hg : st.val g = some (.fn f ds)) (hit : GIter C.P C.E f ds xs) (Inv : Nat → DHeap → Prop) (h0 : Inv 0 st.heap) (hp : Nat.blt p st.n = true)
    (hround : ∀ i x l H, xs[i]? = some x → Inv i H → SRound C.imp l asg ⟨st.n, (p, x) :: st.slots, H⟩ (fun e st1 => e = .normal ∧ SRound C.imp l bd st1 (fun e st2 => e = .normal ∧ Inv (i + 1) st2.heap)))
    (hdone : ∀ H, Inv xs.length H → Q .normal true ⟨st.n, st.slots, H⟩) : SMCode C (.rangeFunc g #[p] asg bd) false st Q := by
  intro base ok a w ⟨F, hs⟩
  refine (wpIn_wide (n := 0)).1 (wpIn_rangeFunc (F := Fence.wide) (n := 0) ?_)
  intro fn _
  have h3 := hs.val hg
  generalize hv : a.eval g = v at h3
  cases h3 with
  | @fn _ us _ hl hr =>
  obtain ⟨rec, hrec⟩ : ∃ rec : LoopState → Loop, rec = fun s => { state := s, pending := none, fn, tmps := a.tmps, params := #[p], assign := asg, body := bd, defers := w.heap.size } := ⟨_, rfl⟩
  obtain ⟨W1, hW1⟩ : ∃ W1, (w.alloc (.deferred (some []))).alloc (.loop (rec .ready)) = W1 := ⟨_, rfl⟩
  have hL1 : W1.heap[w.heap.size + 1]? = some (.loop (rec .ready)) := by
    rw [← hW1]; have := World.alloc_heap_new (w.alloc (.deferred (some []))) (.loop (rec .ready)); rwa [World.size_alloc] at this
  have hD1 : W1.heap[w.heap.size]? = some (.deferred (some [])) := by
    rw [← hW1]; exact (Below.heap_alloc _ _ _ (by simp)).trans (World.alloc_heap_new w _)
  have hst1 : Step (fun _ => False) w W1 := by rw [← hW1]; exact (Step.alloc _ w _).trans (Step.alloc _ _ _)
  have hne : ∀ s, (rec s).defers = w.heap.size ∧ (rec s).params = #[p] ∧ (rec s).tmps = a.tmps ∧ (rec s).state = s ∧ (rec s).pending = none ∧ (rec s).fn = fn ∧ (rec s).assign = asg ∧ (rec s).body = bd := fun s => by rw [hrec]; exact ⟨rfl, rfl, rfl, rfl, rfl, rfl, rfl, rfl⟩
  have hrs : ∀ s s', { rec s with state := s' } = rec s' := fun s s' => by rw [hrec]
  have hrs2 : ∀ s s', { rec s with state := s', pending := none } = rec s' := fun s s' => by rw [hrec]
  obtain ⟨J, hJ⟩ : ∃ J : JT, J = fun i w' F' T => ∃ H, Inv i H ∧ SimF C.E base F' ⟨st.n, st.slots, H⟩ a w' ∧ w'.heap[w.heap.size + 1]? = some (.loop (rec .ready)) ∧ w'.heap[w.heap.size]? = some (.deferred (some [])) ∧
      (∀ q ∈ H, T q.1) ∧ T (w.heap.size + 1) ∧ T w.heap.size ∧ (∀ q ∈ H, q.1 ≠ w.heap.size + 1 ∧ q.1 ≠ w.heap.size) ∧ (∀ b, T b → base.own b ∨ base.w.heap.size ≤ b) ∧ (∀ b, T b → b < w'.heap.size ∧ ¬ F' b) := ⟨_, rfl⟩
  have hbw : base.w.heap.size ≤ w.heap.size := hs.keep.size
  have hnoF : ∀ b, w.heap.size ≤ b → ¬ F b := fun b hb hF => absurd (hs.lt b hF).1 (Nat.not_lt.2 hb)
  have hKeep : YKeeps J := by
    rw [hJ]
    rintro i w1 F1 T1 w2 F2 ⟨H, hI, hs1, k1, k2, k3, k4, k5, k6, k7, k8⟩ hst hF hF2
    have hT2 : ∀ b, T1 b → b < w2.heap.size ∧ ¬ F2 b := fun b hb => ⟨Nat.lt_of_lt_of_le (k8 b hb).1 hst.size, fun x => by
      rcases (hF2 b x).2 with y | y
      · exact (k8 b hb).2 y
      · exact absurd (k8 b hb).1 (Nat.not_lt.2 y)⟩
    exact ⟨H, hI, (hs1.world hst).wider hF (fun b hb => ⟨(hF2 b hb).1, (hF2 b hb).2.imp id (fun x => Nat.le_trans hs1.keep.size x)⟩) (fun q hq => (hT2 _ (k3 q hq)).2),
      (hst.block _ (k8 _ k4).1 (fun x => x)).trans k1, (hst.block _ (k8 _ k5).1 (fun x => x)).trans k2, k3, k4, k5, k6, k7, hT2⟩
  have hRounds : YRounds C.P C.E (w.heap.size + 1) xs J := by
    intro i x hx w1 F1 T1 v hE hlt hTT hj hv1
    have hj' := hj
    rw [hJ] at hj
    obtain ⟨H, hI, hs1, k1, k2, k3, k4, k5, k6, k7, k8⟩ := hj
    have hy := run_yield (P := C.P) (args := #[v]) k1 (by rw [(hne _).2.1]; rfl)
    rw [(hne .ready).2.1, (hne .ready).2.2.1, (hne .ready).2.2.2.2.2.1, (hne .ready).2.2.2.2.2.2.1, (hne .ready).2.2.2.2.2.2.2] at hy
    refine ⟨fn, _, asg, bd, hy, roundIn_of_wpIn (F := Fence.wide) trivial ?_⟩
    clear hy
    have ha : ({ tmps := (#[p].zip #[v]).foldl (fun tmps (t, a) => tmps.setIfInBounds t a) a.tmps, defers := [] } : Act) = a.put (some p) v := by
      rw [show (#[p].zip #[v]).foldl (fun tmps (t, a) => tmps.setIfInBounds t a) a.tmps = a.tmps.setIfInBounds p v by simp]
      show _ = ({ tmps := a.tmps.setIfInBounds p v, defers := a.defers } : Act)
      rw [hs1.defers]
    rw [ha]
    have hkH : ∀ b, b ∈ H.map (·.1) → T1 b := fun b hb => by obtain ⟨q, hq, rfl⟩ := List.mem_map.1 hb; exact k3 q hq
    have hlH : ¬ (w.heap.size + 1) ∈ H.map (·.1) := fun hm => by obtain ⟨q, hq, e⟩ := List.mem_map.1 hm; exact (k6 q hq).1 e
    have hDH : ¬ w.heap.size ∈ H.map (·.1) := fun hm => by obtain ⟨q, hq, e⟩ := List.mem_map.1 hm; exact (k6 q hq).2 e
    have s1 := (hs1.rebase).put (t := p) (x := v) (d := x) (by simpa using hp) hv1
    refine wpIn_mono (hround i x (w.heap.size + 1) H hx hI ⟨w1, F1, fun b => b ∈ H.map (·.1)⟩ (fun hq => by cases hq) _ w1 ⟨F1, s1⟩) ?_
    rintro e a1 w2 ⟨st1, ⟨rfl, hb⟩, F2, s2⟩
    have hl2 : w2.heap[w.heap.size + 1]? = some (.loop (rec .ready)) := (s2.keep.block _ (k8 _ k4).1 hlH).trans k1
    have hD2 : w2.heap[w.heap.size]? = some (.deferred (some [])) := (s2.keep.block _ (k8 _ k5).1 hDH).trans k2
    have hlF2 : ∀ b, T1 b → ¬ F2 b := fun b hb x => by
      rcases (s2.lt b x).2 with y | y
      · exact (k8 b hb).2 y
      · exact absurd (k8 b hb).1 (Nat.not_lt.2 y)
    have hk1 : ∀ q ∈ st1.heap, T1 q.1 ∨ w1.heap.size ≤ q.1 := fun q hq => (s2.heap q hq).1.imp (hkH _) id
    have hl1n : ∀ q ∈ st1.heap, q.1 ≠ w.heap.size + 1 ∧ q.1 ≠ w.heap.size := fun q hq => ⟨fun e => by
        rcases (s2.heap q hq).1 with y | y
        · exact hlH (e ▸ y)
        · exact absurd (k8 _ k4).1 (Nat.not_lt.2 (e ▸ y)), fun e => by
        rcases (s2.heap q hq).1 with y | y
        · exact hDH (e ▸ y)
        · exact absurd (k8 _ k5).1 (Nat.not_lt.2 (e ▸ y))⟩
    refine ⟨_, run_beginRound hl2 (hne _).2.2.2.1, ?_⟩
    rw [hrs]
    have st2 := Step.putObj (.loop (rec .busy)) hl2 rfl
    have hlt2 := (Array.getElem?_eq_some_iff.1 hl2).1
    have s3 := ((s2.rebaseT (fun b => b ∈ st1.heap.map (·.1) ∨ b = w.heap.size + 1) (fun q hq => .inl (List.mem_map.2 ⟨q, hq, rfl⟩)) (fun b hb => hb.elim (fun h => (s2.keysLt h).1) (fun h => h ▸ hlt2))).stepT st2 (fun b hF e => hlF2 _ k4 (e ▸ hF)) (fun q hq e => (hl1n q hq).1 e) (fun b e => .inl (.inr e))).rebase
    have hl3 : (w2.putObj (w.heap.size + 1) (.loop (rec .busy))).heap[w.heap.size + 1]? = some (.loop (rec .busy)) := World.putObj_heap_same hlt2
    have hD3 : (w2.putObj (w.heap.size + 1) (.loop (rec .busy))).heap[w.heap.size]? = some (.deferred (some [])) := (World.putObj_heap_other (by omega)).trans hD2
    have hl1k : ¬ (w.heap.size + 1) ∈ st1.heap.map (·.1) := fun hm => by obtain ⟨q, hq, e⟩ := List.mem_map.1 hm; exact (hl1n q hq).1 e
    have hD1k : ¬ w.heap.size ∈ st1.heap.map (·.1) := fun hm => by obtain ⟨q, hq, e⟩ := List.mem_map.1 hm; exact (hl1n q hq).2 e
    have hsz3 : w2.heap.size ≤ (w2.putObj (w.heap.size + 1) (.loop (rec .busy))).heap.size := st2.size
    generalize w2.putObj (w.heap.size + 1) (.loop (rec .busy)) = W3 at *
    refine wpIn_mono (hb ⟨W3, F2, _⟩ (fun hq => by cases hq) a1 W3 ⟨F2, s3⟩) ?_
    rintro e a2 w4 ⟨st2', ⟨rfl, hI2⟩, F4, s4⟩
    have hl4 : w4.heap[w.heap.size + 1]? = some (.loop (rec .busy)) := (s4.keep.block _ (Array.getElem?_eq_some_iff.1 hl3).1 hl1k).trans hl3
    have hD4 : w4.heap[w.heap.size]? = some (.deferred (some [])) := (s4.keep.block _ (Array.getElem?_eq_some_iff.1 hD3).1 hD1k).trans hD3
    refine ⟨_, _, run_endRound none hl4, rfl, ?_⟩
    rw [show ({ rec .busy with state := if (none : Option Code).isNone then .ready else .done, pending := none } : Loop) = rec .ready from hrs2 _ _]
    have st5 := Step.putObj (.loop (rec .ready)) hl4 rfl
    have hlt4 := (Array.getElem?_eq_some_iff.1 hl4).1
    have hl5 : (w4.putObj (w.heap.size + 1) (.loop (rec .ready))).heap[w.heap.size + 1]? = some (.loop (rec .ready)) := World.putObj_heap_same hlt4
    have hD5 : (w4.putObj (w.heap.size + 1) (.loop (rec .ready))).heap[w.heap.size]? = some (.deferred (some [])) := (World.putObj_heap_other (by omega)).trans hD4
    generalize w4.putObj (w.heap.size + 1) (.loop (rec .ready)) = W5 at *
    have hw12 : w1.heap.size ≤ w2.heap.size := s2.keep.size
    have hw34 : W3.heap.size ≤ w4.heap.size := s4.keep.size
    have hF14 : ∀ b, F1 b → F4 b := fun b hb => s4.sub b (s2.sub b hb)
    have hF41 : ∀ b, F4 b → b < W5.heap.size ∧ (F1 b ∨ w1.heap.size ≤ b) := fun b hb => ⟨Nat.lt_of_lt_of_le (s4.lt b hb).1 st5.size, by
      rcases (s4.lt b hb).2 with y | y
      · exact (s2.lt b y).2
      · exact .inr (by have : W3.heap.size ≤ b := y; omega)⟩
    have hT1F : ∀ b, T1 b → ¬ F4 b := fun b hb x => by
      rcases (hF41 b x).2 with y | y
      · exact (k8 b hb).2 y
      · exact absurd (k8 b hb).1 (Nat.not_lt.2 y)
    have hk2 : ∀ q ∈ st2'.heap, T1 q.1 ∨ w1.heap.size ≤ q.1 := fun q hq => by
      rcases (s4.heap q hq).1 with y | y
      · obtain ⟨q', hq', e⟩ := List.mem_map.1 y
        rw [← e]; exact hk1 q' hq'
      · exact .inr (by have : W3.heap.size ≤ q.1 := y; omega)
    have hk2n : ∀ q ∈ st2'.heap, q.1 ≠ w.heap.size + 1 ∧ q.1 ≠ w.heap.size := fun q hq => by
      have hl3' := (Array.getElem?_eq_some_iff.1 hl3).1
      refine ⟨fun e => ?_, fun e => ?_⟩
      · rcases (s4.heap q hq).1 with y | y
        · exact hl1k (e ▸ y)
        · have : W3.heap.size ≤ q.1 := y; omega
      · rcases (s4.heap q hq).1 with y | y
        · exact hD1k (e ▸ y)
        · have : W3.heap.size ≤ q.1 := y; omega
    have hT' : ∀ b, (b ∈ st2'.heap.map (·.1) ∨ b = w.heap.size + 1 ∨ b = w.heap.size) → b < W5.heap.size ∧ ¬ F4 b ∧ (T1 b ∨ w1.heap.size ≤ b) := fun b hb => by
      rcases hb with hb | rfl | rfl
      · obtain ⟨q, hq, rfl⟩ := List.mem_map.1 hb
        exact ⟨Nat.lt_of_lt_of_le (s4.heap q hq).2.2.lt st5.size, (s4.heap q hq).2.1, hk2 q hq⟩
      · exact ⟨(Array.getElem?_eq_some_iff.1 hl5).1, hT1F _ k4, .inl k4⟩
      · exact ⟨(Array.getElem?_eq_some_iff.1 hD5).1, hT1F _ k5, .inl k5⟩
    have kall : Step T1 w1 W5 := by
      refine Step.then (Step.then (Step.then (s2.keep.mono (fun i _ h => hkH i h)) st2 (fun i hi e => e ▸ k4)) s4.keep (fun i hi hb => ?_)) st5 (fun i hi e => e ▸ k4)
      obtain ⟨q, hq, rfl⟩ := List.mem_map.1 hb
      rcases hk1 q hq with y | y
      · exact y
      · exact absurd hi (Nat.not_lt.2 y)
    have hown : ∀ b, (T1 b ∨ w1.heap.size ≤ b) → base.own b ∨ base.w.heap.size ≤ b := fun b hb => hb.elim (k7 b) (fun y => .inr (Nat.le_trans hs1.keep.size y))
    refine ⟨F4, _, hF14, hF41, hT', kall, ?_⟩
    rw [hJ]
    have hblk : ∀ b, F1 b → W5.heap[b]? = w1.heap[b]? := fun b hb => kall.block b (hlt b hb) (fun ht => (k8 b ht).2 hb)
    refine ⟨st2'.heap, hI2, ?_, hl5, hD5, fun q hq => .inl (List.mem_map.2 ⟨q, hq, rfl⟩), .inr (.inl rfl), .inr (.inr rfl), hk2n, fun b hb => hown b (hT' b hb).2.2, fun b hb => ⟨(hT' b hb).1, (hT' b hb).2.1⟩⟩
    exact {
      keep := hs1.keep.then kall (fun i hi hb => (k7 i hb).resolve_right (by omega))
      base_lt := hs1.base_lt
      sub := fun b hb => hF14 b (hs1.sub b hb)
      lt := fun b hb => ⟨(hF41 b hb).1, (hF41 b hb).2.elim (fun y => (hs1.lt b y).2) (fun y => .inr (Nat.le_trans hs1.keep.size y))⟩
      env := C.E.mono hblk hF14 hs1.env
      size := hs1.size
      slots := fun t d ht => ⟨(hs1.slots t d ht).1, (hs1.slots t d ht).2.mono hblk kall.shape hF14⟩
      heap := fun q hq => by
        obtain ⟨y1, y2, y3⟩ := s4.heap q hq
        exact ⟨hown _ (hk2 q hq), y2, y3.mono (st5.block _ y3.lt (fun e => (hk2n q hq).1 e)) (fun b hb => st5.block b (s4.lt b hb).1 (fun e => hT1F _ k4 (e ▸ hb))) st5.shape (fun _ x => x)⟩
      keys := s4.keys
      defers := hs1.defers }
  have hJ0 : J 0 W1 F (fun b => b ∈ st.heap.map (·.1) ∨ b = w.heap.size + 1 ∨ b = w.heap.size) := by
    rw [hJ]
    have hlt1 := (Array.getElem?_eq_some_iff.1 hL1).1
    refine ⟨st.heap, h0, hs.world hst1, hL1, hD1, fun q hq => .inl (List.mem_map.2 ⟨q, hq, rfl⟩), .inr (.inl rfl), .inr (.inr rfl), fun q hq => ?_, fun b hb => ?_, fun b hb => ?_⟩
    · have := (hs.heap q hq).2.2.lt
      omega
    · rcases hb with hb | rfl | rfl
      · obtain ⟨q, hq, rfl⟩ := List.mem_map.1 hb; exact (hs.heap q hq).1
      · exact .inr (by omega)
      · exact .inr (by omega)
    · rcases hb with hb | rfl | rfl
      · exact ⟨Nat.lt_of_lt_of_le (hs.keysLt hb).1 hst1.size, (hs.keysLt hb).2⟩
      · exact ⟨hlt1, hnoF _ (by omega)⟩
      · exact ⟨by omega, hnoF _ (by omega)⟩
  refine ⟨w.heap.size + 1, [{ target := .collected w.heap.size, args := #[] }], W1, { target := .fn (.func f) us, args := #[.func (.yield (w.heap.size + 1)) #[] #[]] }, W1, f, #[.func (.yield (w.heap.size + 1)) #[] #[]] ++ us, W1, ?_, ?_, fun _ _ => trivial, ?_, fun e => by simp [Fence.wide] at e, ?_⟩
  · rw [← hW1, hrec]; exact run_enterLoop_outer _ _ _ _ _
  · simp only [resolve, hv]
    simp [go_sem]
  · simp only [invoke]
    exact run_callFunc hit.1 _ _
  · refine (callsIn_wide (n := 0 - 1)).2 (Calls.mono (hit.2 (w.heap.size + 1) J W1 F _ us hKeep hRounds (hs.world hst1).env (fun b hb => ((hs.world hst1).lt b hb).1) (fun b hb => ?_) hJ0 hl (fun j x d h1 h2 => (hr j x d h1 h2).mono (fun b hb => hst1.block b (hs.lt b hb).1 (fun x => x)) hst1.shape (fun _ x => x))) ?_)
    · have := hJ0
      rw [hJ] at this
      obtain ⟨_, _, _, _, _, _, _, _, _, _, k8⟩ := this
      exact k8 b hb
    · rintro e w5 ⟨⟨v, rfl⟩, F5, T5, hj⟩
      rw [hJ] at hj
      obtain ⟨H, hI, hs1, k1, k2, k3, k4, k5, k6, k7, k8⟩ := hj
      refine ⟨none, _, (run_endLoop k1 (by rw [(hne _).2.2.2.1]; simp)).trans (by rw [(hne .ready).2.2.2.2.1]), true, _, hdone H hI, F5, w.heap.size, ?_, by rw [hs.defers]; rfl, (World.putObj_heap_other (by omega)).trans k2, (k8 _ k5).2, fun q hq => (k6 q hq).2, hbw⟩
      have e : ({ ({ a with defers := [{ target := .collected w.heap.size, args := #[] }] ++ a.defers } : Act) with defers := [] } : Act) = a := by
        show ({ tmps := a.tmps, defers := [] } : Act) = a
        rw [← hs.defers]
      rw [e]
      exact hs1.stepT (T := (· = w.heap.size + 1)) (Step.putObj _ k1 rfl) (fun b hF e => (k8 _ k4).2 (e ▸ hF)) (fun q hq e => (k6 q hq).1 e) (fun b e => k7 b (e ▸ k4))

/-! ### a piece that leaves the own blocks as they are -/
theorem upon_mono {P : Program} {o : Oper} {a : Act} {K K' : Act → World → Prop} {Q Q' : Exit → Act → World → Prop} (hK : ∀ a w, K a w → K' a w) (hQ : ∀ e a w, e ≠ .normal → Q e a w → Q' e a w) :
    ∀ r : Result Next, o.upon P a K Q r → o.upon P a K' Q' r := by
  have hL : LetsOut Q → LetsOut Q' := fun ⟨a, w, h⟩ => ⟨a, w, hQ _ _ _ (by simp) h⟩
  intro r h
  cases r with
  | halt x w => cases x <;> first | exact hQ _ _ _ (by simp) h | exact h.elim
  | ok x w =>
    cases x with
    | value v => exact hK _ _ h
    | skip => exact hK _ _ h
    | defer d => exact hK _ _ h
    | enter f args =>
      refine Calls.mono h (fun e w' q => ?_)
      cases e with
      | returned v => exact hK _ _ q
      | panicked c => exact hQ _ _ _ (by simp) q
      | outgrown => exact hL q
    | row row args => exact Rows.mono h (fun v w' r => hK _ _ r)
    | _ => exact h.elim
theorem SOps.frame1 {o : Oper} {rest : List Oper} {ops : Array Oper} {R : St → Prop} {n1 : Nat} {sl1 : List (Nat × DV)} (h : SOps C.pur ops [o] ⟨st.n, st.slots, []⟩ (fun st' => st' = ⟨n1, sl1, []⟩)) (k : SOps C ops rest ⟨n1, sl1, st.heap⟩ R) : SOps C ops (o :: rest) st R := by
  intro base ok a w ⟨F, hs⟩ Q hQ
  have s0 : SimF C.E ⟨w, F, fun _ => False⟩ F ⟨st.n, st.slots, []⟩ a w := { (hs.rebase.weaken (st' := ⟨st.n, st.slots, []⟩) ⟨rfl, fun t d ht => .inl ht, [], .refl _, List.nil_sublist _⟩) with
    keep := Step.refl _ _
    base_lt := fun b hb => hb.elim
    heap := fun p hp => by cases hp }
  have h1 := h ⟨w, F, fun _ => False⟩ (fun _ b hb => hb) a w ⟨F, s0⟩ (fun e a' w' => e = .normal ∧ wpList C.P ops Q rest a' w') (fun st' a' w' r ⟨F', s⟩ => ⟨rfl, by
    subst r
    refine k base ok a' w' ⟨F', ?_⟩ Q hQ
    have s2 := hs.back s (fun b hb => hb.elim)
    have hT : ∀ p ∈ st.heap, ¬ F' p.1 := fun p hp hF' => by
      rcases (s.lt p.1 hF').2 with x | x
      · exact (hs.heap p hp).2.1 x
      · exact absurd (hs.heap p hp).2.2.lt (Nat.not_lt.2 x)
    exact { s2 with
      heap := fun p hp => by
        obtain ⟨y1, y2, y3⟩ := hs.heap p hp
        exact ⟨y1, hT p hp, y3.mono (s.keep.block _ y3.lt (fun x => x)) (fun b hb => s.keep.block b (hs.lt b hb).1 (fun x => x)) s.keep.shape s.sub⟩
      keys := hs.keys }⟩)
  unfold wpList at h1 ⊢
  by_cases hw : Region.wanted o (yielded ops a.tmps) = true
  · rw [if_pos hw] at h1 ⊢
    rcases h1 with h1 | ⟨h2, a0, w0, h3⟩
    · exact .inl (upon_mono (fun a w q => q.2) (fun e a w he q => absurd q.1 he) _ h1)
    · cases h3.1
  · rw [if_neg hw] at h1 ⊢
    exact h1.2
/-- A box that holds a map which is written no more. -/
theorem SOps.freezePinMap {ops : Array Oper} {l : List Oper} {R : St → Prop} {t : Nat} (i : Nat) {b : Nat} {es : List (Value × DV)} (hp : C.pu = true) (hi : st.heap[i]? = some (b, .map es)) (hd : st.get t = some (.ipin [.mp b]))
    (h : SOps C ops l ⟨st.n, (t, .ipin [.imap es]) :: st.slots, st.heap.eraseIdx i⟩ R) : SOps C ops l st R :=
  SOps.letGoAs i hp hi hd (fun w F v ho hv => by
    obtain ⟨ents, clock, k1, k2, k3⟩ := ho
    cases hv with
    | ipin xs hF hc hr =>
      refine .ipin xs (.inl hF) (fun j d hj => ?_) (fun j d hj => ?_)
      · cases j with
        | zero => exact hc 0 (.mp b) rfl
        | succ j => cases hj
      · cases j with
        | zero =>
          obtain rfl := Option.some.inj hj
          have h0 := hr 0 (.mp b) rfl
          generalize xs 0 = x at h0
          cases h0 with
          | mp =>
            refine .imap (fun i => ((ents[i]?).map (·.val)).getD undef) (.inr rfl) k1 k2 (fun i p hp => ?_) (fun i p hp => ?_)
            · obtain ⟨e, he, hk, _⟩ := k3 i p hp
              simp [he, hk]
            · obtain ⟨e, he, _, hr'⟩ := k3 i p hp
              simp only [he, Option.map_some, Option.getD_some]
              exact hr'.mono (fun _ _ => rfl) (fun _ _ x => x) (fun _ x => .inl x)
        | succ j => cases hj) h

/-- The contract of a function that holds a range over a function. -/
theorem GCall.bodyM {f : FuncId} {fn : Func} {c : Code} {ds : List DV} {H : DHeap} {R : DV → DHeap → Prop} (hf : C.P.funcs[f]? = some fn) (hb : fn.body = some c)
    (hpu : C.pu = true → H = []) (hname : (fn.name == "runtime.NumGoroutine") = false) (hn : Nat.ble ds.length fn.ntmps = true)
    (h : SMCode C c false (St.init fn.ntmps ds H) (fun e _ st => endQ C.P fn.results R e st)) : GCall C.P C.E f ds H R := by
  refine ⟨by simp [hasBody, hf, hb, hname], ?_⟩
  intro w F vs hE hF hvs hr hH hk
  have hn' := Nat.le_of_ble_eq_true hn
  refine callsIn_wide.1 (callsIn_of_wp_marks (F := Fence.wide) (n := 0) hf hb trivial ?_)
  have hsim : SimF C.E ⟨w, F, fun b => b ∈ H.map (·.1)⟩ F (St.init fn.ntmps ds H) { tmps := vs ++ Array.replicate (fn.ntmps - vs.size) undef, defers := [] } w := {
    keep := Step.refl _ _
    base_lt := fun b hb => by
      obtain ⟨p, hp, rfl⟩ := List.mem_map.1 hb
      exact (hH p hp).2.lt
    sub := fun _ h => h
    lt := fun b hb => ⟨hF b hb, .inl hb⟩
    env := hE
    size := by simp [hvs, St.init]; omega
    slots := fun t d ht => by
      obtain ⟨_, h2⟩ := enum_get ds 0 t d ht
      simp only [Nat.sub_zero] at h2
      have hlt := (List.getElem?_eq_some_iff.1 h2).1
      refine ⟨Nat.lt_of_lt_of_le hlt hn', ?_⟩
      have hlt' : t < vs.size := hvs ▸ hlt
      have e : (vs ++ Array.replicate (fn.ntmps - vs.size) undef).getD t undef = vs[t] := by
        simp [Array.getD_eq_getD_getElem?, Array.getElem?_append, hlt']
      rw [e]
      exact hr t _ d (Array.getElem?_eq_getElem hlt') h2
    heap := fun p hp => ⟨.inl (List.mem_map.2 ⟨p, hp, rfl⟩), (hH p hp).1, (hH p hp).2⟩
    keys := hk
    defers := rfl }
  have hok : C.ok ⟨w, F, fun b => b ∈ H.map (·.1)⟩ := fun hp b hb => by rw [hpu hp] at hb; cases hb
  refine wpIn_wide.2 (wp_mono (h _ hok _ _ ⟨F, hsim⟩) ?_)
  rintro e a' w' ⟨m', st', q, s⟩
  have fin : ∀ d, Res C.P st' fn.results d → R d st'.heap → LeavesInM Fence.wide 0 C.P fn a'.tmps (CPost C.E w F H R) a'.defers .returning w' := fun d hres hR => by
    cases m' with
    | false =>
      obtain ⟨F', s⟩ := s
      obtain ⟨x, hx, hrep⟩ := run_results s hres
      rw [s.defers]
      exact ⟨x, hx, x, d, st'.heap, F', rfl, hR, s.sub, s.lt, hrep, s.heap, s.keys, s.keep⟩
    | true =>
      obtain ⟨F', D, s, hd, hD, hFD, hH', hbD⟩ := s
      have k := Step.putObj (.deferred none) hD rfl
      have s2 := s.stepT k (fun b hF e => hFD (e ▸ hF)) (fun q hq e => hH' q hq e) (fun b e => .inr (e ▸ hbD))
      obtain ⟨x, hx, hrep⟩ := run_results s2 hres
      rw [hd]
      exact ⟨by simp, .inl ⟨D, _, rfl, run_takeDeferred hD, x, hx, x, d, st'.heap, F', rfl, hR, s2.sub, s2.lt, hrep, s2.heap, s2.keys, s2.keep⟩⟩
  cases e with
  | normal => obtain ⟨d, h1, h2⟩ := q; exact fin d h1 h2
  | ret => obtain ⟨d, h1, h2⟩ := q; exact fin d h1 h2
  | _ => exact q.elim
end
/-- A row that the call has grown is let go with its result. -/
theorem GCall.cleanAcc {P : Program} {E : Env} {f : FuncId} {ds : List DV} {e sz : Nat} {x : DV} {es : List (List DV)} (h : GCall P E f ds [] (fun d H => ∃ k, d = .tup [accD sz k es, x] ∧ ∀ p ∈ accH e sz k es, p ∈ H)) : GCall P E f ds [] (fun d H => d = .tup [.isl false sz es, x] ∧ H = []) :=
  ⟨h.1, fun w F vs hE hF hl hr h1 h2 => (h.2 w F vs hE hF hl hr h1 h2).mono (fun e' w' ⟨u, d, H', F', e1, e2, e3, e4, e5, e6, e7, e8⟩ => by
    obtain ⟨k, rfl, hk⟩ := e2
    cases es with
    | nil => exact ⟨u, _, [], F', e1, ⟨rfl, rfl⟩, e3, e4, rep_tup0 (fun _ _ _ h => nil_isl h) e5, (fun p hp => by cases hp), List.nodup_nil, e8⟩
    | cons y ys =>
      obtain ⟨p1, p2, p3⟩ := e6 _ (hk _ (List.mem_cons_self ..))
      have p1' : w.heap.size ≤ k := p1.resolve_left (fun hm => by cases hm)
      refine ⟨u, _, [], fun c => F' c ∨ c = k, e1, ⟨rfl, rfl⟩, fun b hb => .inl (e3 b hb), fun b hb => ?_, ?_, (fun p hp => by cases hp), List.nodup_nil, e8⟩
      · rcases hb with hb | rfl
        · exact e4 b hb
        · exact ⟨p3.lt, .inr p1'⟩
      · cases e5 with
        | tup hl' hr' =>
          refine .tup (by simpa using hl') (fun j x' d' hj hd' => ?_)
          cases j with
          | zero =>
            simp only [List.getElem?_cons_zero, Option.some.injEq] at hd'
            subst hd'
            exact rep_row p3 (hr' 0 x' _ hj rfl)
          | succ j => exact (hr' (j + 1) x' d' hj (by simpa using hd')).mono (fun _ _ => rfl) (fun _ _ h => h) (fun _ h => .inl h))⟩
end Go.GH
namespace Go.GH
open Go

abbrev Ids := Nat → Nat
/-- A chain: its operations, and what its memory is after so many of them. -/
structure Chn where
  T : List Nat
  Y : List Nat → Nat → DHeap
def Chn.X (x : Chn) (b : Ids) (c : Nat) : DHeap := x.Y (x.T.map b) c
def Chn.at (L : Nat → Bool) (b : Ids) (x : Chn) : DHeap := x.X b (cntL L x.T)
def chnH (L : Nat → Bool) (b : Ids) (xs : List Chn) : DHeap := (xs.map (Chn.at L b)).flatten
inductive NeedG (D : List (Ids → ORes)) (s : List (Nat × DV)) (b : Ids) : List (Nat ⊕ Nat) → List (Nat × DV) → Prop
  | nil : NeedG D s b [] []
  | inl {j : Nat} {ss : List (Nat ⊕ Nat)} {nd : List (Nat × DV)} {r : Ids → ORes} (k t : Nat) (d : DV) (hk : k + j + 1 = D.length) (h : D[k]? = some r) (h2 : r b = some (t, d)) (q : NeedG D s b ss nd) : NeedG D s b (.inl j :: ss) ((t, d) :: nd)
  | inr {t : Nat} {ss : List (Nat ⊕ Nat)} {nd : List (Nat × DV)} (d : DV) (h : getL s t = some d) (q : NeedG D s b ss nd) : NeedG D s b (.inr t :: ss) ((t, d) :: nd)
/-- What each operation does. 'none': it reads alone; 'some (m, c)': it is number c of chain m. -/
inductive GOk (C : Ctx) (ops : Array Oper) (n : Nat) (base : DHeap) (s : List (Nat × DV)) (xs : List Chn) : List (Ids → ORes) → List Oper → List (List (Nat ⊕ Nat)) → List (Option (Nat × Nat)) → List (List Nat) → List (Ids → ORes) → Prop
  | nil {D : List (Ids → ORes)} : GOk C ops n base s xs D [] [] [] [] []
  | pure {D E : List (Ids → ORes)} {o : Oper} {os : List Oper} {ss : List (Nat ⊕ Nat)} {sss : List (List (Nat ⊕ Nat))} {cls : List (Option (Nat × Nat))} {Ss : List (List Nat)} (S : List Nat) (g : List Nat → ORes) {nd : Ids → List (Nat × DV)} (hj : inlB D.length ss = true) (hn : ∀ b, NeedG D s b ss (nd b))
      (h : ∀ b rest ext, SOps C ops [o] ⟨n, nd b ++ rest, base ++ ext⟩ (fun st' => st' = ⟨n, (g (S.map b)).toList ++ (nd b ++ rest), base ++ ext⟩)) (k : GOk C ops n base s xs ((fun b => g (S.map b)) :: D) os sss cls Ss E) : GOk C ops n base s xs D (o :: os) (ss :: sss) (none :: cls) (S :: Ss) ((fun b => g (S.map b)) :: E)
  | act {D E : List (Ids → ORes)} {o : Oper} {os : List Oper} {ss : List (Nat ⊕ Nat)} {sss : List (List (Nat ⊕ Nat))} {cls : List (Option (Nat × Nat))} {Ss : List (List Nat)} {m c : Nat} {x : Chn} (S : List Nat) (g : List Nat → ORes) {nd : Ids → List (Nat × DV)} (hx : xs[m]? = some x) (hc : x.T[c]? = some D.length) (hj : inlB D.length ss = true) (hn : ∀ b, NeedG D s b ss (nd b))
      (h : ∀ b rest ext, SOps C ops [o] ⟨n, nd b ++ rest, base ++ (x.X b c ++ ext)⟩ (fun st' => ∃ b', (∀ k, k ≠ D.length → b' k = b k) ∧ (⟨n, (g (S.map b')).toList ++ (nd b ++ rest), base ++ (x.X b' (c + 1) ++ ext)⟩ : St).Le st')) (k : GOk C ops n base s xs ((fun b => g (S.map b)) :: D) os sss cls Ss E) :
      GOk C ops n base s xs D (o :: os) (ss :: sss) (some (m, c) :: cls) (S :: Ss) ((fun b => g (S.map b)) :: E)
theorem needO_more {D E : List ORes} {s : List (Nat × DV)} : ∀ {ss : List (Nat ⊕ Nat)}, inlB D.length ss = true → needO (D ++ E) s ss = needO D s ss
  | [], _ => rfl
  | .inl j :: r, h => by
    simp only [inlB, List.all_cons, Bool.and_eq_true] at h
    have hj := Nat.le_of_ble_eq_true h.1
    simp only [needO, List.getElem?_append_left (show j < D.length from hj), needO_more (E := E) (s := s) (ss := r) h.2]
  | .inr t :: r, h => by
    simp only [inlB, List.all_cons, Bool.and_eq_true] at h
    simp only [needO, needO_more (E := E) (s := s) (ss := r) h.2]
theorem NeedG.eq {D : List (Ids → ORes)} {s : List (Nat × DV)} {b : Ids} : ∀ {ss : List (Nat ⊕ Nat)} {nd : List (Nat × DV)}, NeedG D s b ss nd → needO (D.reverse.map (fun r => r b)) s ss = nd
  | _, _, .nil => rfl
  | _, _, .inl (j := j) (r := r) k t d hk h h2 q => by
    have e : (D.reverse.map (fun r => r b))[j]? = some (some (t, d)) := by
      rw [List.getElem?_map, List.getElem?_reverse (by omega), show D.length - 1 - j = k by omega, h]
      simp [h2]
    simp only [needO, e, q.eq]
  | _, _, .inr d h q => by simp only [needO, h, q.eq]
/-- Operation i: its sources, its class, what it does. -/
theorem GOk.at {C : Ctx} {ops : Array Oper} {n : Nat} {base : DHeap} {s : List (Nat × DV)} {xs : List Chn} : ∀ {D E : List (Ids → ORes)} {os : List Oper} {sss : List (List (Nat ⊕ Nat))} {cls : List (Option (Nat × Nat))} {Ss : List (List Nat)}, GOk C ops n base s xs D os sss cls Ss E → ∀ (i : Nat) o, os[i]? = some o →
    ∃ (ss : List (Nat ⊕ Nat)) (cl : Option (Nat × Nat)) (r : Ids → ORes) (nd : Ids → List (Nat × DV)), sss[i]? = some ss ∧ cls[i]? = some cl ∧ E[i]? = some r ∧ (∀ b, needO ((D.reverse ++ E).map (fun r => r b)) s ss = nd b) ∧
      (cl = none → ∀ b rest ext, SOps C ops [o] ⟨n, nd b ++ rest, base ++ ext⟩ (fun st' => st' = ⟨n, (r b).toList ++ (nd b ++ rest), base ++ ext⟩)) ∧
      (∀ m c, cl = some (m, c) → ∃ x, xs[m]? = some x ∧ x.T[c]? = some (D.length + i) ∧ ∀ b rest ext, SOps C ops [o] ⟨n, nd b ++ rest, base ++ (x.X b c ++ ext)⟩ (fun st' => ∃ b', (∀ k, k ≠ D.length + i → b' k = b k) ∧ (⟨n, (r b').toList ++ (nd b ++ rest), base ++ (x.X b' (c + 1) ++ ext)⟩ : St).Le st'))
  | _, _, _, _, _, _, .nil, i, o, hi => by simp at hi
  | D, _, _, _, _, _, .pure (E := E) (ss := ss) S g (nd := nd) hj hn h k, 0, o, hi => by
    simp only [List.getElem?_cons_zero, Option.some.injEq] at hi
    subst hi
    refine ⟨ss, none, fun b => g (S.map b), nd, rfl, rfl, rfl, fun b => ?_, fun _ => h, fun m c e => by cases e⟩
    rw [List.map_append, needO_more (by simpa using hj)]
    exact (hn b).eq
  | D, _, _, _, _, _, .act (E := E) (ss := ss) (m := m) (c := c) (x := x) S g (nd := nd) hx hc hj hn h k, 0, o, hi => by
    simp only [List.getElem?_cons_zero, Option.some.injEq] at hi
    subst hi
    refine ⟨ss, some (m, c), fun b => g (S.map b), nd, rfl, rfl, rfl, fun b => ?_, (fun e => by cases e), fun m' c' e => ?_⟩
    · rw [List.map_append, needO_more (by simpa using hj)]
      exact (hn b).eq
    · simp only [Option.some.injEq, Prod.mk.injEq] at e
      obtain ⟨rfl, rfl⟩ := e
      exact ⟨x, hx, by simpa using hc, h⟩
  | D, _, _, _, _, _, .pure (E := E) S g hj hn h k, i + 1, o, hi => by
    obtain ⟨ss, cl, r', nd, h1, h2, h3, h4, h5, h6⟩ := k.at i o (by simpa using hi)
    refine ⟨ss, cl, r', nd, by simpa using h1, by simpa using h2, by simpa using h3, ?_, h5, ?_⟩
    · simpa using h4
    · simpa [Nat.add_assoc, Nat.add_comm 1 i] using h6
  | D, _, _, _, _, _, .act (E := E) S g hx hc hj hn h k, i + 1, o, hi => by
    obtain ⟨ss, cl, r', nd, h1, h2, h3, h4, h5, h6⟩ := k.at i o (by simpa using hi)
    refine ⟨ss, cl, r', nd, by simpa using h1, by simpa using h2, by simpa using h3, ?_, h5, ?_⟩
    · simpa using h4
    · simpa [Nat.add_assoc, Nat.add_comm 1 i] using h6
/-- The chains are chains; an operation is of at most one of them; what an operation yields hangs on names of such as it waits for. -/
def genB (l : List Oper) (ts : List (Option Nat)) (srcs : List (List (Nat ⊕ Nat))) (Ts : List (List Nat)) (cls : List (Option (Nat × Nat))) (Ss : List (List Nat)) (f : Nat) : Bool :=
  ordB l && distO ts && (Ts.all (fun T => distB T && T.all (fun x => Nat.blt x l.length) && (T.zip (T.drop 1)).all (fun p => memB (reqF l f p.2) p.1))) &&
  (l.zipIdx).all (fun p => match srcs[p.2]? with
    | some ss => ss.all (srcO l ts p.2 p.1)
    | none => true) &&
  (List.range l.length).all (fun i => match cls[i]? with
    | some (some (m, _)) => (Ts.zipIdx).all (fun p => Nat.beq p.2 m || !memB p.1 i)
    | some none => Ts.all (fun T => !memB T i)
    | none => false) &&
  (l.zipIdx).all (fun p => match Ss[p.2]? with
    | some S => S.all (fun k => Nat.beq k p.2 || afterB p.1 k)
    | none => false)
theorem chnH_congr {L L' : Nat → Bool} {b b' : Ids} : ∀ {xs : List Chn}, (∀ x ∈ xs, Chn.at L b x = Chn.at L' b' x) → chnH L b xs = chnH L' b' xs := fun {xs} h => by
  unfold chnH
  rw [List.map_congr_left h]
theorem chnH_out {L : Nat → Bool} {b : Ids} : ∀ {xs : List Chn} {m : Nat} {x : Chn}, xs[m]? = some x → (chnH L b xs).Perm (Chn.at L b x ++ chnH L b (xs.eraseIdx m))
  | [], _, _, h => by simp at h
  | y :: xs, 0, x, h => by
    simp only [List.getElem?_cons_zero, Option.some.injEq] at h
    subst h
    exact .refl _
  | y :: xs, m + 1, x, h => by
    have := chnH_out (L := L) (b := b) (xs := xs) (m := m) (by simpa using h)
    show (Chn.at L b y ++ chnH L b xs).Perm (Chn.at L b x ++ (Chn.at L b y ++ chnH L b (xs.eraseIdx m)))
    refine (this.append_left _).trans ?_
    rw [← List.append_assoc, ← List.append_assoc]
    exact List.Perm.append_right _ List.perm_append_comm
theorem mem_eraseIdx_ne {α : Type} {xs : List α} {m : Nat} {y : α} (h : y ∈ xs.eraseIdx m) : ∃ j, j ≠ m ∧ xs[j]? = some y := by
  rw [List.mem_eraseIdx_iff_getElem?] at h
  exact h
theorem GOk.dep {C : Ctx} {ops : Array Oper} {n : Nat} {base : DHeap} {s : List (Nat × DV)} {xs : List Chn} {D E : List (Ids → ORes)} {os : List Oper} {sss : List (List (Nat ⊕ Nat))} {cls : List (Option (Nat × Nat))} {Ss : List (List Nat)} (h : GOk C ops n base s xs D os sss cls Ss E) :
    E.length = os.length ∧ ∀ (j : Nat) r S, E[j]? = some r → Ss[j]? = some S → ∀ b b', (∀ k ∈ S, b k = b' k) → r b = r b' := by
  induction h with
  | nil => exact ⟨rfl, fun j r S h => by simp at h⟩
  | pure S g _ _ _ _ ih =>
    refine ⟨by simp [ih.1], fun j r S' h1 h2 b b' hb => ?_⟩
    cases j with
    | zero =>
      simp only [List.getElem?_cons_zero, Option.some.injEq] at h1 h2
      subst h1; subst h2
      show g (S.map b) = g (S.map b')
      rw [List.map_congr_left hb]
    | succ j => exact ih.2 j r S' (by simpa using h1) (by simpa using h2) b b' hb
  | act S g _ _ _ _ _ _ ih =>
    refine ⟨by simp [ih.1], fun j r S' h1 h2 b b' hb => ?_⟩
    cases j with
    | zero =>
      simp only [List.getElem?_cons_zero, Option.some.injEq] at h1 h2
      subst h1; subst h2
      show g (S.map b) = g (S.map b')
      rw [List.map_congr_left hb]
    | succ j => exact ih.2 j r S' (by simpa using h1) (by simpa using h2) b b' hb
theorem SCode.drawGen {C : Ctx} {id : Nat} {l : List Oper} {n : Nat} {s : List (Nat × DV)} {H : DHeap} {Q : Exit → St → Prop} {D : List (Ids → ORes)} (hm : C.P.follows .mixedOrders = true) (f : Nat) (ts : List (Option Nat)) (srcs : List (List (Nat ⊕ Nat))) (cls : List (Option (Nat × Nat))) (Ss : List (List Nat)) (base : DHeap) (xs : List Chn)
    (hB : genB l ts srcs (xs.map (·.T)) cls Ss f = true) (hH : ∀ b, (base ++ (xs.map (fun x => x.X b 0)).flatten).Perm H)
    (hops : GOk C l.toArray n base s xs [] l srcs cls Ss D) (hts : ∀ b, D.map (fun r => (r b).map (·.1)) = ts)
    (hQ : ∀ b, Q .normal ⟨n, resO (D.map (fun r => r b)) ++ s, base ++ (xs.map (fun x => x.X b x.T.length)).flatten⟩) : SCode C (.region id l.toArray true) ⟨n, s, H⟩ Q := by
  obtain ⟨hDl, hS⟩ := hops.dep
  have hX : ∀ x ∈ xs, ∀ b b', (∀ k ∈ x.T, b k = b' k) → ∀ c, x.X b c = x.X b' c := fun x _ b b' h c => by unfold Chn.X; rw [List.map_congr_left h]
  simp only [genB, Bool.and_eq_true, List.all_eq_true] at hB
  obtain ⟨⟨⟨⟨⟨hord, hdist⟩, hTs⟩, hsrc⟩, hcls⟩, hSs⟩ := hB
  have hdB : ∀ b, distO ((D.map (fun r => r b)).map (fun x => x.map (·.1))) = true := fun b => by
    have := hts b
    rw [List.map_map, show ((fun x : ORes => x.map (·.1)) ∘ fun r : Ids → ORes => r b) = (fun r => (r b).map (·.1)) from rfl, this]; exact hdist
  have hlen : ∀ i o, l[i]? = some o → ∃ r, D[i]? = some r := fun i o hi => by
    obtain ⟨_, _, r, _, _, _, h, _⟩ := hops.at i o hi
    exact ⟨r, h⟩
  have hT : ∀ x ∈ xs, x.T.Nodup ∧ (∀ y ∈ x.T, y < l.length) ∧ ∀ (j : Nat) u v, x.T[j]? = some u → x.T[j + 1]? = some v → u ∈ reqF l f v := fun x hx => by
    have := hTs x.T (List.mem_map.2 ⟨x, hx, rfl⟩)
    obtain ⟨⟨h1, h2⟩, h3⟩ := this
    refine ⟨distB_spec _ h1, fun y hy => by simpa using h2 y hy, fun j u v hu hv => ?_⟩
    have := h3 (u, v) (by
      rw [List.mem_iff_getElem?]
      refine ⟨j, ?_⟩
      rw [List.getElem?_zip_eq_some]
      exact ⟨hu, by rw [List.getElem?_drop, Nat.add_comm]; exact hv⟩)
    exact memB_iff.1 this
  refine SCode.drawAny hm hord (fun L st' => ∃ b, (⟨n, pickO L 0 (D.map (fun r => r b)) s, base ++ chnH L b xs⟩ : St).Le st') ?_ ?_ ?_
  · refine ⟨fun _ => 0, ?_⟩
    rw [pickO_false]
    refine ⟨rfl, fun t d h => .inl h, H, ?_, .refl _⟩
    have e : chnH (fun _ => false) (fun _ => 0) xs = (xs.map (fun x => x.X (fun _ => 0) 0)).flatten := by
      unfold chnH Chn.at
      congr 1
      refine List.map_congr_left (fun x _ => ?_)
      rw [show cntL (fun _ => false) x.T = 0 by simp [cntL]]
    show (base ++ chnH (fun _ => false) (fun _ => 0) xs).Perm H
    rw [e]; exact hH _
  · intro L st' i o hi hLi hinv haft hbef hcl
    obtain ⟨b, hle⟩ := hinv
    have hil := (List.getElem?_eq_some_iff.1 hi).1
    obtain ⟨ss, cl, r, nd, h1, h2, h3, h4, h5, h6⟩ := hops.at i o hi
    have hreq : ∀ x ∈ reqF l f i, L x = true := fun x hx => by
      cases f with
      | zero => simp [reqF] at hx
      | succ f =>
        simp only [reqF, hi] at hx
        rcases List.mem_append.1 hx with hx | hx
        · exact haft x (by simpa using (List.mem_filter.1 hx).2)
        · obtain ⟨js, hjs, hjx⟩ := List.mem_flatten.1 hx
          obtain ⟨y, hy, rfl⟩ := List.mem_map.1 hjs
          exact reqF_spec hcl f y (haft y (by simpa using (List.mem_filter.1 hy).2)) x hjx
    refine SOps.weaken hle ?_
    have hneed : ∀ t d, getL (nd b) t = some d → getL (pickO L 0 (D.map (fun r => r b)) s) t = some d := by
      have hn := h4 b
      simp only [List.reverse_nil, List.nil_append] at hn
      have hchk := hsrc (o, i) (by rw [List.mem_iff_getElem?]; exact ⟨i, by simp [List.getElem?_zipIdx, hi]⟩)
      simp only [h1, List.all_eq_true] at hchk
      rw [← hn]
      have key : ∀ (ss : List (Nat ⊕ Nat)), (∀ x ∈ ss, srcO l ts i o x = true) → ∀ t d, getL (needO (D.map (fun r => r b)) s ss) t = some d → getL (pickO L 0 (D.map (fun r => r b)) s) t = some d := by
        intro ss
        induction ss with
        | nil => intro _ t d h; simp [needO, getL] at h
        | cons x ss ih =>
          intro hx t d h
          have ih' := ih (fun y hy => hx y (List.mem_cons_of_mem _ hy)) t d
          have hx0 := hx x (List.mem_cons_self ..)
          cases x with
          | inl j =>
            simp only [srcO] at hx0
            simp only [needO] at h
            split at h
            · rename_i q hq
              rw [getL_cons] at h
              split at h
              · rename_i e
                subst e
                obtain rfl := Option.some.inj h
                exact pickO_some _ 0 j s q (hdB b) hq (by simpa using haft j hx0)
              · exact ih' h
            · exact ih' h
          | inr u =>
            simp only [srcO, List.all_eq_true] at hx0
            simp only [needO] at h
            split at h
            · rename_i q hq
              rw [getL_cons] at h
              split at h
              · rename_i e
                simp only at e
                subst e
                obtain rfl := Option.some.inj h
                rw [pickO_none _ 0 s (fun k p hk hp => ?_)]
                · exact hq
                · have h4 := hx0 (some p.1, k) (by
                    rw [List.mem_iff_getElem?]
                    refine ⟨k, ?_⟩
                    rw [← hts b, List.getElem?_zipIdx]
                    simp only [List.getElem?_map] at hk ⊢
                    cases hD : D[k]? with
                    | none => rw [hD] at hk; simp at hk
                    | some rr => rw [hD] at hk; simp at hk; simp [hk])
                  simp only [hp, BEq.rfl, Bool.not_true, Bool.false_or, Bool.or_eq_true] at h4
                  rw [Nat.zero_add]
                  rcases h4 with h4 | h4
                  · rw [Nat.eq_of_beq_eq_true h4]; exact hLi
                  · unfold nthB at h4
                    split at h4
                    · rename_i o' ho'
                      exact hbef k o' ho' h4
                    · cases h4
              · exact ih' h
            · exact ih' h
      exact key ss hchk
    have hnl : ∀ t, getL (nd b ++ pickO L 0 (D.map (fun r => r b)) s) t = getL (pickO L 0 (D.map (fun r => r b)) s) t := by
      intro t
      have : ∀ (nd : List (Nat × DV)), (∀ d, getL nd t = some d → getL (pickO L 0 (D.map (fun r => r b)) s) t = some d) → getL (nd ++ pickO L 0 (D.map (fun r => r b)) s) t = getL (pickO L 0 (D.map (fun r => r b)) s) t := by
        intro nd
        induction nd with
        | nil => intro _; rfl
        | cons q nd ih =>
          intro h
          rw [List.cons_append, getL_cons]
          split
          · rename_i e
            exact (h q.2 (by rw [getL_cons, if_pos e])).symm
          · rename_i e
            exact ih (fun d hd => h d (by rw [getL_cons, if_neg e]; exact hd))
      exact this (nd b) (hneed t)
    have hDi : ∀ b, (D.map (fun r => r b))[i]? = some (r b) := fun b => by simp [h3]
    -- what is known of the slots behind the operation
    have hslots : ∀ b', (∀ k, k ≠ i → b' k = b k) → ∀ t d, getL (pickO (fun k => if k = i then true else L k) 0 (D.map (fun r => r b')) s) t = some d → getL ((r b').toList ++ (nd b ++ pickO L 0 (D.map (fun r => r b)) s)) t = some d := by
      intro b' hb' t d ht
      have hcase : (∃ p, r b' = some p ∧ p.1 = t) ∨ (∀ p, r b' = some p → p.1 ≠ t) := by
        cases hr : r b' with
        | none => exact .inr (fun p h => by cases h)
        | some p =>
          by_cases e : p.1 = t
          · exact .inl ⟨p, rfl, e⟩
          · exact .inr (fun q h => by cases h; exact e)
      rcases hcase with ⟨p, hp, e⟩ | hne
      · subst e
        rw [hp]
        simp only [Option.toList_some, List.singleton_append]
        rw [getL_cons, if_pos rfl]
        rw [pickO_some _ 0 i s p (hdB b') (by rw [hDi, hp]) (by simp)] at ht
        exact ht
      · have e1 : getL ((r b').toList ++ (nd b ++ pickO L 0 (D.map (fun r => r b)) s)) t = getL (nd b ++ pickO L 0 (D.map (fun r => r b)) s) t := by
          cases hr : r b' with
          | none => rfl
          | some p => simp only [Option.toList_some, List.singleton_append]; rw [getL_cons, if_neg (hne p hr)]
        rw [e1, hnl, ← ht]
        refine pickO_set _ _ 0 (by simp) (fun k hk hLk => ?_) (fun k p hk hki => ?_) (fun k p hk hki => ?_)
        · rw [Nat.zero_add] at hk hLk
          simp only [List.getElem?_map]
          cases hDk : D[k]? with
          | none => rfl
          | some rr =>
            simp only [Option.map_some]
            congr 1
            have hkl : k < l.length := by
              rcases Nat.lt_or_ge k l.length with h | h
              · exact h
              · exfalso
                have hlt := (List.getElem?_eq_some_iff.1 hDk).1
                omega
            have hSk := hSs (l[k], k) (by rw [List.mem_iff_getElem?]; exact ⟨k, by simp [List.getElem?_zipIdx, hkl]⟩)
            cases hS' : Ss[k]? with
            | none => rw [hS'] at hSk; cases hSk
            | some S =>
              rw [hS'] at hSk
              simp only [List.all_eq_true, Bool.or_eq_true] at hSk
              refine hS k rr S hDk hS' b' b (fun u hu => hb' u (fun e => ?_))
              subst e
              rcases hSk u hu with h7 | h7
              · exact hk (Nat.eq_of_beq_eq_true h7).symm
              · rw [hcl k _ u (List.getElem?_eq_getElem hkl) hLk h7] at hLi; cases hLi
        · have : k = i := by omega
          subst this
          rw [hDi] at hk
          exact hne p (Option.some.inj hk)
        · have : k = i := by omega
          subst this
          have hb1 := hts b
          have hb2 := hts b'
          have := congrArg (fun x => x[k]?) (hb1.trans hb2.symm)
          simp only [List.getElem?_map, h3, Option.map_some, Option.some.injEq] at this
          rw [hDi] at hk
          rw [Option.some.inj hk] at this
          simp only [Option.map_some] at this
          obtain ⟨q, hq, e⟩ := Option.map_eq_some_iff.1 this.symm
          rw [← e]
          exact hne q hq
    have hci := hcls i (List.mem_range.2 hil)
    rw [h2] at hci
    cases cl with
    | none =>
      simp only [List.all_eq_true] at hci
      have hsame : ∀ x ∈ xs, Chn.at (fun k => if k = i then true else L k) b x = Chn.at L b x := fun x hx => by
        unfold Chn.at
        rw [cnt_set hLi x.T (hT x hx).1]
        have := hci x.T (List.mem_map.2 ⟨x, hx, rfl⟩)
        rw [if_neg (fun hm => by rw [memB_iff.2 hm] at this; cases this), Nat.add_zero]
      refine SOps.weaken (st' := ⟨n, nd b ++ pickO L 0 (D.map (fun r => r b)) s, base ++ chnH L b xs⟩) ⟨rfl, fun t d ht => .inl ((hnl t).symm.trans ht), _, .refl _, .refl _⟩ ((h5 rfl b (pickO L 0 (D.map (fun r => r b)) s) (chnH L b xs)).mono ?_)
      rintro st2 rfl
      exact ⟨b, rfl, fun t d ht => .inl (hslots b (fun _ _ => rfl) t d ht), _, by rw [chnH_congr hsame], .refl _⟩
    | some mc =>
      obtain ⟨m, c⟩ := mc
      obtain ⟨x, hx, hc, hstep⟩ := h6 m c rfl
      simp only [List.length_nil, Nat.zero_add] at hc hstep
      simp only [List.all_eq_true] at hci
      have hxm := List.mem_of_getElem? hx
      obtain ⟨t1, t2, t3⟩ := hT x hxm
      have hpre := cnt_prefix (L := L) x.T (fun j u v hu hv hLv => reqF_spec hcl f v hLv u (t3 j u v hu hv))
      have hcnt : cntL L x.T = c := by
        have h7 := hpre c i hc
        have h8 : ¬ c < cntL L x.T := fun h => by rw [h7.2 h] at hLi; cases hLi
        rcases Nat.eq_zero_or_pos c with h0 | h0
        · omega
        · have hlt := (List.getElem?_eq_some_iff.1 hc).1
          have h9 := t3 (c - 1) _ i (List.getElem?_eq_getElem (by omega)) (by rw [show c - 1 + 1 = c by omega]; exact hc)
          have := (hpre (c - 1) _ (List.getElem?_eq_getElem (by omega))).1 (hreq _ h9)
          omega
      have hmem : i ∈ x.T := List.mem_of_getElem? hc
      have hnot : ∀ j y, j ≠ m → xs[j]? = some y → i ∉ y.T := fun j y hj hy hm => by
        have := hci (y.T, j) (by
          rw [List.mem_iff_getElem?]
          exact ⟨j, by rw [List.getElem?_zipIdx, List.getElem?_map, hy]; simp⟩)
        simp only [Bool.or_eq_true] at this
        rcases this with h | h
        · exact hj (Nat.eq_of_beq_eq_true h)
        · rw [memB_iff.2 hm] at h; cases h
      have hat : Chn.at L b x = x.X b c := by unfold Chn.at; rw [hcnt]
      have hp := chnH_out (L := L) (b := b) hx
      rw [hat] at hp
      refine SOps.weaken (st' := ⟨n, nd b ++ pickO L 0 (D.map (fun r => r b)) s, base ++ (x.X b c ++ chnH L b (xs.eraseIdx m))⟩) ⟨rfl, fun t d ht => .inl ((hnl t).symm.trans ht), _, List.Perm.append_left _ hp.symm, .refl _⟩ ((hstep b (pickO L 0 (D.map (fun r => r b)) s) (chnH L b (xs.eraseIdx m))).mono ?_)
      rintro st2 ⟨b', hb', hle2⟩
      refine ⟨b', hle2.n, fun t d ht => ?_, ?_⟩
      · exact hle2.slots t d (hslots b' hb' t d ht)
      · obtain ⟨l2, p1, p2⟩ := hle2.heap
        refine ⟨l2, ?_, p2⟩
        refine List.Perm.trans ?_ p1
        have hp' := chnH_out (L := fun k => if k = i then true else L k) (b := b') hx
        have hat' : Chn.at (fun k => if k = i then true else L k) b' x = x.X b' (c + 1) := by
          unfold Chn.at
          rw [cnt_set hLi x.T t1, if_pos hmem, hcnt]
        have hrest : chnH (fun k => if k = i then true else L k) b' (xs.eraseIdx m) = chnH L b (xs.eraseIdx m) := chnH_congr (fun y hy => by
          obtain ⟨j, hj, hyj⟩ := mem_eraseIdx_ne hy
          have hni := hnot j y hj hyj
          have hym := List.mem_of_getElem? hyj
          unfold Chn.at
          rw [cnt_set hLi y.T (hT y hym).1, if_neg hni, Nat.add_zero]
          exact hX y hym b' b (fun k hk => hb' k (fun e => hni (e ▸ hk))) _)
        rw [hat', hrest] at hp'
        exact List.Perm.append_left _ hp'
  · intro L st' hall hinv
    obtain ⟨b, hle⟩ := hinv
    have e : chnH L b xs = (xs.map (fun x => x.X b x.T.length)).flatten := by
      unfold chnH Chn.at
      congr 1
      refine List.map_congr_left (fun x hx => ?_)
      have : cntL L x.T = x.T.length := by
        unfold cntL
        rw [List.filter_eq_self.2 (fun y hy => hall y ((hT x hx).2.1 y hy))]
      rw [this]
    rw [pickO_all _ 0 (fun k _ hk => hall k (by simp at hk; omega)), e] at hle
    exact ⟨_, hle, hQ b⟩
theorem SCode.drawG {C : Ctx} {id : Nat} {l : List Oper} {n : Nat} {s : List (Nat × DV)} {H : DHeap} {Q : Exit → St → Prop} {D : List (Ids → ORes)} (f : Nat) (ts : List (Option Nat)) (srcs : List (List (Nat ⊕ Nat))) (Ts : List (List Nat)) (cls : List (Option (Nat × Nat))) (Ss : List (List Nat)) (base : DHeap) (xs : List Chn) (hm : C.P.follows .mixedOrders = true)
    (hB : genB l ts srcs Ts cls Ss f = true) (hT : xs.map (·.T) = Ts) (hH : ∀ b, (base ++ (xs.map (fun x => x.X b 0)).flatten).Perm H)
    (hops : GOk C l.toArray n base s xs [] l srcs cls Ss D) (hts : ∀ b, D.map (fun r => (r b).map (·.1)) = ts)
    (hQ : ∀ b, Q .normal ⟨n, resO (D.map (fun r => r b)) ++ s, base ++ (xs.map (fun x => x.X b x.T.length)).flatten⟩) : SCode C (.region id l.toArray true) ⟨n, s, H⟩ Q :=
  SCode.drawGen hm f ts srcs cls Ss base xs (by rw [hT]; exact hB) hH hops hts hQ
theorem GOk.rd {C : Ctx} {ops : Array Oper} {n : Nat} {base : DHeap} {s : List (Nat × DV)} {xs : List Chn} {D E : List (Ids → ORes)} {o : Oper} {os : List Oper} {ss : List (Nat ⊕ Nat)} {sss : List (List (Nat ⊕ Nat))} {cls : List (Option (Nat × Nat))} {Ss : List (List Nat)} (t : Nat) (d : DV) {nd : Ids → List (Nat × DV)} (hj : inlB D.length ss = true) (hn : ∀ b, NeedG D s b ss (nd b))
    (h : ∀ b rest ext, SOps C ops [o] ⟨n, nd b ++ rest, base ++ ext⟩ (fun st' => st' = ⟨n, (t, d) :: (nd b ++ rest), base ++ ext⟩)) (k : GOk C ops n base s xs ((fun _ => some (t, d)) :: D) os sss cls Ss E) :
    GOk C ops n base s xs D (o :: os) (ss :: sss) (none :: cls) ([] :: Ss) ((fun _ => some (t, d)) :: E) :=
  GOk.pure [] (fun _ => some (t, d)) hj hn h k
end Go.GH
namespace Go.GH
open Go Go.RowKit

section
variable {C : Ctx} {E : Env} {base : Base} {F : Nat → Prop} {st : St} {a : Act} {w : World} {ops : Array Oper} {rest : List Oper} {R : St → Prop}
  {t : Tmp} {ty : TypeId} {pos : String} {aft : Array Edge} {g : Option (Nat × Bool)}

end
end Go.GH
namespace Go.GH
open Go Go.RowKit
section
variable {C : Ctx} {E : Env} {base : Base} {F : Nat → Prop} {st : St} {a : Act} {w : World} {ops : Array Oper} {rest : List Oper} {R : St → Prop}
  {t : Tmp} {ty : TypeId} {pos : String} {aft : Array Edge} {g : Option (Nat × Bool)}
end
theorem SCode.drawAuto1 {C : Ctx} {id : Nat} {l : List Oper} {n : Nat} {s : List (Nat × DV)} {H : DHeap} {Q : Exit → St → Prop} {E : List (Nat × DV)} {o : Oper} (m f : Nat) (hm : C.P.follows .mixedOrders = true) (ts : List Nat) (srcs : List (List (Nat ⊕ Nat)))
    (hB : drawB (l.take m) ts srcs = true) (hd : distB ts = true) (hord : ordB l = true) (hseq : seqB l m f = true) (hml : (l.take m).length = m) (hl : l.drop m = [o]) (hops : DOk C l.toArray n H s [] (l.take m) srcs E) (hts : E.map (·.1) = ts)
    (hQ : SOps C l.toArray [o] ⟨n, E ++ s, H⟩ (fun st => Q .normal st)) : SCode C (.region id l.toArray true) ⟨n, s, H⟩ Q :=
  SCode.drawSeqAt m (fun st => Q .normal st) f hm E ts srcs _ hts hB hd hord hseq hml rfl hops.ops
    (by rw [hl]; exact .cons (fun st hle => SOps.weaken hle hQ) .nil) (fun st h => ⟨st, ⟨rfl, fun t d h => .inl h, _, .refl _, List.Sublist.refl _⟩, h⟩)
end Go.GH
namespace Go.GH
open Go Go.RowKit
section
variable {C : Ctx} {st : St} {ops : Array Oper} {R : St → Prop} {t : Tmp}
theorem SOps.rowNil {l : List Oper} (i k j s2 : Nat) {b elem sz : Nat} {rows : List (List DV)} {row : List DV} (hi : st.heap[i]? = some (b, .row elem sz rows)) (hk : rows[k]? = some row) (hj : row[j]? = some (.v (.slice none 0 0)))
    (h : SOps C ops l ⟨st.n, st.slots, st.heap.set i (b, .row elem sz (rows.set k (row.set j (.isl false s2 []))))⟩ R) : SOps C ops l st R := by
  intro base ok a w ⟨F, hs⟩
  have hT := (hs.heap _ (List.mem_of_getElem? hi)).2.2
  refine h base ok a w ⟨_, hs.write (w' := w) hi (Step.refl _ _) ?_⟩
  obtain ⟨cs, k1, k2, k3, k4⟩ := hT
  have hkl := (List.getElem?_eq_some_iff.1 hk).1
  refine ⟨cs, k1, by simpa using k2, by simpa using k3, fun q e hq => ?_⟩
  rw [List.getElem?_set] at hq
  split at hq
  · rename_i hkq
    subst hkq
    obtain rfl := Option.some.inj hq
    obtain ⟨m1, m2⟩ := k4 _ _ hk
    refine ⟨by simpa using m1, fun u d hd => ?_⟩
    rw [List.getElem?_set] at hd
    split at hd
    · rename_i hju
      subst hju
      split at hd
      · obtain rfl := Option.some.inj hd
        obtain ⟨x, hx, hone, hr⟩ := m2 _ _ hj
        exact ⟨x, hx, hone, nil_isl hr⟩
      · cases hd
    · exact m2 _ _ hd
  · exact k4 _ _ hq
end
end Go.GH
namespace Go.GH
open Go Go.Proofs
variable {E : Env}
theorem elemB_28_2_8 : elemB Tryd.prog 28 2 8 = true := by kernel_rfl
theorem placesB_28 : placesB Tryd.prog 28 [(0, 1), (1, 1)] = true := by kernel_rfl
theorem aIndices (a : List Letter)  : GCall Tryd.prog E 57 [DLs a] [] (fun d H => d = DMap a ∧ H = []) := by
  refine GCall.body (C := ⟨Tryd.prog, E, true⟩) Tryd.func57 rfl (fun _ => rfl) (by kernel_rfl) rfl ?_
  refine SCode.seqR ?_
  refine SOps.assign rfl ?_
  refine SOps.nil ?_
  refine SCode.seqR ?_
  refine SOps.move rfl ?_
  refine SOps.lenM rfl sliceB_22_28_2 ?_
  refine SOps.makeMapN mapB_89 rfl (fun b0 hb_0 => ?_)
  refine SOps.assign rfl ?_
  refine SOps.nil ?_
  refine SCode.seq ?_
  refine SCode.seqR ?_
  refine SOps.move rfl ?_
  refine SOps.lenM rfl sliceB_22_28_2 ?_
  refine SOps.move rfl ?_
  refine SOps.nil ?_
  refine SCode.block ?_
  refine SCode.loop3 (fun (i : Nat) (es : List (Int × Nat)) (b : Nat) => (⟨33, [(0, DLs a), (2, .v (.map none)), (3, .mp b), (11, DLs a), (12, .v (.int .i64 (a.length : Int))), (13, .v (.int .i64 (i : Int)))], [(b, .map (es.map encE))]⟩ : St)) (fun (i : Nat) (es : List (Int × Nat)) (b : Nat) => i ≤ a.length ∧ mapFrom (a.drop i) i es = mapOf a) (fun (i : Nat) (es : List (Int × Nat)) (b : Nat) => a.length - i) (0) ([]) (b0) (by exact ⟨by omega, by rw [List.drop_zero]; rfl⟩) (St.Le.of ⟨(by first | rfl | (show some _ = some _; simp)), (by first | rfl | (show some _ = some _; simp)), (by first | rfl | (show some _ = some _; simp)), (by first | rfl | (show some _ = some _; simp)), (by first | rfl | (show some _ = some _; simp)), (by first | rfl | (show some _ = some _; simp)), trivial⟩ rfl (by first | rfl | (simp))) ?_
  rintro i es b ⟨hi, hm⟩
  refine SCode.fact (isl_len (t := 0) rfl) (fun hB => ?_)
  simp only [List.length_map, lenB] at hB
  refine SCode.seqR ?_
  refine SOps.bin rfl rfl rfl ?_
  refine SOps.nil ?_
  refine SCode.seq ?_
  refine SCode.cond rfl (fun hc1 => ?_) (fun hc1 => ?_)
  · try simp only [nmL] at hc1
    refine SCode.skip ?_
    show SCode _ _ _ _
    refine SCode.seq ?_
    refine SCode.block ?_
    refine SCode.seqR ?_
    refine SOps.move rfl ?_
    refine SOps.indexM (i) rfl rfl sliceB_22_28_2 (by omega) (by omega) ?_
    refine SOps.loadPinA rfl aggB_28_2 (Nat.le_of_ble_eq_true rfl) ?_
    refine SOps.alloc (sz := 2) zeroIs_28 (fun b1 hb_1 => ?_)
    refine SOps.assign rfl ?_
    refine SOps.storeAM 0 rfl rfl aggB_28_2 rfl ?_
    refine SOps.freezeRef (t := 5) 0 0 rfl rfl rfl rfl rfl ?_
    refine SOps.nil ?_
    refine SCode.seqR ?_
    refine SOps.move rfl ?_
    refine SOps.fieldPin rfl fieldB_28_0_0 ?_
    refine SOps.loadPin rfl flatB_21 ?_
    refine SOps.lookupOM 0 (findE es (a[i]).rune) (fun i => DV.v (.int .i64 ((i : Nat) : Int))) rfl rfl rfl mapB_89 (keys_enc _) zeroIs_3 (lookup_enc _ _) (fun y2 hy2 => ?_) (fun hy2 => ?_)
    · have hfe : es.any (·.1 == (a[i]).rune) = true := by cases h : es.any (·.1 == (a[i]).rune) with | true => rfl | false => rw [findE_none.2 h] at hy2; cases hy2
      refine SOps.move rfl ?_
      refine SOps.extract rfl rfl ?_
      refine SOps.extract rfl rfl ?_
      refine SOps.assign rfl ?_
      refine SOps.assign rfl ?_
      refine SOps.nil ?_
      refine SCode.seqR ?_
      refine SOps.move rfl ?_
      refine SOps.un rfl rfl ?_
      refine SOps.nil ?_
      refine SCode.cond rfl (fun h => by cases h) (fun _ => ?_)
      refine SCode.skip ?_
      show SCode _ _ _ _
      refine SCode.region ?_
      refine SOps.addI rfl rfl (by omega) (by omega) ?_
      refine SOps.move rfl ?_
      refine SOps.nil ?_
      first
        | exact ⟨i + 1, _, b, ⟨by omega, by rw [← hm, mapFrom_step (show i < a.length by omega)]⟩, by omega, St.Le.of ⟨rfl, rfl, rfl, rfl, rfl, rfl, trivial⟩ rfl (congrArg (fun x => [(b, DO.map x)]) (upd_enc _ _ _ hfe).symm)⟩
        | exact ⟨i + 1, es, b, ⟨by omega, by rw [← hm, mapFrom_step (show i < a.length by omega), mapAdd, if_pos hfe]⟩, by omega, St.Le.of ⟨rfl, rfl, rfl, rfl, rfl, rfl, trivial⟩⟩
    · have hfe := hy2
      refine SOps.move rfl ?_
      refine SOps.extract rfl rfl ?_
      refine SOps.extract rfl rfl ?_
      refine SOps.assign rfl ?_
      refine SOps.assign rfl ?_
      refine SOps.nil ?_
      refine SCode.seqR ?_
      refine SOps.move rfl ?_
      refine SOps.un rfl rfl ?_
      refine SOps.nil ?_
      refine SCode.cond rfl (fun _ => ?_) (fun h => by cases h)
      refine SCode.region ?_
      refine SOps.move rfl ?_
      refine SOps.fieldPin rfl fieldB_28_0_0 ?_
      refine SOps.loadPin rfl flatB_21 ?_
      refine SOps.move rfl ?_
      refine SOps.mapUpdate 0 rfl rfl rfl rfl mapB_89 rfl (keys_enc _) ?_
      refine SOps.nil ?_
      show SCode _ _ _ _
      refine SCode.region ?_
      refine SOps.addI rfl rfl (by omega) (by omega) ?_
      refine SOps.move rfl ?_
      refine SOps.nil ?_
      first
        | exact ⟨i + 1, _, b, ⟨by omega, by rw [← hm, mapFrom_step (show i < a.length by omega)]⟩, by omega, St.Le.of ⟨rfl, rfl, rfl, rfl, rfl, rfl, trivial⟩ rfl (congrArg (fun x => [(b, DO.map x)]) (upd_enc _ _ _ hfe).symm)⟩
        | exact ⟨i + 1, es, b, ⟨by omega, by rw [← hm, mapFrom_step (show i < a.length by omega), mapAdd, if_pos hfe]⟩, by omega, St.Le.of ⟨rfl, rfl, rfl, rfl, rfl, rfl, trivial⟩⟩
  · try simp only [nmL] at hc1
    refine SCode.exit ?_
    show SCode _ _ _ _
    refine SCode.seqR ?_
    obtain rfl : es = mapOf a := by rw [← hm, List.drop_eq_nil_of_le (by omega)]; rfl
    refine SOps.freezeMap (t := 3) 0 rfl rfl rfl ?_
    refine SOps.move rfl ?_
    refine SOps.assign rfl ?_
    refine SOps.nil ?_
    refine SCode.drop ?_
    refine SCode.ret ?_
    exact ⟨_, Res.one (.tmp rfl), rfl, rfl⟩
theorem aIndex (a : List Letter) (r : Int)  : GCall Tryd.prog E 32 [DLs a, .v (.int .i32 r)] [] (fun d H => d = .v (.int .i64 (idxI a r)) ∧ H = []) := by
  refine GCall.body (C := ⟨Tryd.prog, E, true⟩) Tryd.func32 rfl (fun _ => rfl) (by kernel_rfl) rfl ?_
  refine SCode.seqR ?_
  refine SOps.assign rfl ?_
  refine SOps.nil ?_
  refine SCode.seq ?_
  refine SCode.seqR ?_
  refine SOps.move rfl ?_
  refine SOps.callP (aIndices _) rfl ?_
  rintro _ rfl
  refine SOps.move rfl ?_
  refine SOps.lookupIM (idx a r) (fun i => DV.v (.int .i64 ((i : Nat) : Int))) rfl rfl mapB_89 (keys_enc _) zeroIs_3 (lookup_mapOf _ _) (fun y1 hy1 => ?_) (fun hy1 => ?_)
  · refine SOps.move rfl ?_
    refine SOps.extract rfl rfl ?_
    refine SOps.extract rfl rfl ?_
    refine SOps.assign rfl ?_
    refine SOps.assign rfl ?_
    refine SOps.nil ?_
    refine SCode.seqR ?_
    refine SOps.move rfl ?_
    refine SOps.nil ?_
    refine SCode.cond rfl (fun _ => ?_) (fun h => by cases h)
    refine SCode.seqR ?_
    refine SOps.move rfl ?_
    refine SOps.assign rfl ?_
    refine SOps.nil ?_
    refine SCode.ret ?_
    exact ⟨_, Res.one (.tmp rfl), by rw [idxI_some hy1]; rfl, rfl⟩
  · refine SOps.move rfl ?_
    refine SOps.extract rfl rfl ?_
    refine SOps.extract rfl rfl ?_
    refine SOps.assign rfl ?_
    refine SOps.assign rfl ?_
    refine SOps.nil ?_
    refine SCode.seqR ?_
    refine SOps.move rfl ?_
    refine SOps.nil ?_
    refine SCode.cond rfl (fun h => by cases h) (fun _ => ?_)
    refine SCode.skip ?_
    show SCode _ _ _ _
    refine SCode.seqR ?_
    refine SOps.assign rfl ?_
    refine SOps.nil ?_
    refine SCode.ret ?_
    exact ⟨_, Res.one (.tmp rfl), by rw [idxI_none hy1], rfl⟩
theorem aValid (a : List Letter)  : GCall Tryd.prog E 31 [DLs a] [] (fun d H => d = .v (.bool (validA a)) ∧ H = []) := by
  refine GCall.body (C := ⟨Tryd.prog, E, true⟩) Tryd.func31 rfl (fun _ => rfl) (by kernel_rfl) rfl ?_
  refine SCode.seqR ?_
  refine SOps.assign rfl ?_
  refine SOps.nil ?_
  refine SCode.seq ?_
  refine SCode.seqR ?_
  refine SOps.move rfl ?_
  refine SOps.lenM rfl sliceB_22_28_2 ?_
  refine SOps.bin rfl rfl rfl ?_
  refine SOps.move rfl ?_
  refine SOps.caseB 8 rfl (fun hb1 => ?_) (fun hb1 => ?_)
  · try simp only [nmL] at hb1
    refine SOps.skip rfl ?_
    refine SOps.skip rfl ?_
    refine SOps.skip rfl ?_
    refine SOps.pick rfl rfl ?_
    refine SOps.nil ?_
    refine SCode.cond rfl (fun _ => ?_) (fun h => by cases h)
    refine SCode.seqR ?_
    refine SOps.assign rfl ?_
    refine SOps.nil ?_
    refine SCode.ret ?_
    exact ⟨_, Res.one (.tmp rfl), congrArg (fun b => DV.v (.bool b)) (Bool.eq_false_iff.2 (fun h => by have := (validA_iff.1 h).1; omega)).symm, rfl⟩
  · try simp only [nmL] at hb1
    refine SOps.move rfl ?_
    refine SOps.lenM rfl sliceB_22_28_2 ?_
    refine SOps.bin rfl rfl rfl ?_
    refine SOps.pick rfl rfl ?_
    refine SOps.nil ?_
    refine SCode.cond rfl (fun hc2 => ?_) (fun hc2 => ?_)
    · try simp only [nmL] at hc2
      refine SCode.seqR ?_
      refine SOps.assign rfl ?_
      refine SOps.nil ?_
      refine SCode.ret ?_
      exact ⟨_, Res.one (.tmp rfl), congrArg (fun b => DV.v (.bool b)) (Bool.eq_false_iff.2 (fun h => by have := (validA_iff.1 h).1; omega)).symm, rfl⟩
    · try simp only [nmL] at hc2
      refine SCode.skip ?_
      show SCode _ _ _ _
      refine SCode.seq ?_
      refine SCode.seqR ?_
      refine SOps.move rfl ?_
      refine SOps.lenM rfl sliceB_22_28_2 ?_
      refine SOps.move rfl ?_
      refine SOps.nil ?_
      refine SCode.block ?_
      refine SCode.loop1 (fun (i : Nat) => (⟨35, [(0, DLs a), (2, .v (.bool false)), (13, DLs a), (14, .v (.int .i64 (a.length : Int))), (15, .v (.int .i64 (i : Int)))], []⟩ : St)) (fun (i : Nat) => i ≤ a.length ∧ ∀ l ∈ a.take i, goodR l.rune = true) (fun (i : Nat) => a.length - i) (0) (by simp) (St.Le.of ⟨(by first | rfl | (show some _ = some _; simp)), (by first | rfl | (show some _ = some _; simp)), (by first | rfl | (show some _ = some _; simp)), (by first | rfl | (show some _ = some _; simp)), (by first | rfl | (show some _ = some _; simp)), trivial⟩ rfl (by first | rfl | (simp))) ?_
      rintro i ⟨hi, hf⟩
      refine SCode.fact (isl_len (t := 0) rfl) (fun hB => ?_)
      simp only [List.length_map, lenB] at hB
      refine SCode.seqR ?_
      refine SOps.bin rfl rfl rfl ?_
      refine SOps.nil ?_
      refine SCode.seq ?_
      refine SCode.cond rfl (fun hc3 => ?_) (fun hc3 => ?_)
      · try simp only [nmL] at hc3
        refine SCode.skip ?_
        show SCode _ _ _ _
        refine SCode.seq ?_
        refine SCode.block ?_
        refine SCode.seqR ?_
        refine SOps.indexM (i) rfl rfl sliceB_22_28_2 (by first | omega | (simp only [List.length_map, lenB]; exact Nat.le_trans (mapOf_len a) (by omega))) (by first | omega | (simp only [List.length_map, lenB]; exact Nat.le_trans (mapOf_len a) (by omega))) ?_
        refine SOps.loadPinA rfl aggB_28_2 (Nat.le_of_ble_eq_true rfl) ?_
        refine SOps.alloc (sz := 2) zeroIs_28 (fun b0 hb_0 => ?_)
        refine SOps.storeAM 0 rfl rfl aggB_28_2 rfl ?_
        refine SOps.freezeRef (t := 4) 0 0 rfl rfl rfl rfl rfl ?_
        refine SOps.nil ?_
        refine SCode.seqR ?_
        refine SOps.fieldPin rfl fieldB_28_0_0 ?_
        refine SOps.loadPin rfl flatB_21 ?_
        refine SOps.bin rfl rfl rfl ?_
        refine SOps.move rfl ?_
        refine SOps.caseB 22 rfl (fun hb4 => ?_) (fun hb4 => ?_)
        · try simp only [nmL] at hb4
          refine SOps.skip rfl ?_
          refine SOps.skip rfl ?_
          refine SOps.skip rfl ?_
          refine SOps.skip rfl ?_
          refine SOps.pick rfl rfl ?_
          refine SOps.nil ?_
          refine SCode.cond rfl (fun _ => ?_) (fun h => by cases h)
          refine SCode.seqR ?_
          refine SOps.assign rfl ?_
          refine SOps.nil ?_
          refine SCode.ret ?_
          exact ⟨_, Res.one (.tmp rfl), congrArg (fun b => DV.v (.bool b)) (Bool.eq_false_iff.2 (fun h => by have := goodR_split.1 ((validA_iff.1 h).2.1 _ (List.getElem_mem (show i < a.length by omega))); omega)).symm, rfl⟩
        · try simp only [nmL] at hb4
          refine SOps.fieldPin rfl fieldB_28_0_0 ?_
          refine SOps.loadPin rfl flatB_21 ?_
          refine SOps.callP (uValidRune _) rfl ?_
          rintro _ rfl
          refine SOps.un rfl rfl ?_
          refine SOps.pick rfl rfl ?_
          refine SOps.nil ?_
          refine SCode.cond rfl (fun hc5 => ?_) (fun hc5 => ?_)
          · try simp only [nmL] at hc5
            refine SCode.seqR ?_
            refine SOps.assign rfl ?_
            refine SOps.nil ?_
            refine SCode.ret ?_
            exact ⟨_, Res.one (.tmp rfl), congrArg (fun b => DV.v (.bool b)) (Bool.eq_false_iff.2 (fun h => by have := goodR_split.1 ((validA_iff.1 h).2.1 _ (List.getElem_mem (show i < a.length by omega))); rw [this.2] at hc5; cases hc5)).symm, rfl⟩
          · try simp only [nmL] at hc5
            refine SCode.skip ?_
            show SCode _ _ _ _
            refine SCode.region ?_
            refine SOps.addI rfl rfl (by first | omega | (simp only [List.length_map, lenB]; exact Nat.le_trans (mapOf_len a) (by omega))) (by first | omega | (simp only [List.length_map, lenB]; exact Nat.le_trans (mapOf_len a) (by omega))) ?_
            refine SOps.move rfl ?_
            refine SOps.nil ?_
            exact ⟨i + 1, by exact ⟨by omega, take_more hf (by omega) (goodR_split.2 ⟨hb4, hc5⟩)⟩, by omega, (St.Le.of ⟨(by first | rfl | (show some _ = some _; simp)), (by first | rfl | (show some _ = some _; simp)), (by first | rfl | (show some _ = some _; simp)), (by first | rfl | (show some _ = some _; simp)), (by first | rfl | (show some _ = some _; simp)), trivial⟩ rfl (by first | rfl | (simp)))⟩
      · try simp only [nmL] at hc3
        refine SCode.exit ?_
        show SCode _ _ _ _
        refine SCode.seqR ?_
        refine SOps.move rfl ?_
        refine SOps.callP (aIndices _) rfl ?_
        rintro _ rfl
        refine SOps.lenMapI rfl mapB_89 (by first | omega | (simp only [List.length_map, lenB]; exact Nat.le_trans (mapOf_len a) (by omega))) ?_
        refine SOps.move rfl ?_
        refine SOps.lenM rfl sliceB_22_28_2 ?_
        refine SOps.bin rfl rfl rfl ?_
        refine SOps.assign rfl ?_
        refine SOps.nil ?_
        refine SCode.ret ?_
        exact ⟨_, Res.one (.tmp rfl), congrArg (fun b => DV.v (.bool b)) (Eq.symm (by rw [Bool.eq_iff_iff, validA_iff']; simp only [beq_iff_eq, List.length_map]; exact ⟨fun h => by have := h.2.2; omega, fun h => ⟨⟨by omega, by omega⟩, all_of (by omega) hf, by omega⟩⟩)), rfl⟩
theorem aIsWord (hV : VS E) (a : List Letter) (s : ByteArray)  : GCall Tryd.prog E 67 [DLs a, .v (.string s)] [] (fun d H => d = .v (.bool (isWordA a s)) ∧ H = []) := by
  refine GCall.body (C := ⟨Tryd.prog, E, true⟩) Tryd.func67 rfl (fun _ => rfl) (by kernel_rfl) rfl ?_
  refine SCode.seqR ?_
  refine SOps.assign rfl ?_
  refine SOps.nil ?_
  refine SCode.seq ?_
  refine SCode.seqR ?_
  refine SOps.move rfl ?_
  refine SOps.callP (hV _) rfl ?_
  rintro _ rfl
  refine SOps.un rfl rfl ?_
  refine SOps.nil ?_
  refine SCode.cond rfl (fun hc1 => ?_) (fun hc1 => ?_)
  · try simp only [nmL] at hc1
    refine SCode.seqR ?_
    refine SOps.assign rfl ?_
    refine SOps.nil ?_
    refine SCode.ret ?_
    exact ⟨_, Res.one (.tmp rfl), congrArg (fun b => DV.v (.bool b)) (Eq.symm (by rw [isWordA, overA, hc1]; rfl)), rfl⟩
  · try simp only [nmL] at hc1
    refine SCode.skip ?_
    show SCode _ _ _ _
    refine SCode.seqR ?_
    refine SOps.move rfl ?_
    refine SOps.callP (aIndices _) rfl ?_
    rintro _ rfl
    refine SOps.assign rfl ?_
    refine SOps.assign rfl ?_
    refine SOps.nil ?_
    refine SCode.seq ?_
    refine SCode.seqR ?_
    refine SOps.move rfl ?_
    refine SOps.rangeStr rfl strB_9 (fun b0 hb_0 => ?_)
    refine SOps.nil ?_
    refine SCode.block ?_
    refine SCode.loop3 (fun (p : Nat) (n : Nat) (b : Nat) => (⟨33, [(1, .v (.string s)), (4, .v (.bool false)), (5, DMap a), (6, .v (.int .i64 (n : Int))), (17, .it b)], [(b, .iter s p)]⟩ : St)) (fun (p : Nat) (n : Nat) (b : Nat) => n ≤ p ∧ n + (runesAt s p).length = (runes s).length ∧ (runesAt s p).all (fun r => (idx a r).isSome) = (runes s).all (fun r => (idx a r).isSome)) (fun (p : Nat) (n : Nat) (b : Nat) => s.size - p) (0) (0) (b0) (by exact ⟨Nat.le_refl _, by rw [Nat.zero_add]; rfl, rfl⟩) (St.Le.of ⟨(by first | rfl | (show some _ = some _; simp)), (by first | rfl | (show some _ = some _; simp)), (by first | rfl | (show some _ = some _; simp)), (by first | rfl | (show some _ = some _; simp)), (by first | rfl | (show some _ = some _; simp)), trivial⟩ rfl (by first | rfl | (simp))) ?_
    rintro p n b ⟨hn, hl, hf⟩
    refine SCode.fact (v_scal (t := 1) rfl) (fun hS => ?_)
    simp only [scal, lenB] at hS
    refine SCode.seqR ?_
    refine SOps.next 0 rfl rfl (fun hn2 => ?_) (fun hn2 => ?_) (by first | omega | (simp only [lenB]; omega))
    · refine SOps.extract rfl rfl ?_
      refine SOps.nil ?_
      refine SCode.seq ?_
      refine SCode.cond rfl (fun _ => ?_) (fun h => by cases h)
      refine SCode.skip ?_
      show SCode _ _ _ _
      refine SCode.block ?_
      refine SCode.seqR ?_
      refine SOps.extract rfl rfl ?_
      refine SOps.assign rfl ?_
      refine SOps.nil ?_
      refine SCode.seq ?_
      refine SCode.seqR ?_
      refine SOps.move rfl ?_
      refine SOps.move rfl ?_
      refine SOps.lookupIM (idx a ((Utf8.decode s p).1 : Int)) (fun i => DV.v (.int .i64 ((i : Nat) : Int))) rfl rfl mapB_89 (keys_enc _) zeroIs_3 (lookup_mapOf _ _) (fun y3 hy3 => ?_) (fun hy3 => ?_)
      · refine SOps.move rfl ?_
        refine SOps.extract rfl rfl ?_
        refine SOps.extract rfl rfl ?_
        refine SOps.assign rfl ?_
        refine SOps.assign rfl ?_
        refine SOps.nil ?_
        refine SCode.seqR ?_
        refine SOps.move rfl ?_
        refine SOps.un rfl rfl ?_
        refine SOps.nil ?_
        refine SCode.cond rfl (fun h => by cases h) (fun _ => ?_)
        refine SCode.skip ?_
        show SCode _ _ _ _
        refine SCode.region ?_
        refine SOps.move rfl ?_
        refine SOps.addI rfl rfl (by first | omega | (simp only [lenB]; omega)) (by first | omega | (simp only [lenB]; omega)) ?_
        refine SOps.assign rfl ?_
        refine SOps.nil ?_
        exact ⟨p + (Utf8.decode s p).2, n + 1, b, by refine ⟨by have := decode_w s p; omega, by rw [← hl, runes_len_step hn2]; omega, ?_⟩; rw [← hf, runes_step hn2, hy3]; rfl, by have := decode_w s p; omega, (St.Le.of ⟨(by first | rfl | (show some _ = some _; simp)), (by first | rfl | (show some _ = some _; simp)), (by first | rfl | (show some _ = some _; simp)), (by first | rfl | (show some _ = some _; simp)), (by first | rfl | (show some _ = some _; simp)), trivial⟩ rfl (by first | rfl | (simp)))⟩
      · refine SOps.move rfl ?_
        refine SOps.extract rfl rfl ?_
        refine SOps.extract rfl rfl ?_
        refine SOps.assign rfl ?_
        refine SOps.assign rfl ?_
        refine SOps.nil ?_
        refine SCode.seqR ?_
        refine SOps.move rfl ?_
        refine SOps.un rfl rfl ?_
        refine SOps.nil ?_
        refine SCode.cond rfl (fun _ => ?_) (fun h => by cases h)
        refine SCode.seqR ?_
        refine SOps.assign rfl ?_
        refine SOps.nil ?_
        refine SCode.drop ?_
        refine SCode.ret ?_
        exact ⟨_, Res.one (.tmp rfl), congrArg (fun b => DV.v (.bool b)) (Eq.symm (by rw [isWordA, overA, ← hf, runes_step hn2, hy3]; simp)), rfl⟩
    · refine SOps.extract rfl rfl ?_
      refine SOps.nil ?_
      refine SCode.seq ?_
      refine SCode.cond rfl (fun h => by cases h) (fun _ => ?_)
      refine SCode.exit ?_
      show SCode _ _ _ _
      refine SCode.seqR ?_
      refine SOps.move rfl ?_
      refine SOps.bin rfl rfl rfl ?_
      refine SOps.assign rfl ?_
      refine SOps.nil ?_
      refine SCode.drop ?_
      refine SCode.ret ?_
      exact ⟨_, Res.one (.tmp rfl), congrArg (fun b => DV.v (.bool b)) (Eq.symm (by rw [isWordA, overA, hc1, ← hf, ← hl, runesAt_ge hn2]; rw [Bool.eq_iff_iff]; simp; omega)), rfl⟩
theorem indexByte_any : ∀ l : List UInt8, decide (0 ≤ Lib.indexByte l 61) = l.any (fun b => b == 61)
  | [] => rfl
  | b :: l => by
    have ih := indexByte_any l
    have hg := Lib.indexByte_ge l 61
    rw [Lib.indexByte, List.any_cons]
    cases hb : (b == 61) with
    | true => rfl
    | false =>
      rw [Bool.false_or, ← ih, if_neg (by simp)]
      split
      · rename_i h; rw [beq_iff_eq] at h; simp [h]
      · rename_i h
        have h2 : Lib.indexByte l 61 ≠ -1 := fun e => h (by rw [e]; rfl)
        rw [decide_eq_true (by omega), decide_eq_true (by omega)]
theorem indexByte_le : ∀ l : List UInt8, Lib.indexByte l 61 ≤ l.length
  | [] => by decide
  | b :: l => by
    have ih := indexByte_le l
    have hg := Lib.indexByte_ge l 61
    rw [Lib.indexByte, List.length_cons]
    split
    · omega
    · split <;> omega
theorem args2 {w : World} {F : Nat → Prop} {vs : Array Value} {x y : Value} (hl : vs.size = 2) (hr : ∀ (j : Nat) (v : Value) (d : DV), vs[j]? = some v → [DV.v x, DV.v y][j]? = some d → Rep w F v d) : vs = #[x, y] := by
  have h0 := hr 0 vs[0] (.v x) (Array.getElem?_eq_getElem (by omega)) rfl
  have h1 := hr 1 vs[1] (.v y) (Array.getElem?_eq_getElem (by omega)) rfl
  apply Array.ext
  · simpa using hl
  · intro i h2 h3
    rcases (show i = 0 ∨ i = 1 by omega) with rfl | rfl
    · exact h0.inv_v.1
    · exact h1.inv_v.1
theorem sByte (s : ByteArray) (hs : s.size ≤ 1048576) : GCall Tryd.prog E 33 [.v (.string s), .v (.int .u8 61)] [] (fun d H => (∃ n : Int, d = .v (.int .i64 n) ∧ decide (0 ≤ n) = hasEq s) ∧ H = []) :=
  GCall.mono (GCall.ofCalls (x := .int .i64 (Lib.indexByte s.data.toList 61)) (by kernel_rfl) (has_i64 (by have := Lib.indexByte_ge s.data.toList 61; omega) (by have := indexByte_le s.data.toList; have : s.data.toList.length = s.size := (by simp); omega)) (fun w F vs hE hl hr => by
    obtain rfl := args2 hl hr
    have := Any.strings_IndexByte (P := Tryd.prog) (ρ := Tryd.laysByte_ren) Tryd.laysByte s 61 w
    exact this.mono fun e w' ⟨h1, h2⟩ => ⟨h1, h2 ▸ RowKit.Below.refl _ _⟩)) (fun d H h => ⟨⟨_, h.1, indexByte_any _⟩, h.2⟩)
theorem zeroBld : zeroIs Tryd.prog 100 (.agg #[.pointer none, .slice none 0 0]) := by unfold zeroIs; kernel_rfl
theorem sLClone (a : List Letter) (ha : a.length ≤ 1000000) : GCall Tryd.prog E 30 [DLs a] [] (fun d H => (d = .v (.slice none 0 0) ∧ H = [] ∧ a = []) ∨ ∃ b, d = .sl b 2 0 a.length ∧ H = [(b, .row 28 2 (a.map encL))]) := by
  refine GCall.body (C := ⟨Tryd.prog, E, true⟩) Tryd.func30 rfl (fun _ => rfl) (by kernel_rfl) rfl ?_
  refine SCode.seqR ?_
  refine SOps.assign rfl ?_
  refine SOps.nil ?_
  refine SCode.seq ?_
  refine SCode.seqR ?_
  refine SOps.move rfl ?_
  refine SOps.eqNilS Tryd.underlying22 rfl rfl (fun c0 hz0 => ?_)
  refine SOps.nil ?_
  refine SCode.cond rfl (fun hc1 => ?_) (fun hc1 => ?_)
  · try simp only [nmL] at hc1
    have ha0 : a = [] := List.map_eq_nil_iff.1 (hz0 hc1)
    refine SCode.seqR ?_
    refine SOps.assign rfl ?_
    refine SOps.nil ?_
    refine SCode.ret ?_
    exact ⟨_, Res.one (.tmp rfl), .inl ⟨rfl, rfl, ha0⟩⟩
  · try simp only [nmL] at hc1
    refine SCode.skip ?_
    show SCode _ _ _ _
    refine SCode.seqR ?_
    refine SOps.litO sliceB_22_28_2 zeroIs_28 rfl (fun b1 hb_1 => ?_)
    refine SOps.move rfl ?_
    refine SOps.appendOwnE 0 sliceB_22_28_2 elemB_28_2_8 rfl rfl rfl (by simp) SrcD.isl (by simp [lenB]; omega) (by simp; omega) (fun bC => ?_)
    refine SOps.assign rfl ?_
    refine SOps.nil ?_
    refine SCode.ret ?_
    exact ⟨_, Res.one (.tmp rfl), .inr ⟨bC, by simp, rfl⟩⟩
theorem cExtended (a : List Letter) (ha : a.length ≤ 1000000) : GCall Tryd.prog E 12 [DLs a] [] (fun d H => d = DLs (extA a) ∧ H = []) := by
  refine GCall.body (C := ⟨Tryd.prog, E, true⟩) Tryd.func12 rfl (fun _ => rfl) (by kernel_rfl) rfl ?_
  refine SCode.seqR ?_
  refine SOps.assign rfl ?_
  refine SOps.nil ?_
  refine SCode.seqR ?_
  refine SOps.move rfl ?_
  refine SOps.callH [] [] [] (sLClone a ha) rfl rfl (fun d H hR => ?_)
  rcases hR with ⟨rfl, rfl, rfl⟩ | ⟨bk, rfl, rfl⟩
  · refine SOps.buildM placesB_28 zeroIs_28 rfl rfl ?_
    refine SOps.litF rfl sliceB_22_28_2 zeroIs_28 rfl ?_
    refine SOps.appendNil sliceB_22_28_2 elemB_28_2_8 rfl rfl SrcD.isl (by simp) (by simp [lenB]) (by simp) (fun bA _ => ?_)
    refine SOps.freezeS (t := 7) 0 rfl rfl rfl (by simp) ?_
    refine SOps.assign rfl ?_
    refine SOps.nil ?_
    refine SCode.ret ?_
    exact ⟨_, Res.one (.tmp rfl), by first | rfl | (show DV.isl false 2 (a.map encL ++ [encL eqL]) = DV.isl false 2 ((a ++ [eqL]).map encL); rw [List.map_append]; rfl), rfl⟩
  · refine SOps.buildM placesB_28 zeroIs_28 rfl rfl ?_
    refine SOps.litF rfl sliceB_22_28_2 zeroIs_28 rfl ?_
    refine SOps.appendOwn 0 sliceB_22_28_2 elemB_28_2_8 rfl rfl rfl (by simp) SrcD.isl (by simp) (by simp [lenB]; omega) (by simp; omega) (fun bA _ => ?_)
    refine SOps.freezeS (t := 7) 0 rfl rfl rfl (by simp) ?_
    refine SOps.assign rfl ?_
    refine SOps.nil ?_
    refine SCode.ret ?_
    exact ⟨_, Res.one (.tmp rfl), by first | rfl | (show DV.isl false 2 (a.map encL ++ [encL eqL]) = DV.isl false 2 ((a ++ [eqL]).map encL); rw [List.map_append]; rfl), rfl⟩
end Go.GH
namespace Go.GH
open Go Go.Proofs
variable {E : Env}
theorem fieldB_65_0_0 : fieldB Tryd.prog 65 0 0 = true := by kernel_rfl
theorem fieldB_65_1_1 : fieldB Tryd.prog 65 1 1 = true := by kernel_rfl
theorem flatB_22 : flatB Tryd.prog 22 = true := by kernel_rfl
theorem flatB_23 : flatB Tryd.prog 23 = true := by kernel_rfl
theorem casc_word {x : List Letter} {l : List Rule} {s : ByteArray} (h : (cascX (traceR x l s)).2 = 0) : (runes (cascX (traceR x l s)).1).length ≤ 40 ∧ utf8R (cascX (traceR x l s)).1 = true := by
  have := (casc_filter (p := fun _ => false) (fun r _ => ⟨fun _ => rfl, fun _ _ => rfl⟩) h).2
  rw [consS_eq, Bool.and_eq_true, Bool.and_eq_true, decide_eq_true_eq] at this
  exact ⟨this.1.2, this.1.1⟩
theorem encs_size4 : ∀ rs : List Int, (encs rs).size ≤ 4 * rs.length
  | [] => Nat.le_refl _
  | r :: rs => by
    have h1 := encs_size4 rs
    have h2 := encode_size r
    rw [show encs (r :: rs) = Utf8.encode r ++ encs rs from rfl, ByteArray.size_append, List.length_cons]
    omega
theorem utf8_size {s : ByteArray} (h : utf8R s = true) : s.size ≤ 4 * (runes s).length := by
  have := encs_size4 (runes s)
  rwa [encs_runes h] at this
theorem ba_list (s : ByteArray) : (⟨s.data.toList.toArray⟩ : ByteArray) = s := by cases s; simp
theorem cValid (hV : VS E) (a : List Letter) (l : List Rule) (hr : ∀ r ∈ l, SmR r) : GCall Tryd.prog E 13 [DLs a, DRs l] [] (fun d H => d = .v (.bool (validS a l)) ∧ H = []) := by
  refine GCall.body (C := ⟨Tryd.prog, E, true⟩) Tryd.func13 rfl (fun _ => rfl) (by kernel_rfl) rfl ?_
  refine SCode.seqR ?_
  refine SOps.assign rfl ?_
  refine SOps.nil ?_
  refine SCode.seq ?_
  refine SCode.seqR ?_
  refine SOps.move rfl ?_
  refine SOps.callP (aValid _) rfl ?_
  rintro _ rfl
  refine SOps.un rfl rfl ?_
  refine SOps.move rfl ?_
  refine SOps.caseB 11 rfl (fun hb1 => ?_) (fun hb1 => ?_)
  · try simp only [nmL] at hb1
    refine SOps.skip rfl ?_
    refine SOps.skip rfl ?_
    refine SOps.skip rfl ?_
    refine SOps.pick rfl rfl ?_
    refine SOps.move rfl ?_
    refine SOps.skip rfl ?_
    refine SOps.skip rfl ?_
    refine SOps.skip rfl ?_
    refine SOps.pick rfl rfl ?_
    refine SOps.nil ?_
    refine SCode.cond rfl (fun _ => ?_) (fun h => by cases h)
    refine SCode.seqR ?_
    refine SOps.assign rfl ?_
    refine SOps.nil ?_
    refine SCode.ret ?_
    exact ⟨_, Res.one (.tmp rfl), congrArg (fun b => DV.v (.bool b)) (Eq.symm (Bool.eq_false_iff.2 (fun h => by obtain ⟨v1, v2, v3, v4⟩ := validS_iff.1 h; have v5 := idxI_none v2; first | omega | simp_all))), rfl⟩
  · try simp only [nmL] at hb1
    refine SOps.move rfl ?_
    refine SOps.callP (aIndex _ _) rfl ?_
    rintro _ rfl
    refine SOps.bin rfl rfl rfl ?_
    refine SOps.pick rfl rfl ?_
    refine SOps.move rfl ?_
    refine SOps.caseB 16 rfl (fun hb2 => ?_) (fun hb2 => ?_)
    · try simp only [nmL] at hb2
      refine SOps.skip rfl ?_
      refine SOps.skip rfl ?_
      refine SOps.skip rfl ?_
      refine SOps.pick rfl rfl ?_
      refine SOps.nil ?_
      refine SCode.cond rfl (fun _ => ?_) (fun h => by cases h)
      refine SCode.seqR ?_
      refine SOps.assign rfl ?_
      refine SOps.nil ?_
      refine SCode.ret ?_
      exact ⟨_, Res.one (.tmp rfl), congrArg (fun b => DV.v (.bool b)) (Eq.symm (Bool.eq_false_iff.2 (fun h => by obtain ⟨v1, v2, v3, v4⟩ := validS_iff.1 h; have v5 := idxI_none v2; first | omega | simp_all))), rfl⟩
    · try simp only [nmL] at hb2
      refine SOps.move rfl ?_
      refine SOps.lenM rfl sliceB_23_47_6 ?_
      refine SOps.bin rfl rfl rfl ?_
      refine SOps.pick rfl rfl ?_
      refine SOps.nil ?_
      refine SCode.cond rfl (fun hc3 => ?_) (fun hc3 => ?_)
      · try simp only [nmL] at hc3
        refine SCode.seqR ?_
        refine SOps.assign rfl ?_
        refine SOps.nil ?_
        refine SCode.ret ?_
        exact ⟨_, Res.one (.tmp rfl), congrArg (fun b => DV.v (.bool b)) (Eq.symm (Bool.eq_false_iff.2 (fun h => by obtain ⟨v1, v2, v3, v4⟩ := validS_iff.1 h; have v5 := idxI_none v2; first | omega | simp_all))), rfl⟩
      · try simp only [nmL] at hc3
        refine SCode.skip ?_
        show SCode _ _ _ _
        refine SCode.seqR ?_
        have hal : a.length ≤ 64 := by have := validA_iff.1 (show validA a = true by simp_all); omega
        refine SOps.move rfl ?_
        refine SOps.callP (cExtended _ (by omega)) rfl ?_
        rintro _ rfl
        refine SOps.assign rfl ?_
        refine SOps.nil ?_
        refine SCode.seq ?_
        refine SCode.seqR ?_
        refine SOps.move rfl ?_
        refine SOps.lenM rfl sliceB_23_47_6 ?_
        refine SOps.move rfl ?_
        refine SOps.nil ?_
        refine SCode.block ?_
        refine SCode.loop1 (fun (i : Nat) => (⟨45, [(5, DLs (extA a)), (23, DRs l), (24, .v (.int .i64 ((l.length : Nat) : Int))), (25, .v (.int .i64 (i : Int)))], []⟩ : St)) (fun (i : Nat) => i ≤ l.length ∧ ∀ r ∈ l.take i, r.fr ≠ 61 ∧ hasEq r.«to» = false ∧ validR (extA a) r = true) (fun (i : Nat) => l.length - i) (0) (by simp) (St.Le.of ⟨(by first | rfl | (show some _ = some _; simp)), (by first | rfl | (show some _ = some _; simp)), (by first | rfl | (show some _ = some _; simp)), (by first | rfl | (show some _ = some _; simp)), trivial⟩ rfl (by first | rfl | (simp))) ?_
        rintro i ⟨hi, hf⟩
        refine SCode.seqR ?_
        refine SOps.bin rfl rfl rfl ?_
        refine SOps.nil ?_
        refine SCode.seq ?_
        refine SCode.cond rfl (fun hc4 => ?_) (fun hc4 => ?_)
        · try simp only [nmL] at hc4
          refine SCode.skip ?_
          show SCode _ _ _ _
          refine SCode.seq ?_
          refine SCode.block ?_
          refine SCode.seqR ?_
          have hri := hr _ (List.getElem_mem (show i < l.length by omega))
          refine SOps.indexM (i) rfl rfl sliceB_23_47_6 (by first | omega | (simp only [lenB]; omega)) (by first | omega | (simp only [lenB]; omega)) ?_
          refine SOps.loadPinA rfl aggB_47_6 (Nat.le_of_ble_eq_true rfl) ?_
          refine SOps.alloc (sz := 6) zeroIs_47 (fun b0 hb_0 => ?_)
          refine SOps.storeAM 0 rfl rfl aggB_47_6 rfl ?_
          refine SOps.freezeRef (t := 7) 0 0 rfl rfl rfl rfl rfl ?_
          refine SOps.nil ?_
          refine SCode.seqR ?_
          refine SOps.fieldPin rfl fieldB_47_0_0 ?_
          refine SOps.loadPin rfl flatB_21 ?_
          refine SOps.bin rfl rfl rfl ?_
          refine SOps.move rfl ?_
          refine SOps.caseB 32 rfl (fun hb5 => ?_) (fun hb5 => ?_)
          · try simp only [nmL] at hb5
            refine SOps.skip rfl ?_
            refine SOps.skip rfl ?_
            refine SOps.skip rfl ?_
            refine SOps.skip rfl ?_
            refine SOps.pick rfl rfl ?_
            refine SOps.move rfl ?_
            refine SOps.skip rfl ?_
            refine SOps.skip rfl ?_
            refine SOps.skip rfl ?_
            refine SOps.skip rfl ?_
            refine SOps.pick rfl rfl ?_
            refine SOps.nil ?_
            refine SCode.cond rfl (fun _ => ?_) (fun h => by cases h)
            refine SCode.seqR ?_
            refine SOps.assign rfl ?_
            refine SOps.nil ?_
            refine SCode.ret ?_
            exact ⟨_, Res.one (.tmp rfl), congrArg (fun b => DV.v (.bool b)) (Eq.symm (Bool.eq_false_iff.2 (fun h => by obtain ⟨v1, v2, v3, v4⟩ := validS_iff.1 h; obtain ⟨v5, v6, v7⟩ := v4 _ (List.getElem_mem (show i < l.length by omega)); simp_all))), rfl⟩
          · try simp only [nmL] at hb5
            refine SOps.fieldPin rfl fieldB_47_1_1 ?_
            refine SOps.loadPin rfl flatB_9 ?_
            refine SOps.callP (sByte _ hri.1) rfl ?_
            rintro _ ⟨n9, rfl, hn9⟩
            refine SOps.bin rfl rfl rfl ?_
            refine SOps.reSlot (t := 36) rfl (show _ = DV.v (.bool (hasEq (l[i]).«to»)) from congrArg (fun b => DV.v (.bool b)) (hn9)) ?_
            refine SOps.pick rfl rfl ?_
            refine SOps.move rfl ?_
            refine SOps.caseB 38 rfl (fun hb6 => ?_) (fun hb6 => ?_)
            · try simp only [nmL] at hb6
              refine SOps.skip rfl ?_
              refine SOps.skip rfl ?_
              refine SOps.skip rfl ?_
              refine SOps.skip rfl ?_
              refine SOps.pick rfl rfl ?_
              refine SOps.nil ?_
              refine SCode.cond rfl (fun _ => ?_) (fun h => by cases h)
              refine SCode.seqR ?_
              refine SOps.assign rfl ?_
              refine SOps.nil ?_
              refine SCode.ret ?_
              exact ⟨_, Res.one (.tmp rfl), congrArg (fun b => DV.v (.bool b)) (Eq.symm (Bool.eq_false_iff.2 (fun h => by obtain ⟨v1, v2, v3, v4⟩ := validS_iff.1 h; obtain ⟨v5, v6, v7⟩ := v4 _ (List.getElem_mem (show i < l.length by omega)); simp_all))), rfl⟩
            · try simp only [nmL] at hb6
              refine SOps.move rfl ?_
              refine SOps.loadPinA rfl aggB_47_6 (Nat.le_of_ble_eq_true rfl) ?_
              refine SOps.callP (rValid hV _ _ hri) rfl ?_
              rintro _ rfl
              refine SOps.un rfl rfl ?_
              refine SOps.pick rfl rfl ?_
              refine SOps.nil ?_
              refine SCode.cond rfl (fun hc7 => ?_) (fun hc7 => ?_)
              · try simp only [nmL] at hc7
                refine SCode.seqR ?_
                refine SOps.assign rfl ?_
                refine SOps.nil ?_
                refine SCode.ret ?_
                exact ⟨_, Res.one (.tmp rfl), congrArg (fun b => DV.v (.bool b)) (Eq.symm (Bool.eq_false_iff.2 (fun h => by obtain ⟨v1, v2, v3, v4⟩ := validS_iff.1 h; obtain ⟨v5, v6, v7⟩ := v4 _ (List.getElem_mem (show i < l.length by omega)); simp_all))), rfl⟩
              · try simp only [nmL] at hc7
                refine SCode.skip ?_
                show SCode _ _ _ _
                refine SCode.region ?_
                refine SOps.addI rfl rfl (by first | omega | (simp only [lenB]; omega)) (by first | omega | (simp only [lenB]; omega)) ?_
                refine SOps.move rfl ?_
                refine SOps.nil ?_
                exact ⟨i + 1, by exact ⟨by omega, take_more hf (by omega) ⟨by simp_all, by simp_all, by simp_all⟩⟩, by omega, (St.Le.of ⟨(by first | rfl | (show some _ = some _; simp)), (by first | rfl | (show some _ = some _; simp)), (by first | rfl | (show some _ = some _; simp)), (by first | rfl | (show some _ = some _; simp)), trivial⟩ rfl (by first | rfl | (simp)))⟩
        · try simp only [nmL] at hc4
          refine SCode.exit ?_
          show SCode _ _ _ _
          refine SCode.seqR ?_
          refine SOps.assign rfl ?_
          refine SOps.nil ?_
          refine SCode.ret ?_
          exact ⟨_, Res.one (.tmp rfl), congrArg (fun b => DV.v (.bool b)) (Eq.symm (validS_iff.2 ⟨by simp_all, by cases hx : idx a 61 with | none => rfl | some k => (have := idxI_some hx; omega), by omega, all_of (by omega) hf⟩)), rfl⟩
theorem cWords (hV : VS E) (a : List Letter) (l : List ByteArray)  : GCall Tryd.prog E 39 [DLs a, DStrs l] [] (fun d H => d = .v (.bool (l.all (isWordA a))) ∧ H = []) := by
  refine GCall.body (C := ⟨Tryd.prog, E, true⟩) Tryd.func39 rfl (fun _ => rfl) (by kernel_rfl) rfl ?_
  refine SCode.seqR ?_
  refine SOps.assign rfl ?_
  refine SOps.nil ?_
  refine SCode.seq ?_
  refine SCode.seqR ?_
  refine SOps.move rfl ?_
  refine SOps.lenM rfl sliceB_35_9_1 ?_
  refine SOps.move rfl ?_
  refine SOps.nil ?_
  refine SCode.block ?_
  refine SCode.loop1 (fun (i : Nat) => (⟨18, [(0, DLs a), (7, DStrs l), (8, .v (.int .i64 ((l.length : Nat) : Int))), (9, .v (.int .i64 (i : Int)))], []⟩ : St)) (fun (i : Nat) => i ≤ l.length ∧ ∀ s ∈ l.take i, isWordA a s = true) (fun (i : Nat) => l.length - i) (0) (by simp) (St.Le.of ⟨(by first | rfl | (show some _ = some _; simp)), (by first | rfl | (show some _ = some _; simp)), (by first | rfl | (show some _ = some _; simp)), (by first | rfl | (show some _ = some _; simp)), trivial⟩ rfl (by first | rfl | (simp))) ?_
  rintro i ⟨hi, hf⟩
  refine SCode.fact (isl_len (t := 7) rfl) (fun hB => ?_)
  simp only [List.length_map, lenB] at hB
  refine SCode.seqR ?_
  refine SOps.bin rfl rfl rfl ?_
  refine SOps.nil ?_
  refine SCode.seq ?_
  refine SCode.cond rfl (fun hc1 => ?_) (fun hc1 => ?_)
  · try simp only [nmL] at hc1
    refine SCode.skip ?_
    show SCode _ _ _ _
    refine SCode.seq ?_
    refine SCode.block ?_
    refine SCode.seqR ?_
    refine SOps.indexM (i) rfl rfl sliceB_35_9_1 (by first | omega | (simp only [lenB]; omega)) (by first | omega | (simp only [lenB]; omega)) ?_
    refine SOps.loadPin rfl flatB_9 ?_
    refine SOps.assign rfl ?_
    refine SOps.nil ?_
    refine SCode.seqR ?_
    refine SOps.move rfl ?_
    refine SOps.move rfl ?_
    refine SOps.callP (aIsWord hV _ _) rfl ?_
    rintro _ rfl
    refine SOps.un rfl rfl ?_
    refine SOps.nil ?_
    refine SCode.cond rfl (fun hc2 => ?_) (fun hc2 => ?_)
    · try simp only [nmL] at hc2
      refine SCode.seqR ?_
      refine SOps.assign rfl ?_
      refine SOps.nil ?_
      refine SCode.ret ?_
      exact ⟨_, Res.one (.tmp rfl), congrArg (fun b => DV.v (.bool b)) (Eq.symm (Bool.eq_false_iff.2 (fun h => by rw [List.all_eq_true] at h; have := h _ (List.getElem_mem (show i < l.length by omega)); simp_all))), rfl⟩
    · try simp only [nmL] at hc2
      refine SCode.skip ?_
      show SCode _ _ _ _
      refine SCode.region ?_
      refine SOps.addI rfl rfl (by first | omega | (simp only [lenB]; omega)) (by first | omega | (simp only [lenB]; omega)) ?_
      refine SOps.move rfl ?_
      refine SOps.nil ?_
      exact ⟨i + 1, by exact ⟨by omega, take_more hf (by omega) (by simp_all)⟩, by omega, (St.Le.of ⟨(by first | rfl | (show some _ = some _; simp)), (by first | rfl | (show some _ = some _; simp)), (by first | rfl | (show some _ = some _; simp)), (by first | rfl | (show some _ = some _; simp)), trivial⟩ rfl (by first | rfl | (simp)))⟩
  · try simp only [nmL] at hc1
    refine SCode.exit ?_
    show SCode _ _ _ _
    refine SCode.seqR ?_
    refine SOps.assign rfl ?_
    refine SOps.nil ?_
    refine SCode.ret ?_
    exact ⟨_, Res.one (.tmp rfl), congrArg (fun b => DV.v (.bool b)) (Eq.symm (List.all_eq_true.2 (all_of (by omega) hf))), rfl⟩
theorem jAttach (hV : VS E) (a : List Letter) (l : List Rule) (h c : ByteArray) (hr : ∀ r ∈ l, SmR r) (h1 : utf8R h = true) (h2 : utf8R c = true) (w1 : (runes h).length ≤ 40) (w2 : (runes c).length ≤ 40) : GCall Tryd.prog E 40 [.agg [DLs (extA a), DRs l], .v (.string h), .v (.string c)] [] (fun d H => d = tupA (attE a l h c) ∧ H = []) := by
  have hu1 := utf8_size h1
  have hu2 := utf8_size h2
  refine GCall.body (C := ⟨Tryd.prog, E, true⟩) Tryd.func40 rfl (fun _ => rfl) (by kernel_rfl) rfl ?_
  refine SCode.seqR ?_
  refine SOps.boxAM rfl rfl ?_
  refine SOps.assign rfl ?_
  refine SOps.assign rfl ?_
  refine SOps.nil ?_
  refine SCode.seq ?_
  refine SCode.seqR ?_
  refine SOps.move rfl ?_
  refine SOps.callP (uRuneCount _) rfl ?_
  rintro _ rfl
  refine SOps.addI rfl rfl (by first | omega | (simp only [lenB]; omega)) (by first | omega | (simp only [lenB]; omega)) ?_
  refine SOps.move rfl ?_
  refine SOps.callP (uRuneCount _) rfl ?_
  rintro _ rfl
  refine SOps.addI rfl rfl (by first | omega | (simp only [lenB]; omega)) (by first | omega | (simp only [lenB]; omega)) ?_
  refine SOps.bin rfl rfl rfl ?_
  refine SOps.nil ?_
  refine SCode.cond rfl (fun hc1 => ?_) (fun hc1 => ?_)
  · try simp only [nmL] at hc1
    refine SCode.seqR ?_
    refine SOps.assign rfl ?_
    refine SOps.assign rfl ?_
    refine SOps.nil ?_
    refine SCode.ret ?_
    exact ⟨_, Res.two (.tmp rfl) (.tmp rfl), (by unfold attE; rw [if_pos (by omega)]; rfl), rfl⟩
  · try simp only [nmL] at hc1
    refine SCode.skip ?_
    show SCode _ _ _ _
    refine SCode.seqR ?_
    have hjs : (joinE h c).size ≤ 1048576 := by show (h ++ eqB ++ c).size ≤ _; rw [ByteArray.size_append, ByteArray.size_append, show eqB.size = 1 from rfl]; omega
    refine SOps.fieldPin rfl fieldB_65_0_0 ?_
    refine SOps.loadPin rfl flatB_22 ?_
    refine SOps.fieldPin rfl fieldB_65_1_1 ?_
    refine SOps.loadPin rfl flatB_23 ?_
    refine SOps.move rfl ?_
    refine SOps.concat rfl rfl (by simp only [lenB, ByteArray.size_append]; have : (ByteArray.mk #[61]).size = 1 := rfl; omega) ?_
    refine SOps.move rfl ?_
    refine SOps.concat rfl rfl (by simp only [lenB, ByteArray.size_append]; have : (ByteArray.mk #[61]).size = 1 := rfl; omega) ?_
    refine SOps.callP (rCascade hV (extA a) l (joinE h c) hr hjs) rfl ?_
    rintro _ rfl
    refine SOps.move rfl ?_
    refine SOps.extract rfl rfl ?_
    refine SOps.extract rfl rfl ?_
    refine SOps.assign rfl ?_
    refine SOps.assign rfl ?_
    refine SOps.nil ?_
    refine SCode.seq ?_
    refine SCode.seqR ?_
    refine SOps.move rfl ?_
    refine SOps.bin rfl rfl rfl ?_
    refine SOps.nil ?_
    refine SCode.cond rfl (fun hc2 => ?_) (fun hc2 => ?_)
    · try simp only [nmL] at hc2
      refine SCode.seqR ?_
      refine SOps.move rfl ?_
      refine SOps.assign rfl ?_
      refine SOps.assign rfl ?_
      refine SOps.nil ?_
      refine SCode.ret ?_
      exact ⟨_, Res.two (.tmp rfl) (.tmp rfl), (by unfold attE; rw [if_neg (by omega), if_neg (show ¬ (cascE a l h c).2 = 0 from hc2)]; rfl), rfl⟩
    · try simp only [nmL] at hc2
      refine SCode.skip ?_
      show SCode _ _ _ _
      refine SCode.seqR ?_
      have hcw := casc_word (show (cascX (traceR (extA a) l (joinE h c))).2 = 0 from hc2)
      change (runes (cascE a l h c).1).length ≤ 40 ∧ utf8R (cascE a l h c).1 = true at hcw
      have hws := utf8_size hcw.2
      refine SOps.allocV (sz := 2) zeroBld (fun b0 hb_0 => ?_)
      refine SOps.nil ?_
      refine SCode.seq ?_
      refine SCode.seqR ?_
      refine SOps.move rfl ?_
      refine SOps.rangeStr rfl strB_9 (fun b1 hb_1 => ?_)
      refine SOps.nil ?_
      refine SCode.block ?_
      refine SCode.loop5 (fun (p : Nat) (b : Nat) (g : Nat) (u : Bool) (bs : List UInt8) => (⟨45, [(10, .vref b0 100 2), (36, .it b)], [(b, .iter (cascE a l h c).1 p)] ++ bldH b0 g u bs⟩ : St)) (fun (p : Nat) (b : Nat) (g : Nat) (u : Bool) (bs : List UInt8) => bs ++ (encs ((runesAt (cascE a l h c).1 p).filter (fun r => !decide (r = 61)))).data.toList = (encs ((runes (cascE a l h c).1).filter (fun r => !decide (r = 61)))).data.toList) (fun (p : Nat) (b : Nat) (g : Nat) (u : Bool) (bs : List UInt8) => (cascE a l h c).1.size - p) (0) (b1) (0) (false) ([]) (by rfl) (St.Le.of ⟨(by first | rfl | (show some _ = some _; simp)), (by first | rfl | (show some _ = some _; simp)), trivial⟩ rfl (by first | rfl | (simp))) ?_
      rintro p b g u bs hf
      have hbl : bs.length ≤ 8388608 := by have h8 := congrArg List.length hf; rw [List.length_append] at h8; have h9 := encs_size4 ((runes (cascE a l h c).1).filter (fun r => !decide (r = 61))); have h10 := List.length_filter_le (fun r => !decide (r = 61)) (runes (cascE a l h c).1); have h11 : (encs ((runes (cascE a l h c).1).filter (fun r => !decide (r = 61)))).data.toList.length = (encs ((runes (cascE a l h c).1).filter (fun r => !decide (r = 61)))).size := (by simp); omega
      refine SCode.seqR ?_
      refine SOps.next 0 rfl rfl (fun hn3 => ?_) (fun hn3 => ?_) (by first | omega | (simp only [lenB]; omega))
      · refine SOps.extract rfl rfl ?_
        refine SOps.nil ?_
        refine SCode.seq ?_
        refine SCode.cond rfl (fun _ => ?_) (fun h => by cases h)
        refine SCode.skip ?_
        show SCode _ _ _ _
        refine SCode.block ?_
        refine SCode.seqR ?_
        refine SOps.extract rfl rfl ?_
        refine SOps.assign rfl ?_
        refine SOps.nil ?_
        refine SCode.seqR ?_
        refine SOps.move rfl ?_
        refine SOps.bin rfl rfl rfl ?_
        refine SOps.nil ?_
        refine SCode.cond rfl (fun hc4 => ?_) (fun hc4 => ?_)
        · try simp only [nmL] at hc4
          refine SCode.region ?_
          refine SOps.move rfl ?_
          refine SOps.callR (bldH _ _ _ _) [_] (bWriteRune _ _ _ _ _ (decode_valid _ _) (by omega)) rfl rfl ?_
          rintro _ _ ⟨g7, n7, rfl, rfl⟩
          refine SOps.nil ?_
          first
            | exact ⟨p + (Utf8.decode (cascE a l h c).1 p).2, b, g7, true, bs ++ encBy _, by rw [← hf, runesAt_lt hn3, List.filter_cons, if_pos (by simp_all), encs_cons_data, List.append_assoc], by have := decode_w (cascE a l h c).1 p; omega, St.Le.of ⟨rfl, rfl,  trivial⟩ rfl rfl⟩
            | exact ⟨p + (Utf8.decode (cascE a l h c).1 p).2, b, g, u, bs, by rw [← hf, runesAt_lt hn3, List.filter_cons, if_neg (by simp_all)], by have := decode_w (cascE a l h c).1 p; omega, St.Le.of ⟨rfl, rfl,  trivial⟩ rfl rfl⟩
        · try simp only [nmL] at hc4
          refine SCode.skip ?_
          first
            | exact ⟨p + (Utf8.decode (cascE a l h c).1 p).2, b, g7, true, bs ++ encBy _, by rw [← hf, runesAt_lt hn3, List.filter_cons, if_pos (by simp_all), encs_cons_data, List.append_assoc], by have := decode_w (cascE a l h c).1 p; omega, St.Le.of ⟨rfl, rfl,  trivial⟩ rfl rfl⟩
            | exact ⟨p + (Utf8.decode (cascE a l h c).1 p).2, b, g, u, bs, by rw [← hf, runesAt_lt hn3, List.filter_cons, if_neg (by simp_all)], by have := decode_w (cascE a l h c).1 p; omega, St.Le.of ⟨rfl, rfl,  trivial⟩ rfl rfl⟩
      · refine SOps.extract rfl rfl ?_
        refine SOps.nil ?_
        refine SCode.seq ?_
        refine SCode.cond rfl (fun h => by cases h) (fun _ => ?_)
        refine SCode.exit ?_
        show SCode _ _ _ _
        refine SCode.seqR ?_
        refine SOps.callR (bldH _ _ _ _) [_] (bString _ _ _ _ (by omega)) rfl rfl ?_
        rintro _ _ ⟨rfl, rfl⟩
        refine SOps.assign rfl ?_
        refine SOps.assign rfl ?_
        refine SOps.nil ?_
        refine SCode.drop ?_
        refine SCode.ret ?_
        have hbs : bs = (dropE (cascE a l h c).1).data.toList := by rw [runesAt_ge hn3] at hf; rw [← List.append_nil bs]; exact hf
        exact ⟨_, Res.two (.tmp rfl) (.tmp rfl), (by unfold attE; rw [if_neg (by omega), if_pos (show (cascE a l h c).2 = 0 from hc2), hbs, ba_list]; rfl), rfl⟩
end Go.GH
namespace Go.GH
open Go Go.Proofs
variable {E : Env}
theorem aggB_50_2 : aggB Tryd.prog 50 2 = true := by kernel_rfl
theorem aggB_65_2 : aggB Tryd.prog 65 2 = true := by kernel_rfl
theorem fieldB_50_0_0 : fieldB Tryd.prog 50 0 0 = true := by kernel_rfl
theorem fieldB_50_1_1 : fieldB Tryd.prog 50 1 1 = true := by kernel_rfl
theorem flatB_35 : flatB Tryd.prog 35 = true := by kernel_rfl
theorem placesB_65 : placesB Tryd.prog 65 [(0, 1), (1, 1)] = true := by kernel_rfl
theorem zeroIs_65 : zeroIs Tryd.prog 65 (.agg #[.slice none 0 0, .slice none 0 0]) := by unfold zeroIs; kernel_rfl
def allR (a : List Letter) (l : List Rule) (s : Sg) : ByteArray × Int := if validS a l && isWordA a s.host && s.cls.all (isWordA a) then allE a l s.host s.cls else (⟨#[]⟩, 1)
theorem word_facts {a : List Letter} {s : ByteArray} (h : isWordA a s = true) : overA a s = true ∧ utf8R s = true ∧ (runes s).length ≤ 40 ∧ s.size ≤ 160 := by
  have h1 := isWordA_over h
  have h2 := (overA_iff.1 h1.1).1
  exact ⟨h1.1, h2, h1.2, by have := utf8_size h2; omega⟩
theorem att_word {a : List Letter} {l : List Rule} {h c : ByteArray} (h1 : isWordA a h = true) (h2 : isWordA a c = true) (he : (attE a l h c).2 = 0) : isWordA a (attE a l h c).1 = true := by
  have := att_keep (word_facts h1).1 (word_facts h2).1 he
  unfold isWordA
  rw [this.1, Bool.true_and]
  exact decide_eq_true this.2.1
theorem all_word {a : List Letter} {l : List Rule} : ∀ (cs : List ByteArray) (f : ByteArray), isWordA a f = true → (∀ c ∈ cs, isWordA a c = true) → (allE a l f cs).2 = 0 → isWordA a (allE a l f cs).1 = true
  | [], f, hf, _, _ => hf
  | c :: cs, f, hf, hc, he => by
    rw [allE] at he ⊢
    by_cases h0 : (attE a l f c).2 = 0
    · rw [if_pos h0] at he ⊢
      exact all_word cs _ (att_word hf (hc c (List.mem_cons_self ..)) h0) (fun d hd => hc d (List.mem_cons_of_mem _ hd)) he
    · rw [if_neg h0] at he; exact absurd he h0
theorem jAll (hV : VS E) (a : List Letter) (l : List Rule) (sg : Sg) (hr : ∀ r ∈ l, SmR r) (hh : isWordA a sg.host = true) (hc : ∀ c ∈ sg.cls, isWordA a c = true) : GCall Tryd.prog E 50 [.agg [DLs (extA a), DRs l], .agg (encSg sg)] [] (fun d H => d = tupA (allE a l sg.host sg.cls) ∧ H = []) := by
  refine GCall.body (C := ⟨Tryd.prog, E, true⟩) Tryd.func50 rfl (fun _ => rfl) (by kernel_rfl) rfl ?_
  refine SCode.seqR ?_
  refine SOps.boxAM rfl rfl ?_
  refine SOps.boxAM rfl rfl ?_
  refine SOps.assign rfl ?_
  refine SOps.assign rfl ?_
  refine SOps.nil ?_
  refine SCode.seqR ?_
  refine SOps.fieldPin rfl fieldB_50_0_0 ?_
  refine SOps.loadPin rfl flatB_9 ?_
  refine SOps.assign rfl ?_
  refine SOps.nil ?_
  refine SCode.seq ?_
  refine SCode.seqR ?_
  refine SOps.fieldPin rfl fieldB_50_1_1 ?_
  refine SOps.loadPin rfl flatB_35 ?_
  refine SOps.lenM rfl sliceB_35_9_1 ?_
  refine SOps.move rfl ?_
  refine SOps.nil ?_
  refine SCode.block ?_
  refine SCode.loop2 (fun (i : Nat) (f : ByteArray) => (⟨33, [(2, .ipin [DLs (extA a), DRs l]), (6, .v (.string f)), (14, DStrs sg.cls), (15, .v (.int .i64 ((sg.cls.length : Nat) : Int))), (16, .v (.int .i64 (i : Int)))], []⟩ : St)) (fun (i : Nat) (f : ByteArray) => i ≤ sg.cls.length ∧ isWordA a f = true ∧ allE a l f (sg.cls.drop i) = allE a l sg.host sg.cls) (fun (i : Nat) (f : ByteArray) => sg.cls.length - i) (0) (sg.host) (by exact ⟨Nat.zero_le _, hh, rfl⟩) (St.Le.of ⟨(by first | rfl | (show some _ = some _; simp)), (by first | rfl | (show some _ = some _; simp)), (by first | rfl | (show some _ = some _; simp)), (by first | rfl | (show some _ = some _; simp)), (by first | rfl | (show some _ = some _; simp)), trivial⟩ rfl (by first | rfl | (simp))) ?_
  rintro i f ⟨hi, hfw, hf⟩
  refine SCode.fact (isl_len (t := 14) rfl) (fun hB => ?_)
  simp only [List.length_map, lenB] at hB
  refine SCode.seqR ?_
  refine SOps.bin rfl rfl rfl ?_
  refine SOps.nil ?_
  refine SCode.seq ?_
  refine SCode.cond rfl (fun hc1 => ?_) (fun hc1 => ?_)
  · try simp only [nmL] at hc1
    refine SCode.skip ?_
    show SCode _ _ _ _
    refine SCode.seq ?_
    refine SCode.block ?_
    refine SCode.seqR ?_
    have hil : i < sg.cls.length := by omega
    have hci := hc _ (List.getElem_mem hil)
    have hdr : sg.cls.drop i = sg.cls[i] :: sg.cls.drop (i + 1) := List.drop_eq_getElem_cons hil
    have hq1 := word_facts hfw
    have hq2 := word_facts hci
    refine SOps.indexM (i) rfl rfl sliceB_35_9_1 (by first | omega | (simp only [lenB]; omega)) (by first | omega | (simp only [lenB]; omega)) ?_
    refine SOps.loadPin rfl flatB_9 ?_
    refine SOps.assign rfl ?_
    refine SOps.nil ?_
    refine SCode.seqR ?_
    refine SOps.loadPinA rfl aggB_65_2 (Nat.le_of_ble_eq_true rfl) ?_
    refine SOps.move rfl ?_
    refine SOps.move rfl ?_
    refine SOps.callP (jAttach hV _ _ _ _ hr hq1.2.1 hq2.2.1 hq1.2.2.1 hq2.2.2.1) rfl ?_
    rintro _ rfl
    refine SOps.move rfl ?_
    refine SOps.extract rfl rfl ?_
    refine SOps.extract rfl rfl ?_
    refine SOps.assign rfl ?_
    refine SOps.assign rfl ?_
    refine SOps.nil ?_
    refine SCode.seq ?_
    refine SCode.seqR ?_
    refine SOps.move rfl ?_
    refine SOps.bin rfl rfl rfl ?_
    refine SOps.nil ?_
    refine SCode.cond rfl (fun hc2 => ?_) (fun hc2 => ?_)
    · try simp only [nmL] at hc2
      refine SCode.seqR ?_
      refine SOps.move rfl ?_
      refine SOps.assign rfl ?_
      refine SOps.assign rfl ?_
      refine SOps.nil ?_
      refine SCode.ret ?_
      exact ⟨_, Res.two (.tmp rfl) (.tmp rfl), (by rw [← hf, hdr, allE, if_neg hc2]; rfl), rfl⟩
    · try simp only [nmL] at hc2
      refine SCode.skip ?_
      show SCode _ _ _ _
      refine SCode.region ?_
      refine SOps.move rfl ?_
      refine SOps.assign rfl ?_
      refine SOps.nil ?_
      show SCode _ _ _ _
      refine SCode.region ?_
      refine SOps.addI rfl rfl (by first | omega | (simp only [lenB]; omega)) (by first | omega | (simp only [lenB]; omega)) ?_
      refine SOps.move rfl ?_
      refine SOps.nil ?_
      exact ⟨i + 1, (attE a l f (sg.cls[i])).1, ⟨by omega, att_word hfw hci hc2, by rw [← hf, hdr, allE, if_pos hc2]⟩, by omega, St.Le.of ⟨rfl, rfl, rfl, rfl, rfl, trivial⟩⟩
  · try simp only [nmL] at hc1
    refine SCode.exit ?_
    show SCode _ _ _ _
    refine SCode.seqR ?_
    refine SOps.move rfl ?_
    refine SOps.assign rfl ?_
    refine SOps.assign rfl ?_
    refine SOps.nil ?_
    refine SCode.ret ?_
    exact ⟨_, Res.two (.tmp rfl) (.tmp rfl), (by rw [← hf, List.drop_eq_nil_of_le (by omega)]; rfl), rfl⟩
theorem cAttach (hV : VS E) (a : List Letter) (l : List Rule) (h c : ByteArray) (hr : ∀ r ∈ l, SmR r) : GCall Tryd.prog E 16 [DLs a, DRs l, .v (.string h), .v (.string c)] [] (fun d H => d = tupA (attR a l h c) ∧ H = []) := by
  refine GCall.body (C := ⟨Tryd.prog, E, true⟩) Tryd.func16 rfl (fun _ => rfl) (by kernel_rfl) rfl ?_
  refine SCode.seqR ?_
  refine SOps.assign rfl ?_
  refine SOps.assign rfl ?_
  refine SOps.nil ?_
  refine SCode.seq ?_
  refine SCode.seqR ?_
  refine SOps.move rfl ?_
  refine SOps.move rfl ?_
  refine SOps.callP (cValid hV _ _ (by assumption)) rfl ?_
  rintro _ rfl
  refine SOps.un rfl rfl ?_
  refine SOps.move rfl ?_
  refine SOps.caseB 14 rfl (fun hb1 => ?_) (fun hb1 => ?_)
  · try simp only [nmL] at hb1
    refine SOps.skip rfl ?_
    refine SOps.skip rfl ?_
    refine SOps.skip rfl ?_
    refine SOps.skip rfl ?_
    refine SOps.skip rfl ?_
    refine SOps.skip rfl ?_
    refine SOps.pick rfl rfl ?_
    refine SOps.nil ?_
    refine SCode.cond rfl (fun _ => ?_) (fun h => by cases h)
    refine SCode.seqR ?_
    refine SOps.assign rfl ?_
    refine SOps.assign rfl ?_
    refine SOps.nil ?_
    refine SCode.ret ?_
    exact ⟨_, Res.two (.tmp rfl) (.tmp rfl), (by unfold attR; first | (rw [if_pos (by simp_all)]; done) | (rw [if_pos (by simp_all)]; rfl) | (rw [if_neg (by simp_all)]; rfl)), rfl⟩
  · try simp only [nmL] at hb1
    refine SOps.move rfl ?_
    refine SOps.move rfl ?_
    refine SOps.move rfl ?_
    refine SOps.litF rfl sliceB_35_9_1 zeroIs_9 rfl ?_
    refine SOps.callP (cWords hV a [h, c]) rfl ?_
    rintro _ rfl
    refine SOps.un rfl rfl ?_
    refine SOps.pick rfl rfl ?_
    refine SOps.nil ?_
    refine SCode.cond rfl (fun hc2 => ?_) (fun hc2 => ?_)
    · try simp only [nmL] at hc2
      refine SCode.seqR ?_
      refine SOps.assign rfl ?_
      refine SOps.assign rfl ?_
      refine SOps.nil ?_
      refine SCode.ret ?_
      exact ⟨_, Res.two (.tmp rfl) (.tmp rfl), (by unfold attR; first | (rw [if_pos (by simp_all)]; done) | (rw [if_pos (by simp_all)]; rfl) | (rw [if_neg (by simp_all)]; rfl)), rfl⟩
    · try simp only [nmL] at hc2
      refine SCode.skip ?_
      show SCode _ _ _ _
      refine SCode.seqR ?_
      have hvs : validS a l = true := by simp_all
      have hal : a.length ≤ 64 := by have := validA_iff.1 (validS_iff.1 hvs).1; omega
      have hwh : isWordA a h = true := by simp_all
      have hwc : isWordA a c = true := by simp_all
      have hq1 := word_facts hwh
      have hq2 := word_facts hwc
      refine SOps.move rfl ?_
      refine SOps.callP (cExtended _ (by omega)) rfl ?_
      rintro _ rfl
      refine SOps.move rfl ?_
      refine SOps.buildM placesB_65 zeroIs_65 rfl rfl ?_
      refine SOps.move rfl ?_
      refine SOps.move rfl ?_
      refine SOps.callP (jAttach hV a _ _ _ hr hq1.2.1 hq2.2.1 hq1.2.2.1 hq2.2.2.1) rfl ?_
      rintro _ rfl
      refine SOps.extract rfl rfl ?_
      refine SOps.extract rfl rfl ?_
      refine SOps.assign rfl ?_
      refine SOps.assign rfl ?_
      refine SOps.nil ?_
      refine SCode.ret ?_
      exact ⟨_, Res.two (.tmp rfl) (.tmp rfl), (by unfold attR; first | (rw [if_pos (by simp_all)]; done) | (rw [if_pos (by simp_all)]; rfl) | (rw [if_neg (by simp_all)]; rfl)), rfl⟩
theorem cAttachAll (hV : VS E) (a : List Letter) (l : List Rule) (sg : Sg) (hr : ∀ r ∈ l, SmR r) : GCall Tryd.prog E 25 [DLs a, DRs l, .agg (encSg sg)] [] (fun d H => d = tupA (allR a l sg) ∧ H = []) := by
  refine GCall.body (C := ⟨Tryd.prog, E, true⟩) Tryd.func25 rfl (fun _ => rfl) (by kernel_rfl) rfl ?_
  refine SCode.seqR ?_
  refine SOps.boxAM rfl rfl ?_
  refine SOps.assign rfl ?_
  refine SOps.assign rfl ?_
  refine SOps.nil ?_
  refine SCode.seq ?_
  refine SCode.seqR ?_
  refine SOps.move rfl ?_
  refine SOps.move rfl ?_
  refine SOps.callP (cValid hV _ _ (by assumption)) rfl ?_
  rintro _ rfl
  refine SOps.un rfl rfl ?_
  refine SOps.move rfl ?_
  refine SOps.caseB 12 rfl (fun hb1 => ?_) (fun hb1 => ?_)
  · try simp only [nmL] at hb1
    refine SOps.skip rfl ?_
    refine SOps.skip rfl ?_
    refine SOps.skip rfl ?_
    refine SOps.skip rfl ?_
    refine SOps.skip rfl ?_
    refine SOps.skip rfl ?_
    refine SOps.pick rfl rfl ?_
    refine SOps.move rfl ?_
    refine SOps.skip rfl ?_
    refine SOps.skip rfl ?_
    refine SOps.skip rfl ?_
    refine SOps.skip rfl ?_
    refine SOps.skip rfl ?_
    refine SOps.pick rfl rfl ?_
    refine SOps.nil ?_
    refine SCode.cond rfl (fun _ => ?_) (fun h => by cases h)
    refine SCode.seqR ?_
    refine SOps.assign rfl ?_
    refine SOps.assign rfl ?_
    refine SOps.nil ?_
    refine SCode.ret ?_
    exact ⟨_, Res.two (.tmp rfl) (.tmp rfl), (by unfold allR; first | (rw [if_pos (by simp_all)]; done) | (rw [if_pos (by simp_all)]; rfl) | (rw [if_neg (by simp_all)]; rfl)), rfl⟩
  · try simp only [nmL] at hb1
    refine SOps.move rfl ?_
    refine SOps.fieldPin rfl fieldB_50_0_0 ?_
    refine SOps.loadPin rfl flatB_9 ?_
    refine SOps.litF rfl sliceB_35_9_1 zeroIs_9 rfl ?_
    refine SOps.callP (cWords hV a [sg.host]) rfl ?_
    rintro _ rfl
    refine SOps.un rfl rfl ?_
    refine SOps.pick rfl rfl ?_
    refine SOps.move rfl ?_
    refine SOps.caseB 20 rfl (fun hb2 => ?_) (fun hb2 => ?_)
    · try simp only [nmL] at hb2
      refine SOps.skip rfl ?_
      refine SOps.skip rfl ?_
      refine SOps.skip rfl ?_
      refine SOps.skip rfl ?_
      refine SOps.skip rfl ?_
      refine SOps.pick rfl rfl ?_
      refine SOps.nil ?_
      refine SCode.cond rfl (fun _ => ?_) (fun h => by cases h)
      refine SCode.seqR ?_
      refine SOps.assign rfl ?_
      refine SOps.assign rfl ?_
      refine SOps.nil ?_
      refine SCode.ret ?_
      exact ⟨_, Res.two (.tmp rfl) (.tmp rfl), (by unfold allR; first | (rw [if_pos (by simp_all)]; done) | (rw [if_pos (by simp_all)]; rfl) | (rw [if_neg (by simp_all)]; rfl)), rfl⟩
    · try simp only [nmL] at hb2
      refine SOps.move rfl ?_
      refine SOps.fieldPin rfl fieldB_50_1_1 ?_
      refine SOps.loadPin rfl flatB_35 ?_
      refine SOps.callP (cWords hV _ _) rfl ?_
      rintro _ rfl
      refine SOps.un rfl rfl ?_
      refine SOps.pick rfl rfl ?_
      refine SOps.nil ?_
      refine SCode.cond rfl (fun hc3 => ?_) (fun hc3 => ?_)
      · try simp only [nmL] at hc3
        refine SCode.seqR ?_
        refine SOps.assign rfl ?_
        refine SOps.assign rfl ?_
        refine SOps.nil ?_
        refine SCode.ret ?_
        exact ⟨_, Res.two (.tmp rfl) (.tmp rfl), (by unfold allR; first | (rw [if_pos (by simp_all)]; done) | (rw [if_pos (by simp_all)]; rfl) | (rw [if_neg (by simp_all)]; rfl)), rfl⟩
      · try simp only [nmL] at hc3
        refine SCode.skip ?_
        show SCode _ _ _ _
        refine SCode.seq ?_
        have hvs : validS a l = true := by simp_all
        have hal : a.length ≤ 64 := by have := validA_iff.1 (validS_iff.1 hvs).1; omega
        have hwh : isWordA a sg.host = true := by simp_all
        have hwc : ∀ c ∈ sg.cls, isWordA a c = true := by simp_all
        apply SCode.drawAuto mixed_ [27, 28, 29, 30, 31, 32, 33, 34, 6, 7] [[.inr 0], [.inl 0], [.inr 1], [.inl 1, .inl 2], [.inr 5], [.inl 3, .inl 4], [.inl 5], [.inl 5], [.inl 6], [.inl 7]]
        · kernel_rfl
        · kernel_rfl
        · apply DOk.cons 27 
          · rfl
          · exact (NeedIs.inr _ rfl NeedIs.nil)
          · intro rest
            refine SOps.move rfl ?_
            exact SOps.nil rfl
          apply DOk.cons 28 
          · rfl
          · exact (NeedIs.inl 0 _ _ rfl rfl NeedIs.nil)
          · intro rest
            refine SOps.callP (cExtended _ (by omega)) rfl ?_
            rintro _ rfl
            exact SOps.nil rfl
          apply DOk.cons 29 
          · rfl
          · exact (NeedIs.inr _ rfl NeedIs.nil)
          · intro rest
            refine SOps.move rfl ?_
            exact SOps.nil rfl
          apply DOk.cons 30 
          · rfl
          · exact (NeedIs.inl 1 _ _ rfl rfl (NeedIs.inl 0 _ _ rfl rfl NeedIs.nil))
          · intro rest
            refine SOps.buildM placesB_65 zeroIs_65 rfl rfl ?_
            exact SOps.nil rfl
          apply DOk.cons 31 
          · rfl
          · exact (NeedIs.inr _ rfl NeedIs.nil)
          · intro rest
            refine SOps.loadPinA rfl aggB_50_2 (Nat.le_of_ble_eq_true rfl) ?_
            exact SOps.nil rfl
          apply DOk.cons 32 
          · rfl
          · exact (NeedIs.inl 1 _ _ rfl rfl (NeedIs.inl 0 _ _ rfl rfl NeedIs.nil))
          · intro rest
            refine SOps.callP (jAll hV _ _ _ (by assumption) (by assumption) (by assumption)) rfl ?_
            rintro _ rfl
            exact SOps.nil rfl
          apply DOk.cons 33 
          · rfl
          · exact (NeedIs.inl 0 _ _ rfl rfl NeedIs.nil)
          · intro rest
            refine SOps.extract rfl rfl ?_
            exact SOps.nil rfl
          apply DOk.cons 34 
          · rfl
          · exact (NeedIs.inl 1 _ _ rfl rfl NeedIs.nil)
          · intro rest
            refine SOps.extract rfl rfl ?_
            exact SOps.nil rfl
          apply DOk.cons 6 
          · rfl
          · exact (NeedIs.inl 1 _ _ rfl rfl NeedIs.nil)
          · intro rest
            refine SOps.assign rfl ?_
            exact SOps.nil rfl
          apply DOk.cons 7 
          · rfl
          · exact (NeedIs.inl 1 _ _ rfl rfl NeedIs.nil)
          · intro rest
            refine SOps.assign rfl ?_
            exact SOps.nil rfl
          exact DOk.nil
        · rfl
        · show SCode _ _ _ _
          refine SCode.ret ?_
          exact ⟨_, Res.two (.tmp rfl) (.tmp rfl), (by unfold allR; first | (rw [if_pos (by simp_all)]; done) | (rw [if_pos (by simp_all)]; rfl) | (rw [if_neg (by simp_all)]; rfl)), rfl⟩
end Go.GH
namespace Go.GH
open Go
theorem look_upd {d : TypeDesc} {k k' : Value} {v : DV} (hk : isKey d k = true) (hk' : isKey d k' = true) : ∀ (es : List (Value × DV)), (∀ p ∈ es, isKey d p.1 = true) → lookupL (updL es k v) k' = if sameKey k' k then some v else lookupL es k'
  | [], _ => rfl
  | p :: es, hs => by
    have hp := hs p (List.mem_cons_self ..)
    have ih := look_upd (v := v) hk hk' es (fun q hq => hs q (List.mem_cons_of_mem _ hq))
    rw [updL]
    by_cases h : sameKey k p.1 = true
    · rw [if_pos h]
      have e := (sameKey_iff hk hp).1 h
      simp only [lookupL]
      rw [← e]
      split <;> rfl
    · rw [if_neg h]
      simp only [lookupL]
      rw [ih]
      by_cases h2 : sameKey k' p.1 = true
      · rw [if_pos h2, if_pos h2]
        have e := (sameKey_iff hk' hp).1 h2
        rw [if_neg]
        intro h3
        have e3 := (sameKey_iff hk' hk).1 h3
        exact h ((sameKey_iff hk hp).2 (e3.symm.trans e))
      · rw [if_neg h2, if_neg h2]
theorem keys_upd {d : TypeDesc} {k : Value} {v : DV} (hk : isKey d k = true) : ∀ (es : List (Value × DV)), (∀ p ∈ es, isKey d p.1 = true) → ∀ p ∈ updL es k v, isKey d p.1 = true
  | [], _, p, hp => by rw [updL, List.mem_singleton] at hp; subst hp; exact hk
  | q :: es, hs, p, hp => by
    rw [updL] at hp
    split at hp
    · rcases List.mem_cons.1 hp with rfl | hp
      · exact hk
      · exact hs p (List.mem_cons_of_mem _ hp)
    · rcases List.mem_cons.1 hp with rfl | hp
      · exact hs p (List.mem_cons_self ..)
      · exact keys_upd hk es (fun q hq => hs q (List.mem_cons_of_mem _ hq)) p hp
def KI (es : List (Value × DV)) : Prop := ∀ p ∈ es, isKey (.int .i32) p.1 = true
def KS (es : List (Value × DV)) : Prop := ∀ p ∈ es, isKey .string p.1 = true
def tT : DV := .v (.bool true)
/-- A set of runes. -/
structure SetI (es : List (Value × DV)) (ks : List Int) : Prop where
  keys : KI es
  look : ∀ r : Int, lookupL es (.int .i32 r) = (if ks.contains r then some () else none).map (fun _ => tT)
theorem SetI.nil : SetI [] [] := ⟨(fun p hp => by cases hp), fun r => rfl⟩
theorem SetI.add {es : List (Value × DV)} {ks : List Int} (h : SetI es ks) (r : Int) : SetI (updL es (.int .i32 r) tT) (ks ++ [r]) := by
  refine ⟨keys_upd rfl es h.keys, fun q => ?_⟩
  rw [look_upd (d := .int .i32) rfl rfl es h.keys, h.look]
  by_cases e : q = r
  · subst e; simp [sameKey]
  · simp [sameKey, e]
/-- A set of strings. -/
structure SetS (es : List (Value × DV)) (ks : List ByteArray) : Prop where
  keys : KS es
  look : ∀ s : ByteArray, lookupL es (.string s) = (if memS s ks then some () else none).map (fun _ => tT)
theorem SetS.nil : SetS [] [] := ⟨(fun p hp => by cases hp), fun r => rfl⟩
theorem SetS.add {es : List (Value × DV)} {ks : List ByteArray} (h : SetS es ks) (r : ByteArray) : SetS (updL es (.string r) tT) (ks ++ [r]) := by
  refine ⟨keys_upd rfl es h.keys, fun q => ?_⟩
  rw [look_upd (d := .string) rfl rfl es h.keys, h.look, memS_snoc]
  by_cases e : q = r
  · subst e; simp [sameKey]
  · have e2 : ¬ r = q := fun x => e x.symm
    simp [sameKey, e, e2]
/-- What strings are mapped to what f says. -/
structure MapS (f : ByteArray → ByteArray) (es : List (Value × DV)) (ks : List ByteArray) : Prop where
  keys : KS es
  look : ∀ s : ByteArray, lookupL es (.string s) = (if memS s ks then some (f s) else none).map (fun x => DV.v (.string x))
theorem MapS.nil (f : ByteArray → ByteArray) : MapS f [] [] := ⟨(fun p hp => by cases hp), fun r => rfl⟩
theorem MapS.add {f : ByteArray → ByteArray} {es : List (Value × DV)} {ks : List ByteArray} (h : MapS f es ks) (r : ByteArray) : MapS f (updL es (.string r) (.v (.string (f r)))) (ks ++ [r]) := by
  refine ⟨keys_upd rfl es h.keys, fun q => ?_⟩
  rw [look_upd (d := .string) rfl rfl es h.keys, h.look, memS_snoc]
  by_cases e : q = r
  · subst e; simp [sameKey]
  · have e2 : ¬ r = q := fun x => e x.symm
    simp [sameKey, e, e2]
theorem SetS.more {es : List (Value × DV)} {ks : List ByteArray} (h : SetS es ks) {r : ByteArray} (hr : memS r ks = true) : SetS es (ks ++ [r]) := by
  refine ⟨h.keys, fun q => ?_⟩
  rw [h.look, memS_snoc]
  by_cases e : r = q
  · subst e; rw [hr]; rfl
  · simp [e]
theorem take_next {α : Type} {l : List α} {i : Nat} (h : i < l.length) : l.take (i + 1) = l.take i ++ [l[i]] := by
  rw [List.take_succ, List.getElem?_eq_getElem h]; rfl
theorem chg_nil (r : Int) : chg [] r = false := rfl
theorem chg_cons (q : Rule) (l : List Rule) (r : Int) : chg (q :: l) r = ((decide (q.fr = r) || (runes q.«to»).contains r) || chg l r) := rfl
end Go.GH
namespace Go.GH
open Go Go.Proofs
variable {E : Env}
theorem mapB_109 : mapB Tryd.prog 109 9 4 (.string) := ⟨by kernel_rfl, by kernel_rfl⟩
theorem sHasPrefix (s p : ByteArray) (hs : s.size ≤ 1048576) : GCall Tryd.prog E 88 [.v (.string s), .v (.string p)] [] (fun d H => d = .v (.bool (prefB p s)) ∧ H = []) := by
  refine GCall.body (C := ⟨Tryd.prog, E, true⟩) Tryd.func88 rfl (fun _ => rfl) (by kernel_rfl) rfl ?_
  refine SCode.seqR ?_
  refine SOps.assign rfl ?_
  refine SOps.nil ?_
  refine SCode.seqR ?_
  refine SOps.move rfl ?_
  refine SOps.lenStr rfl strB_9 ?_
  refine SOps.move rfl ?_
  refine SOps.lenStr rfl strB_9 ?_
  refine SOps.bin rfl rfl rfl ?_
  refine SOps.move rfl ?_
  refine SOps.caseB 10 rfl (fun hb1 => ?_) (fun hb1 => ?_)
  · try simp only [nmL] at hb1
    refine SOps.move rfl ?_
    refine SOps.move rfl ?_
    refine SOps.lenStr rfl strB_9 ?_
    refine SOps.sliceStr (0) (p.size) strB_9 rfl .none (.at (p.size) rfl (by first | omega | (simp only [lenB]; omega))) (by first | omega | (simp only [lenB]; omega)) (by first | omega | (simp only [lenB]; omega)) ?_
    refine SOps.move rfl ?_
    refine SOps.bin rfl rfl rfl ?_
    refine SOps.pick rfl rfl ?_
    refine SOps.assign rfl ?_
    refine SOps.nil ?_
    refine SCode.ret ?_
    have hps : p.size ≤ 1048576 ∨ ¬ p.size ≤ s.size := by omega
    exact ⟨_, Res.one (.tmp rfl), congrArg (fun b => DV.v (.bool b)) (by unfold prefB; first | (rw [decide_eq_true (show p.size ≤ s.size by omega), Bool.true_and]; done) | (rw [decide_eq_true (show p.size ≤ s.size by omega), Bool.true_and]; rfl) | (rw [decide_eq_false (show ¬ p.size ≤ s.size by omega)]; rfl)), rfl⟩
  · try simp only [nmL] at hb1
    refine SOps.skip rfl ?_
    refine SOps.skip rfl ?_
    refine SOps.skip rfl ?_
    refine SOps.skip rfl ?_
    refine SOps.skip rfl ?_
    refine SOps.skip rfl ?_
    refine SOps.pick rfl rfl ?_
    refine SOps.assign rfl ?_
    refine SOps.nil ?_
    refine SCode.ret ?_
    have hps : p.size ≤ 1048576 ∨ ¬ p.size ≤ s.size := by omega
    exact ⟨_, Res.one (.tmp rfl), congrArg (fun b => DV.v (.bool b)) (by unfold prefB; first | (rw [decide_eq_true (show p.size ≤ s.size by omega), Bool.true_and]; done) | (rw [decide_eq_true (show p.size ≤ s.size by omega), Bool.true_and]; rfl) | (rw [decide_eq_false (show ¬ p.size ≤ s.size by omega)]; rfl)), rfl⟩
theorem sCutPrefix0 (s p : ByteArray) (hs : s.size ≤ 1048576) : GCall Tryd.prog E 75 [.v (.string s), .v (.string p)] [] (fun d H => d = .tup [.v (.string (cutP (s, true) p).1), .v (.bool (cutP (s, true) p).2)] ∧ H = []) := by
  refine GCall.body (C := ⟨Tryd.prog, E, true⟩) Tryd.func75 rfl (fun _ => rfl) (by kernel_rfl) rfl ?_
  refine SCode.seqR ?_
  refine SOps.assign rfl ?_
  refine SOps.assign rfl ?_
  refine SOps.nil ?_
  refine SCode.seq ?_
  refine SCode.seqR ?_
  refine SOps.move rfl ?_
  refine SOps.move rfl ?_
  refine SOps.callP (sHasPrefix _ _ (by assumption)) rfl ?_
  rintro _ rfl
  refine SOps.un rfl rfl ?_
  refine SOps.nil ?_
  refine SCode.cond rfl (fun hc1 => ?_) (fun hc1 => ?_)
  · try simp only [nmL] at hc1
    have hpb : prefB p s = false := hc1
    refine SCode.seqR ?_
    refine SOps.move rfl ?_
    refine SOps.assign rfl ?_
    refine SOps.assign rfl ?_
    refine SOps.nil ?_
    refine SCode.ret ?_
    exact ⟨_, Res.two (.tmp rfl) (.tmp rfl), (by unfold cutP; rw [if_pos rfl, hpb]; rfl), rfl⟩
  · try simp only [nmL] at hc1
    have hpb : prefB p s = true := hc1
    have hple : p.size ≤ s.size := by unfold prefB at hpb; rw [Bool.and_eq_true, decide_eq_true_eq] at hpb; exact hpb.1
    refine SCode.skip ?_
    show SCode _ _ _ _
    refine SCode.seqR ?_
    refine SOps.move rfl ?_
    refine SOps.move rfl ?_
    refine SOps.lenStr rfl strB_9 ?_
    refine SOps.sliceStr (p.size) (_) strB_9 rfl (.at (p.size) rfl (by first | omega | (simp only [lenB]; omega))) .none (by first | omega | (simp only [lenB]; omega)) (by first | omega | (simp only [lenB]; omega)) ?_
    refine SOps.assign rfl ?_
    refine SOps.assign rfl ?_
    refine SOps.nil ?_
    refine SCode.ret ?_
    exact ⟨_, Res.two (.tmp rfl) (.tmp rfl), (by unfold cutP; rw [if_pos rfl, if_pos hpb]), rfl⟩
theorem sCutPrefix (s p : ByteArray) (hs : s.size ≤ 1048576) : GCall Tryd.prog E 47 [.v (.string s), .v (.string p)] [] (fun d H => d = .tup [.v (.string (cutP (s, true) p).1), .v (.bool (cutP (s, true) p).2)] ∧ H = []) := by
  refine GCall.body (C := ⟨Tryd.prog, E, true⟩) Tryd.func47 rfl (fun _ => rfl) (by kernel_rfl) rfl ?_
  refine SCode.seqR ?_
  refine SOps.assign rfl ?_
  refine SOps.assign rfl ?_
  refine SOps.nil ?_
  refine SCode.seqR ?_
  refine SOps.move rfl ?_
  refine SOps.move rfl ?_
  refine SOps.callP (sCutPrefix0 _ _ (by assumption)) rfl ?_
  rintro _ rfl
  refine SOps.extract rfl rfl ?_
  refine SOps.extract rfl rfl ?_
  refine SOps.assign rfl ?_
  refine SOps.assign rfl ?_
  refine SOps.nil ?_
  refine SCode.ret ?_
  exact ⟨_, Res.two (.tmp rfl) (.tmp rfl), rfl, rfl⟩
theorem cDistinct (l : List ByteArray) (hl : l.length ≤ 1048576) : GCall Tryd.prog E 49 [DStrs l] [] (fun d H => d = DStrs (onceL l) ∧ H = []) := by
  refine GCall.body (C := ⟨Tryd.prog, E, true⟩) Tryd.func49 rfl (fun _ => rfl) (by kernel_rfl) rfl ?_
  refine SCode.seqR ?_
  refine SOps.assign rfl ?_
  refine SOps.nil ?_
  refine SCode.seqR ?_
  refine SOps.makeMap0 (fun b0 hb_0 => ?_)
  refine SOps.assign rfl ?_
  refine SOps.nil ?_
  refine SCode.seqR ?_
  refine SOps.assign rfl ?_
  refine SOps.nil ?_
  refine SCode.seq ?_
  refine SCode.seqR ?_
  refine SOps.move rfl ?_
  refine SOps.lenM rfl sliceB_35_9_1 ?_
  refine SOps.move rfl ?_
  refine SOps.nil ?_
  refine SCode.block ?_
  refine SCode.loop3 (fun (i : Nat) (es : List (Value × DV)) (k : Nat) => (⟨26, [(3, .mp b0), (4, accD 1 k ((onceN l i).map encS)), (8, DStrs l), (9, .v (.int .i64 ((l.length : Nat) : Int))), (10, .v (.int .i64 (i : Int)))], [(b0, .map es)] ++ (accH 9 1 k ((onceN l i).map encS) ++ [])⟩ : St)) (fun (i : Nat) (es : List (Value × DV)) (k : Nat) => i ≤ l.length ∧ SetS es (l.take i)) (fun (i : Nat) (es : List (Value × DV)) (k : Nat) => l.length - i) (0) ([]) (0) (by exact ⟨Nat.zero_le _, SetS.nil⟩) (St.Le.of ⟨(by first | rfl | (show some _ = some _; simp)), (by first | rfl | (show some _ = some _; simp)), (by first | rfl | (show some _ = some _; simp)), (by first | rfl | (show some _ = some _; simp)), (by first | rfl | (show some _ = some _; simp)), trivial⟩ rfl (by first | rfl | (simp))) ?_
  rintro i es k ⟨hi, hS⟩
  have hks := hS.keys
  have hol := onceN_len l i
  refine SCode.seqR ?_
  refine SOps.bin rfl rfl rfl ?_
  refine SOps.nil ?_
  refine SCode.seq ?_
  refine SCode.cond rfl (fun hc1 => ?_) (fun hc1 => ?_)
  · try simp only [nmL] at hc1
    refine SCode.skip ?_
    show SCode _ _ _ _
    refine SCode.seq ?_
    refine SCode.block ?_
    refine SCode.seqR ?_
    have hil : i < l.length := by omega
    have hgd : l.getD i .empty = l[i] := by rw [List.getD_eq_getElem?_getD, List.getElem?_eq_getElem hil]; rfl
    have hon : onceN l (i + 1) = if memS (l[i]) (l.take i) then onceN l i else onceN l i ++ [l[i]] := by rw [onceN, hgd]
    refine SOps.indexM (i) rfl rfl sliceB_35_9_1 (by first | omega | (simp only [lenB]; omega)) (by first | omega | (simp only [lenB]; omega)) ?_
    refine SOps.loadPin rfl flatB_9 ?_
    refine SOps.assign rfl ?_
    refine SOps.nil ?_
    refine SCode.seqR ?_
    refine SOps.move rfl ?_
    refine SOps.move rfl ?_
    refine SOps.lookupOM 0 (if memS (l[i]) (l.take i) then some () else none) (fun _ => tT) rfl rfl rfl mapB_109 (hks) zeroIs_4 ((hS.look _)) (fun y2 hy2 => ?_) (fun hy2 => ?_)
    · have hmm : memS (l[i]) (l.take i) = true := by cases h : memS (l[i]) (l.take i) with | true => rfl | false => rw [h] at hy2; cases hy2
      refine SOps.un rfl rfl ?_
      refine SOps.nil ?_
      refine SCode.cond rfl (fun hc3 => ?_) (fun hc3 => ?_)
      · try simp only [nmL] at hc3
        refine SCode.seqR ?_
        refine SOps.move rfl ?_
        refine SOps.move rfl ?_
        refine SOps.mapUpdate 0 rfl rfl rfl rfl mapB_109 rfl (hks) ?_
        refine SOps.nil ?_
        refine SCode.region ?_
        refine SOps.move rfl ?_
        refine SOps.move rfl ?_
        refine SOps.litF rfl sliceB_35_9_1 zeroIs_9 rfl ?_
        refine SOps.appendAcc [_] [] sliceB_35_9_1 elemB_9_1_16 rfl rfl rfl SrcD.isl (by simp) (by first | (simp [lenB] <;> (first | omega | (simp only [lenB]; omega))) | (simp only [lenB]; (first | omega | (simp only [lenB]; omega)))) (by first | (simp <;> (first | omega | (simp only [lenB]; omega))) | (first | omega | (simp only [lenB]; omega))) (fun b1 => ?_)
        refine SOps.assign rfl ?_
        refine SOps.nil ?_
        show SCode _ _ _ _
        refine SCode.region ?_
        refine SOps.addI rfl rfl (by first | omega | (simp only [lenB]; omega)) (by first | omega | (simp only [lenB]; omega)) ?_
        refine SOps.move rfl ?_
        refine SOps.nil ?_
        first
          | (exfalso; simp at hc3; done)
          | (exfalso; simp_all; done)
          | exact ⟨i + 1, _, b2, ⟨by omega, by rw [take_next hil]; exact hS.add _⟩, by omega, St.Le.of ⟨rfl, (by rw [hon, if_neg hmm, List.map_append]; rfl), rfl, rfl, rfl, trivial⟩ rfl (by rw [hon, if_neg hmm, List.map_append]; rfl)⟩
          | exact ⟨i + 1, es, k, ⟨by omega, by rw [take_next hil]; exact hS.more hmm⟩, by omega, St.Le.of ⟨rfl, (by rw [hon, if_pos hmm]; rfl), rfl, rfl, rfl, trivial⟩ rfl (by rw [hon, if_pos hmm]; rfl)⟩
      · try simp only [nmL] at hc3
        refine SCode.skip ?_
        show SCode _ _ _ _
        refine SCode.region ?_
        refine SOps.addI rfl rfl (by first | omega | (simp only [lenB]; omega)) (by first | omega | (simp only [lenB]; omega)) ?_
        refine SOps.move rfl ?_
        refine SOps.nil ?_
        first
          | (exfalso; simp at hc3; done)
          | (exfalso; simp_all; done)
          | exact ⟨i + 1, _, b2, ⟨by omega, by rw [take_next hil]; exact hS.add _⟩, by omega, St.Le.of ⟨rfl, (by rw [hon, if_neg hmm, List.map_append]; rfl), rfl, rfl, rfl, trivial⟩ rfl (by rw [hon, if_neg hmm, List.map_append]; rfl)⟩
          | exact ⟨i + 1, es, k, ⟨by omega, by rw [take_next hil]; exact hS.more hmm⟩, by omega, St.Le.of ⟨rfl, (by rw [hon, if_pos hmm]; rfl), rfl, rfl, rfl, trivial⟩ rfl (by rw [hon, if_pos hmm]; rfl)⟩
    · have hmm : ¬ memS (l[i]) (l.take i) = true := fun h => by rw [if_pos h] at hy2; cases hy2
      refine SOps.un rfl rfl ?_
      refine SOps.nil ?_
      refine SCode.cond rfl (fun _ => ?_) (fun h => by cases h)
      refine SCode.seqR ?_
      refine SOps.move rfl ?_
      refine SOps.move rfl ?_
      refine SOps.mapUpdate 0 rfl rfl rfl rfl mapB_109 rfl (hks) ?_
      refine SOps.nil ?_
      refine SCode.region ?_
      refine SOps.move rfl ?_
      refine SOps.move rfl ?_
      refine SOps.litF rfl sliceB_35_9_1 zeroIs_9 rfl ?_
      refine SOps.appendAcc [_] [] sliceB_35_9_1 elemB_9_1_16 rfl rfl rfl SrcD.isl (by simp) (by first | (simp [lenB] <;> (first | omega | (simp only [lenB]; omega))) | (simp only [lenB]; (first | omega | (simp only [lenB]; omega)))) (by first | (simp <;> (first | omega | (simp only [lenB]; omega))) | (first | omega | (simp only [lenB]; omega))) (fun b2 => ?_)
      refine SOps.assign rfl ?_
      refine SOps.nil ?_
      show SCode _ _ _ _
      refine SCode.region ?_
      refine SOps.addI rfl rfl (by first | omega | (simp only [lenB]; omega)) (by first | omega | (simp only [lenB]; omega)) ?_
      refine SOps.move rfl ?_
      refine SOps.nil ?_
      first
        | (exfalso; simp at hc3; done)
        | (exfalso; simp_all; done)
        | exact ⟨i + 1, _, b2, ⟨by omega, by rw [take_next hil]; exact hS.add _⟩, by omega, St.Le.of ⟨rfl, (by rw [hon, if_neg hmm, List.map_append]; rfl), rfl, rfl, rfl, trivial⟩ rfl (by rw [hon, if_neg hmm, List.map_append]; rfl)⟩
        | exact ⟨i + 1, es, k, ⟨by omega, by rw [take_next hil]; exact hS.more hmm⟩, by omega, St.Le.of ⟨rfl, (by rw [hon, if_pos hmm]; rfl), rfl, rfl, rfl, trivial⟩ rfl (by rw [hon, if_pos hmm]; rfl)⟩
  · try simp only [nmL] at hc1
    refine SCode.exit ?_
    show SCode _ _ _ _
    refine SCode.seqR ?_
    refine SOps.freezeAcc (t := 4) [_] [] rfl rfl rfl ?_
    refine SOps.move rfl ?_
    refine SOps.assign rfl ?_
    refine SOps.nil ?_
    refine SCode.drop ?_
    refine SCode.ret ?_
    exact ⟨_, Res.one (.tmp rfl), by unfold onceL; rw [show l.length = i by omega], rfl⟩
end Go.GH
namespace Go.GH
open Go Go.Proofs
variable {E : Env}
theorem flatB_108 : flatB Tryd.prog 108 = true := by kernel_rfl
theorem mapB_108 : mapB Tryd.prog 108 21 4 (.int .i32) := ⟨by kernel_rfl, by kernel_rfl⟩
theorem oneB_108 : oneB Tryd.prog 108 = true := by kernel_rfl
theorem zeroIs_108 : zeroIs Tryd.prog 108 (.map none) := by unfold zeroIs; kernel_rfl
structure ChgM (l : List Rule) (es : List (Value × DV)) : Prop where
  keys : KI es
  look : ∀ r : Int, lookupL es (.int .i32 r) = (if chg l r then some () else none).map (fun _ => tT)
theorem beq_dec (a b : Int) : (a == b) = decide (b = a) := by rw [Bool.eq_iff_iff, beq_iff_eq, decide_eq_true_eq]; exact eq_comm
theorem chg_step {l : List Rule} {i : Nat} (h : i < l.length) (r : Int) : chg (l.drop i) r = ((decide ((l[i]).fr = r) || (runes (l[i]).«to»).contains r) || chg (l.drop (i + 1)) r) := by
  rw [List.drop_eq_getElem_cons h, chg_cons]
theorem cSteady (l : List Rule) (hr : ∀ r ∈ l, SmR r) : GCall Tryd.prog E 45 [DRs l] [] (fun d H => (∃ es, ChgM l es ∧ d = .fn 74 [.ipin [.imap es]]) ∧ H = []) := by
  refine GCall.body (C := ⟨Tryd.prog, E, true⟩) Tryd.func45 rfl (fun _ => rfl) (by kernel_rfl) rfl ?_
  refine SCode.seqR ?_
  refine SOps.assign rfl ?_
  refine SOps.nil ?_
  refine SCode.seqR ?_
  refine SOps.makeMap0 (fun b0 hb_0 => ?_)
  refine SOps.alloc (sz := 1) zeroIs_108 (fun b1 hb_1 => ?_)
  refine SOps.storeM 0 rfl rfl oneB_108 rfl ?_
  refine SOps.freezeRef (t := 3) 0 0 rfl rfl rfl rfl rfl ?_
  refine SOps.nil ?_
  refine SCode.seq ?_
  refine SCode.seqR ?_
  refine SOps.move rfl ?_
  refine SOps.lenM rfl sliceB_23_47_6 ?_
  refine SOps.move rfl ?_
  refine SOps.nil ?_
  refine SCode.block ?_
  refine SCode.loop3 (fun (i : Nat) (es : List (Value × DV)) (ks : List Int) => (⟨28, [(3, .ipin [.mp b0]), (9, DRs l), (10, .v (.int .i64 ((l.length : Nat) : Int))), (11, .v (.int .i64 (i : Int)))], [(b0, .map es)]⟩ : St)) (fun (i : Nat) (es : List (Value × DV)) (ks : List Int) => i ≤ l.length ∧ SetI es ks ∧ ∀ r, chg l r = (ks.contains r || chg (l.drop i) r)) (fun (i : Nat) (es : List (Value × DV)) (ks : List Int) => l.length - i) (0) ([]) ([]) (by exact ⟨Nat.zero_le _, SetI.nil, fun r => rfl⟩) (St.Le.of ⟨(by first | rfl | (show some _ = some _; simp)), (by first | rfl | (show some _ = some _; simp)), (by first | rfl | (show some _ = some _; simp)), (by first | rfl | (show some _ = some _; simp)), trivial⟩ rfl (by first | rfl | (simp))) ?_
  rintro i es ks ⟨hi, hS, hf⟩
  refine SCode.fact (isl_len (t := 9) rfl) (fun hB => ?_)
  simp only [List.length_map, lenB] at hB
  have hks := hS.keys
  refine SCode.seqR ?_
  refine SOps.bin rfl rfl rfl ?_
  refine SOps.nil ?_
  refine SCode.seq ?_
  refine SCode.cond rfl (fun hc1 => ?_) (fun hc1 => ?_)
  · try simp only [nmL] at hc1
    refine SCode.skip ?_
    show SCode _ _ _ _
    refine SCode.seq ?_
    refine SCode.block ?_
    refine SCode.seqR ?_
    have hil : i < l.length := by omega
    have hri := hr _ (List.getElem_mem hil)
    have hri1 := hri.1
    refine SOps.indexM (i) rfl rfl sliceB_23_47_6 (by first | omega | (simp only [lenB]; omega)) (by first | omega | (simp only [lenB]; omega)) ?_
    refine SOps.loadPinA rfl aggB_47_6 (Nat.le_of_ble_eq_true rfl) ?_
    refine SOps.alloc (sz := 6) zeroIs_47 (fun b2 hb_2 => ?_)
    refine SOps.storeAM 0 rfl rfl aggB_47_6 rfl ?_
    refine SOps.freezeRef (t := 5) 0 0 rfl rfl rfl rfl rfl ?_
    refine SOps.nil ?_
    refine SCode.seqR ?_
    refine SOps.loadPin rfl flatB_108 ?_
    refine SOps.fieldPin rfl fieldB_47_0_0 ?_
    refine SOps.loadPin rfl flatB_21 ?_
    refine SOps.mapUpdate 0 rfl rfl rfl rfl mapB_108 rfl (by assumption) ?_
    refine SOps.nil ?_
    refine SCode.seqR ?_
    refine SOps.fieldPin rfl fieldB_47_1_1 ?_
    refine SOps.loadPin rfl flatB_9 ?_
    refine SOps.rangeStr rfl strB_9 (fun b3 hb_3 => ?_)
    refine SOps.nil ?_
    refine SCode.block ?_
    refine SCode.loop4 (fun (p : Nat) (b : Nat) (es2 : List (Value × DV)) (ks2 : List Int) => (⟨28, [(3, .ipin [.mp b0]), (9, DRs l), (10, .v (.int .i64 ((l.length : Nat) : Int))), (11, .v (.int .i64 (i : Int))), (20, .it b)], [(b, .iter (l[i]).«to» p), (b0, .map es2)]⟩ : St)) (fun (p : Nat) (b : Nat) (es2 : List (Value × DV)) (ks2 : List Int) => SetI es2 ks2 ∧ ∀ r, chg l r = (ks2.contains r || ((runesAt (l[i]).«to» p).contains r || chg (l.drop (i + 1)) r))) (fun (p : Nat) (b : Nat) (es2 : List (Value × DV)) (ks2 : List Int) => (l[i]).«to».size - p) (0) (b3) (_) (ks ++ [(l[i]).fr]) (by exact ⟨hS.add _, fun r => by rw [hf r, chg_step hil, runesAt_zero]; simp only [List.contains_eq_any_beq, List.any_append, List.any_cons, List.any_nil, Bool.or_false, Bool.or_assoc, beq_dec]⟩) (St.Le.of ⟨(by first | rfl | (show some _ = some _; simp)), (by first | rfl | (show some _ = some _; simp)), (by first | rfl | (show some _ = some _; simp)), (by first | rfl | (show some _ = some _; simp)), (by first | rfl | (show some _ = some _; simp)), trivial⟩ rfl (by first | rfl | (simp))) ?_
    rintro p b es2 ks2 ⟨hS2, hf2⟩
    have hks2 := hS2.keys
    refine SCode.seqR ?_
    refine SOps.next 0 rfl rfl (fun hn2 => ?_) (fun hn2 => ?_) (by first | omega | (simp only [lenB]; omega))
    · refine SOps.extract rfl rfl ?_
      refine SOps.nil ?_
      refine SCode.seq ?_
      refine SCode.cond rfl (fun _ => ?_) (fun h => by cases h)
      refine SCode.skip ?_
      show SCode _ _ _ _
      refine SCode.block ?_
      refine SCode.seqR ?_
      refine SOps.extract rfl rfl ?_
      refine SOps.assign rfl ?_
      refine SOps.nil ?_
      refine SCode.region ?_
      refine SOps.loadPin rfl flatB_108 ?_
      refine SOps.move rfl ?_
      refine SOps.mapUpdate 1 rfl rfl rfl rfl mapB_108 rfl (by assumption) ?_
      refine SOps.nil ?_
      exact ⟨p + (Utf8.decode (l[i]).«to» p).2, b, _, ks2 ++ [_], ⟨hS2.add _, fun r => by rw [hf2 r, runesAt_lt hn2]; simp only [List.contains_eq_any_beq, List.any_append, List.any_cons, List.any_nil, Bool.or_false, Bool.or_assoc]⟩, by have := decode_w (l[i]).«to» p; omega, St.Le.of ⟨rfl, rfl, rfl, rfl, rfl, trivial⟩ rfl rfl⟩
    · refine SOps.extract rfl rfl ?_
      refine SOps.nil ?_
      refine SCode.seq ?_
      refine SCode.cond rfl (fun h => by cases h) (fun _ => ?_)
      refine SCode.exit ?_
      show SCode _ _ _ _
      refine SCode.region ?_
      refine SOps.addI rfl rfl (by first | omega | (simp only [lenB]; omega)) (by first | omega | (simp only [lenB]; omega)) ?_
      refine SOps.move rfl ?_
      refine SOps.nil ?_
      exact ⟨i + 1, es2, ks2, ⟨by omega, hS2, fun r => by rw [hf2 r, runesAt_ge hn2]; rfl⟩, by omega, St.Le.ofSub ⟨rfl, rfl, rfl, rfl, trivial⟩ (.cons _ (.refl _))⟩
  · try simp only [nmL] at hc1
    refine SCode.exit ?_
    show SCode _ _ _ _
    refine SCode.seqR ?_
    refine SOps.freezePinMap (t := 3) 0 rfl rfl rfl ?_
    refine SOps.makeFunc rfl ?_
    refine SOps.assign rfl ?_
    refine SOps.nil ?_
    refine SCode.drop ?_
    refine SCode.ret ?_
    exact ⟨_, Res.one (.tmp rfl), ⟨_, ⟨hS.keys, fun r => by rw [hS.look, hf r, List.drop_eq_nil_of_le (by omega), chg_nil, Bool.or_false]⟩, rfl⟩, rfl⟩
theorem cSteady1 (l : List Rule) (es : List (Value × DV)) (s : ByteArray) (hM : ChgM l es) (hs : s.size ≤ 1048576) : GCall Tryd.prog E 74 [.v (.string s), .ipin [.imap es]] [] (fun d H => d = .v (.string (keepS l s)) ∧ H = []) := by
  have hrl := runesAt_len s 0
  rw [runesAt_zero] at hrl
  have hks := hM.keys
  refine GCall.body (C := ⟨Tryd.prog, E, true⟩) Tryd.func74 rfl (fun _ => rfl) (by kernel_rfl) rfl ?_
  refine SCode.seqR ?_
  refine SOps.assign rfl ?_
  refine SOps.nil ?_
  refine SCode.seqR ?_
  refine SOps.allocV (sz := 2) zeroBld (fun b0 hb_0 => ?_)
  refine SOps.nil ?_
  refine SCode.seq ?_
  refine SCode.seqR ?_
  refine SOps.move rfl ?_
  refine SOps.rangeStr rfl strB_9 (fun b1 hb_1 => ?_)
  refine SOps.nil ?_
  refine SCode.block ?_
  refine SCode.loop5 (fun (p : Nat) (b : Nat) (g : Nat) (u : Bool) (bs : List UInt8) => (⟨19, [(1, .ipin [.imap es]), (4, .vref b0 100 2), (8, .it b)], [(b, .iter s p)] ++ bldH b0 g u bs⟩ : St)) (fun (p : Nat) (b : Nat) (g : Nat) (u : Bool) (bs : List UInt8) => bs ++ (encs ((runesAt s p).filter (fun c => !chg l c))).data.toList = (encs ((runes s).filter (fun c => !chg l c))).data.toList) (fun (p : Nat) (b : Nat) (g : Nat) (u : Bool) (bs : List UInt8) => s.size - p) (0) (b1) (0) (false) ([]) (by rfl) (St.Le.of ⟨(by first | rfl | (show some _ = some _; simp)), (by first | rfl | (show some _ = some _; simp)), (by first | rfl | (show some _ = some _; simp)), trivial⟩ rfl (by first | rfl | (simp))) ?_
  rintro p b g u bs hf
  have hbl : bs.length ≤ 8388608 := by have h8 := congrArg List.length hf; rw [List.length_append] at h8; have h9 := encs_size4 ((runes s).filter (fun c => !chg l c)); have h10 := List.length_filter_le (fun c => !chg l c) (runes s); have h11 : (encs ((runes s).filter (fun c => !chg l c))).data.toList.length = (encs ((runes s).filter (fun c => !chg l c))).size := (by simp); omega
  refine SCode.seqR ?_
  refine SOps.next 0 rfl rfl (fun hn1 => ?_) (fun hn1 => ?_) (by first | omega | (simp only [lenB]; omega))
  · refine SOps.extract rfl rfl ?_
    refine SOps.nil ?_
    refine SCode.seq ?_
    refine SCode.cond rfl (fun _ => ?_) (fun h => by cases h)
    refine SCode.skip ?_
    show SCode _ _ _ _
    refine SCode.block ?_
    refine SCode.seqR ?_
    refine SOps.extract rfl rfl ?_
    refine SOps.assign rfl ?_
    refine SOps.nil ?_
    refine SCode.seqR ?_
    refine SOps.loadPin rfl flatB_108 ?_
    refine SOps.move rfl ?_
    refine SOps.lookupIM (if chg l ((Utf8.decode s p).1 : Int) then some () else none) (fun _ => tT) rfl rfl mapB_108 (hks) zeroIs_4 ((hM.look _)) (fun y2 hy2 => ?_) (fun hy2 => ?_)
    · have hmm : chg l ((Utf8.decode s p).1 : Int) = true := by cases h : chg l ((Utf8.decode s p).1 : Int) with | true => rfl | false => rw [h] at hy2; cases hy2
      refine SOps.un rfl rfl ?_
      refine SOps.nil ?_
      refine SCode.cond rfl (fun hc3 => ?_) (fun hc3 => ?_)
      · try simp only [nmL] at hc3
        refine SCode.region ?_
        refine SOps.move rfl ?_
        refine SOps.callR (bldH _ _ _ _) [_] (bWriteRune _ _ _ _ _ (decode_valid _ _) (by omega)) rfl rfl ?_
        rintro _ _ ⟨g7, n7, rfl, rfl⟩
        refine SOps.nil ?_
        first
          | exact ⟨p + (Utf8.decode s p).2, b, g7, true, bs ++ encBy _, by rw [← hf, runesAt_lt hn1, List.filter_cons, if_pos (by simp_all), encs_cons_data, List.append_assoc], by have := decode_w s p; omega, St.Le.of ⟨rfl, rfl, rfl,  trivial⟩ rfl rfl⟩
          | exact ⟨p + (Utf8.decode s p).2, b, g, u, bs, by rw [← hf, runesAt_lt hn1, List.filter_cons, if_neg (by simp_all)], by have := decode_w s p; omega, St.Le.of ⟨rfl, rfl, rfl,  trivial⟩ rfl rfl⟩
      · try simp only [nmL] at hc3
        refine SCode.skip ?_
        first
          | exact ⟨p + (Utf8.decode s p).2, b, g7, true, bs ++ encBy _, by rw [← hf, runesAt_lt hn1, List.filter_cons, if_pos (by simp_all), encs_cons_data, List.append_assoc], by have := decode_w s p; omega, St.Le.of ⟨rfl, rfl, rfl,  trivial⟩ rfl rfl⟩
          | exact ⟨p + (Utf8.decode s p).2, b, g, u, bs, by rw [← hf, runesAt_lt hn1, List.filter_cons, if_neg (by simp_all)], by have := decode_w s p; omega, St.Le.of ⟨rfl, rfl, rfl,  trivial⟩ rfl rfl⟩
    · have hmm : chg l ((Utf8.decode s p).1 : Int) = false := by cases h : chg l ((Utf8.decode s p).1 : Int) with | false => rfl | true => rw [h] at hy2; cases hy2
      refine SOps.un rfl rfl ?_
      refine SOps.nil ?_
      refine SCode.cond rfl (fun _ => ?_) (fun h => by cases h)
      refine SCode.region ?_
      refine SOps.move rfl ?_
      refine SOps.callR (bldH _ _ _ _) [_] (bWriteRune _ _ _ _ _ (decode_valid _ _) (by omega)) rfl rfl ?_
      rintro _ _ ⟨g7, n7, rfl, rfl⟩
      refine SOps.nil ?_
      first
        | exact ⟨p + (Utf8.decode s p).2, b, g7, true, bs ++ encBy _, by rw [← hf, runesAt_lt hn1, List.filter_cons, if_pos (by simp_all), encs_cons_data, List.append_assoc], by have := decode_w s p; omega, St.Le.of ⟨rfl, rfl, rfl,  trivial⟩ rfl rfl⟩
        | exact ⟨p + (Utf8.decode s p).2, b, g, u, bs, by rw [← hf, runesAt_lt hn1, List.filter_cons, if_neg (by simp_all)], by have := decode_w s p; omega, St.Le.of ⟨rfl, rfl, rfl,  trivial⟩ rfl rfl⟩
  · refine SOps.extract rfl rfl ?_
    refine SOps.nil ?_
    refine SCode.seq ?_
    refine SCode.cond rfl (fun h => by cases h) (fun _ => ?_)
    refine SCode.exit ?_
    show SCode _ _ _ _
    refine SCode.seqR ?_
    refine SOps.callR (bldH _ _ _ _) [_] (bString _ _ _ _ (by omega)) rfl rfl ?_
    rintro _ _ ⟨rfl, rfl⟩
    refine SOps.assign rfl ?_
    refine SOps.nil ?_
    refine SCode.drop ?_
    refine SCode.ret ?_
    have hbs : bs = (keepS l s).data.toList := by rw [runesAt_ge hn1] at hf; rw [← List.append_nil bs]; exact hf
    exact ⟨_, Res.one (.tmp rfl), (by rw [hbs, ba_list]), rfl⟩
end Go.GH
namespace Go.GH
open Go
theorem flat_at {α β : Type} (f : α → List β) (N : Nat) (hN : ∀ x, (f x).length = N) : ∀ (l : List α) (i t : Nat), t < N → (l.flatMap f)[i * N + t]? = (l[i]?).bind (fun x => (f x)[t]?)
  | [], i, t, _ => by simp
  | x :: l, 0, t, ht => by
    rw [List.flatMap_cons, Nat.zero_mul, Nat.zero_add, List.getElem?_append_left (by rw [hN]; exact ht)]
    rfl
  | x :: l, i + 1, t, ht => by
    rw [List.flatMap_cons, List.getElem?_append_right (by rw [hN, Nat.succ_mul]; omega), hN]
    have e : (i + 1) * N + t - N = i * N + t := by rw [Nat.succ_mul]; omega
    rw [e, flat_at f N hN l i t ht]
    rfl
def candD (hs cs : List ByteArray) : List DV := (candL hs cs).map (fun s => DV.agg (encSg s))
def cN (cs : List ByteArray) : Nat := 1 + cs.length + cs.length * cs.length
theorem candD_len (hs cs : List ByteArray) : (candD hs cs).length = hs.length * cN cs := by rw [candD, List.length_map, candL_len]; rfl
theorem candD_at {hs cs : List ByteArray} {i t : Nat} (hi : i < hs.length) (ht : t < cN cs) {q : List ByteArray} (hq : (seqL cs)[t]? = some q) : (candD hs cs)[i * cN cs + t]? = some (.agg (encSg ⟨hs[i], q⟩)) := by
  unfold candD candL
  rw [List.getElem?_map, flat_at _ (cN cs) (fun x => by rw [List.length_map, seqL_len]; rfl) hs i t ht, List.getElem?_eq_getElem hi]
  simp [hq]
theorem cand0 {hs cs : List ByteArray} {i : Nat} (hi : i < hs.length) : (candD hs cs)[i * cN cs]? = some (.agg (encSg ⟨hs[i], []⟩)) := by
  have := candD_at (cs := cs) hi (t := 0) (by unfold cN; omega) (q := []) rfl
  rwa [Nat.add_zero] at this
theorem seq1 {cs : List ByteArray} {j : Nat} (hj : j < cs.length) : (seqL cs)[1 + j]? = some [cs[j]] := by
  unfold seqL
  rw [Nat.add_comm, List.getElem?_cons_succ, List.getElem?_append_left (by rw [List.length_map]; exact hj), List.getElem?_map, List.getElem?_eq_getElem hj]; rfl
theorem seq2 {cs : List ByteArray} {j k : Nat} (hj : j < cs.length) (hk : k < cs.length) : (seqL cs)[1 + cs.length + j * cs.length + k]? = some [cs[j], cs[k]] := by
  unfold seqL
  rw [show 1 + cs.length + j * cs.length + k = (cs.length + (j * cs.length + k)) + 1 by omega, List.getElem?_cons_succ, List.getElem?_append_right (by rw [List.length_map]; omega), List.length_map, Nat.add_sub_cancel_left,
    flat_at _ cs.length (fun x => by rw [List.length_map]) cs j k hk, List.getElem?_eq_getElem hj]
  simp [hk]
theorem cand1 {hs cs : List ByteArray} {i j : Nat} (hi : i < hs.length) (hj : j < cs.length) : (candD hs cs)[i * cN cs + 1 + j]? = some (.agg (encSg ⟨hs[i], [cs[j]]⟩)) := by
  rw [Nat.add_assoc]
  exact candD_at hi (by unfold cN; omega) (seq1 hj)
theorem mul_lt' {j k m : Nat} (hj : j < m) (hk : k < m) : j * m + k < m * m := by
  have h1 : (j + 1) * m ≤ m * m := Nat.mul_le_mul_right m hj
  rw [Nat.succ_mul] at h1
  omega
theorem cand2 {hs cs : List ByteArray} {i j k : Nat} (hi : i < hs.length) (hj : j < cs.length) (hk : k < cs.length) : (candD hs cs)[i * cN cs + 1 + cs.length + j * cs.length + k]? = some (.agg (encSg ⟨hs[i], [cs[j], cs[k]]⟩)) := by
  rw [show i * cN cs + 1 + cs.length + j * cs.length + k = i * cN cs + (1 + cs.length + j * cs.length + k) by omega]
  exact candD_at hi (by have := mul_lt' hj hk; unfold cN; omega) (seq2 hj hk)
theorem cutP_size (x : ByteArray × Bool) (p : ByteArray) : (cutP x p).1.size ≤ x.1.size := by
  unfold cutP
  split
  · split
    · show (x.1.extract p.size x.1.size).size ≤ _
      rw [ByteArray.size_extract]; omega
    · exact Nat.le_refl _
  · exact Nat.le_refl _
theorem keepS_size (l : List Rule) (s : ByteArray) : (keepS l s).size ≤ 4 * (runes s).length := by
  have h1 := encs_size4 (keepR l s)
  have h2 : (keepR l s).length ≤ (runes s).length := List.length_filter_le _ _
  unfold keepS
  omega
end Go.GH
namespace Go.GH
open Go Go.Proofs
variable {E : Env}
theorem flatB_72 : flatB Tryd.prog 72 = true := by kernel_rfl
theorem mapB_72 : mapB Tryd.prog 72 9 9 (.string) := ⟨by kernel_rfl, by kernel_rfl⟩
theorem placesB_50 : placesB Tryd.prog 50 [(0, 1), (1, 1)] = true := by kernel_rfl
theorem zeroIs_50 : zeroIs Tryd.prog 50 (.agg #[.string .empty, .slice none 0 0]) := by unfold zeroIs; kernel_rfl
theorem cPoss (l : List Rule) (w : ByteArray) (es : List (Value × DV)) (ks : List ByteArray) (sg : Sg) (hM : MapS (keepS l) es ks) (hw : (runes w).length ≤ 1000) (hh : memS sg.host ks = true) (hc : ∀ c ∈ sg.cls, memS c ks = true) : GCall Tryd.prog E 46 [.agg (encSg sg), .ipin [.v (.string (keepS l w))], .ipin [.imap es]] [] (fun d H => d = .v (.bool (possB l w sg)) ∧ H = []) := by
  have hks := hM.keys
  have hkz := keepS_size l w
  have hks2 : (keepS l w).size ≤ 1048576 := by omega
  refine GCall.body (C := ⟨Tryd.prog, E, true⟩) Tryd.func46 rfl (fun _ => rfl) (by kernel_rfl) rfl ?_
  refine SCode.seqR ?_
  refine SOps.boxAM rfl rfl ?_
  refine SOps.assign rfl ?_
  refine SOps.nil ?_
  refine SCode.seqR ?_
  refine SOps.loadPin rfl flatB_9 ?_
  refine SOps.loadPin rfl flatB_72 ?_
  refine SOps.fieldPin rfl fieldB_50_0_0 ?_
  refine SOps.loadPin rfl flatB_9 ?_
  refine SOps.lookupIM (some (keepS l sg.host)) (fun x => DV.v (.string x)) rfl rfl mapB_72 (hks) zeroIs_9 ((by rw [hM.look, if_pos hh])) (fun y1 hy1 => ?_) (fun hy1 => ?_)
  · obtain rfl := Option.some.inj hy1
    refine SOps.callP (sCutPrefix _ _ hks2) rfl ?_
    rintro _ rfl
    refine SOps.move rfl ?_
    refine SOps.extract rfl rfl ?_
    refine SOps.extract rfl rfl ?_
    refine SOps.assign rfl ?_
    refine SOps.assign rfl ?_
    refine SOps.nil ?_
    refine SCode.seq ?_
    refine SCode.seqR ?_
    refine SOps.fieldPin rfl fieldB_50_1_1 ?_
    refine SOps.loadPin rfl flatB_35 ?_
    refine SOps.lenM rfl sliceB_35_9_1 ?_
    refine SOps.move rfl ?_
    refine SOps.nil ?_
    refine SCode.block ?_
    refine SCode.loop3 (fun (i : Nat) (z : ByteArray) (u : Bool) => (⟨40, [(2, .ipin [.imap es]), (5, .v (.string z)), (6, .v (.bool u)), (19, DStrs sg.cls), (20, .v (.int .i64 ((sg.cls.length : Nat) : Int))), (21, .v (.int .i64 (i : Int)))], []⟩ : St)) (fun (i : Nat) (z : ByteArray) (u : Bool) => i ≤ sg.cls.length ∧ z.size ≤ 1048576 ∧ (sg.cls.drop i).foldl (fun x c => cutP x (keepS l c)) (z, u) = sg.cls.foldl (fun x c => cutP x (keepS l c)) (cutP (keepS l w, true) (keepS l sg.host))) (fun (i : Nat) (z : ByteArray) (u : Bool) => sg.cls.length - i) (0) ((cutP (keepS l w, true) (keepS l sg.host)).1) ((cutP (keepS l w, true) (keepS l sg.host)).2) (by exact ⟨Nat.zero_le _, Nat.le_trans (cutP_size _ _) hks2, rfl⟩) (St.Le.of ⟨(by first | rfl | (show some _ = some _; simp)), (by first | rfl | (show some _ = some _; simp)), (by first | rfl | (show some _ = some _; simp)), (by first | rfl | (show some _ = some _; simp)), (by first | rfl | (show some _ = some _; simp)), (by first | rfl | (show some _ = some _; simp)), trivial⟩ rfl (by first | rfl | (simp))) ?_
    rintro i z u ⟨hi, hz, hf⟩
    refine SCode.fact (isl_len (t := 19) rfl) (fun hB => ?_)
    simp only [List.length_map, lenB] at hB
    refine SCode.seqR ?_
    refine SOps.bin rfl rfl rfl ?_
    refine SOps.nil ?_
    refine SCode.seq ?_
    refine SCode.cond rfl (fun hc2 => ?_) (fun hc2 => ?_)
    · try simp only [nmL] at hc2
      refine SCode.skip ?_
      show SCode _ _ _ _
      refine SCode.seq ?_
      refine SCode.block ?_
      refine SCode.seqR ?_
      have hil : i < sg.cls.length := by omega
      have hci := hc _ (List.getElem_mem hil)
      have hdr : sg.cls.drop i = sg.cls[i] :: sg.cls.drop (i + 1) := List.drop_eq_getElem_cons hil
      refine SOps.indexM (i) rfl rfl sliceB_35_9_1 (by first | omega | (simp only [lenB]; omega)) (by first | omega | (simp only [lenB]; omega)) ?_
      refine SOps.loadPin rfl flatB_9 ?_
      refine SOps.assign rfl ?_
      refine SOps.nil ?_
      refine SCode.seqR ?_
      refine SOps.move rfl ?_
      refine SOps.nil ?_
      refine SCode.cond rfl (fun hc3 => ?_) (fun hc3 => ?_)
      · try simp only [nmL] at hc3
        subst hc3
        refine SCode.region ?_
        refine SOps.move rfl ?_
        refine SOps.loadPin rfl flatB_72 ?_
        refine SOps.move rfl ?_
        refine SOps.lookupIM (some (keepS l (sg.cls[i]))) (fun x => DV.v (.string x)) rfl rfl mapB_72 (hks) zeroIs_9 ((by rw [hM.look, if_pos hci])) (fun y4 hy4 => ?_) (fun hy4 => ?_)
        · obtain rfl := Option.some.inj hy4
          refine SOps.callP (sCutPrefix _ _ hz) rfl ?_
          rintro _ rfl
          refine SOps.move rfl ?_
          refine SOps.extract rfl rfl ?_
          refine SOps.extract rfl rfl ?_
          refine SOps.assign rfl ?_
          refine SOps.assign rfl ?_
          refine SOps.nil ?_
          show SCode _ _ _ _
          refine SCode.region ?_
          refine SOps.addI rfl rfl (by first | omega | (simp only [lenB]; omega)) (by first | omega | (simp only [lenB]; omega)) ?_
          refine SOps.move rfl ?_
          refine SOps.nil ?_
          first
            | exact ⟨i + 1, (cutP (z, true) (keepS l (sg.cls[i]))).1, (cutP (z, true) (keepS l (sg.cls[i]))).2, ⟨by omega, Nat.le_trans (cutP_size _ _) hz, by rw [← hf, hdr]; rfl⟩, by omega, St.Le.of ⟨rfl, rfl, rfl, rfl, rfl, rfl, trivial⟩⟩
            | exact ⟨i + 1, z, false, ⟨by omega, hz, by rw [← hf, hdr]; rfl⟩, by omega, St.Le.of ⟨rfl, rfl, rfl, rfl, rfl, rfl, trivial⟩⟩
        · cases hy4
      · try simp only [nmL] at hc3
        subst hc3
        refine SCode.skip ?_
        show SCode _ _ _ _
        refine SCode.region ?_
        refine SOps.addI rfl rfl (by first | omega | (simp only [lenB]; omega)) (by first | omega | (simp only [lenB]; omega)) ?_
        refine SOps.move rfl ?_
        refine SOps.nil ?_
        first
          | exact ⟨i + 1, (cutP (z, true) (keepS l (sg.cls[i]))).1, (cutP (z, true) (keepS l (sg.cls[i]))).2, ⟨by omega, Nat.le_trans (cutP_size _ _) hz, by rw [← hf, hdr]; rfl⟩, by omega, St.Le.of ⟨rfl, rfl, rfl, rfl, rfl, rfl, trivial⟩⟩
          | exact ⟨i + 1, z, false, ⟨by omega, hz, by rw [← hf, hdr]; rfl⟩, by omega, St.Le.of ⟨rfl, rfl, rfl, rfl, rfl, rfl, trivial⟩⟩
    · try simp only [nmL] at hc2
      refine SCode.exit ?_
      show SCode _ _ _ _
      refine SCode.seqR ?_
      refine SOps.move rfl ?_
      refine SOps.move rfl ?_
      refine SOps.caseB 36 rfl (fun hb5 => ?_) (fun hb5 => ?_)
      · try simp only [nmL] at hb5
        refine SOps.move rfl ?_
        refine SOps.bin rfl rfl rfl ?_
        refine SOps.pick rfl rfl ?_
        refine SOps.assign rfl ?_
        refine SOps.nil ?_
        refine SCode.ret ?_
        have hx : (z, u) = sg.cls.foldl (fun x c => cutP x (keepS l c)) (cutP (keepS l w, true) (keepS l sg.host)) := by rw [← hf, List.drop_eq_nil_of_le (by omega)]; rfl
        exact ⟨_, Res.one (.tmp rfl), congrArg (fun b => DV.v (.bool b)) (by unfold possB; rw [← hx]; first | (rw [show u = true by simp_all]; done) | (rw [show u = true by simp_all, Bool.true_and]; done) | (rw [show u = true by simp_all]; rfl) | (rw [show u = false by simp_all]; rfl)), rfl⟩
      · try simp only [nmL] at hb5
        refine SOps.skip rfl ?_
        refine SOps.skip rfl ?_
        refine SOps.pick rfl rfl ?_
        refine SOps.assign rfl ?_
        refine SOps.nil ?_
        refine SCode.ret ?_
        have hx : (z, u) = sg.cls.foldl (fun x c => cutP x (keepS l c)) (cutP (keepS l w, true) (keepS l sg.host)) := by rw [← hf, List.drop_eq_nil_of_le (by omega)]; rfl
        exact ⟨_, Res.one (.tmp rfl), congrArg (fun b => DV.v (.bool b)) (by unfold possB; rw [← hx]; first | (rw [show u = true by simp_all]; done) | (rw [show u = true by simp_all, Bool.true_and]; done) | (rw [show u = true by simp_all]; rfl) | (rw [show u = false by simp_all]; rfl)), rfl⟩
  · cases hy1
theorem cCandidates (hs cs : List ByteArray)  : GCall Tryd.prog E 48 [DStrs hs, DStrs cs] [] (fun d H => d = .fn 76 [.ipin [DStrs hs], .ipin [DStrs cs]] ∧ H = []) := by
  refine GCall.body (C := ⟨Tryd.prog, E, true⟩) Tryd.func48 rfl (fun _ => rfl) (by kernel_rfl) rfl ?_
  refine SCode.seqR ?_
  refine SOps.boxF rfl rfl rfl ?_
  refine SOps.boxF rfl rfl rfl ?_
  refine SOps.assign rfl ?_
  refine SOps.nil ?_
  refine SCode.seqR ?_
  refine SOps.makeFunc rfl ?_
  refine SOps.assign rfl ?_
  refine SOps.nil ?_
  refine SCode.ret ?_
  exact ⟨_, Res.one (.tmp rfl), rfl, rfl⟩
theorem iCandidates (hs cs : List ByteArray) : GIter Tryd.prog E 76 [.ipin [DStrs hs], .ipin [DStrs cs]] (candD hs cs) := by
  refine GIter.body (C := ⟨Tryd.prog, E, true⟩) Tryd.func76 rfl (by kernel_rfl) rfl rfl (fun l J hK hY => ?_)
  refine SYCode.seqR ?_
  refine SYOps.one hK (SOps.loadPin rfl flatB_35 (SOps.nil rfl)) rfl rfl ?_
  refine SYOps.one hK (SOps.lenM rfl sliceB_35_9_1 (SOps.nil rfl)) rfl rfl ?_
  refine SYOps.one hK (SOps.move rfl (SOps.nil rfl)) rfl rfl ?_
  refine SYOps.nil ?_
  refine SYCode.block ?_
  refine SYCode.loop1 (ι := fun i => i * cN cs) (hx := by exact Nat.zero_mul _) (fun (i : Nat) => (⟨60, [(0, .v (.func (.yield l) #[] #[])), (1, .ipin [DStrs hs]), (2, .ipin [DStrs cs]), (12, DStrs hs), (13, .v (.int .i64 ((hs.length : Nat) : Int))), (14, .v (.int .i64 (i : Int)))], []⟩ : St)) (fun (i : Nat) => i ≤ hs.length) (fun (i : Nat) => hs.length - i) (0) (by exact Nat.zero_le _) (St.Le.of ⟨(by first | rfl | (show some _ = some _; simp)), (by first | rfl | (show some _ = some _; simp)), (by first | rfl | (show some _ = some _; simp)), (by first | rfl | (show some _ = some _; simp)), (by first | rfl | (show some _ = some _; simp)), (by first | rfl | (show some _ = some _; simp)), trivial⟩ rfl (by first | rfl | (simp))) ?_
  rintro i hi
  refine SYCode.fact (isl_len (t := 12) rfl) (fun hB => ?_)
  simp only [List.length_map, lenB] at hB
  refine SYCode.seqR ?_
  refine SYOps.one hK (SOps.bin rfl rfl rfl (SOps.nil rfl)) rfl rfl ?_
  refine SYOps.nil ?_
  refine SYCode.seq ?_
  refine SYCode.cond rfl (fun hc1 => ?_) (fun hc1 => ?_)
  · try simp only [nmL] at hc1
    refine SYCode.skip ?_
    show SYCode _ _ _ _ _ _
    refine SYCode.seq ?_
    refine SYCode.block ?_
    refine SYCode.seqR ?_
    have hil : i < hs.length := by omega
    refine SYOps.one hK (SOps.indexM (i) rfl rfl sliceB_35_9_1 (by first | omega | (simp only [lenB]; omega)) (by first | omega | (simp only [lenB]; omega)) (SOps.nil rfl)) rfl rfl ?_
    refine SYOps.one hK (SOps.loadPin rfl flatB_9 (SOps.nil rfl)) rfl rfl ?_
    refine SYOps.one hK (SOps.assign rfl (SOps.nil rfl)) rfl rfl ?_
    refine SYOps.nil ?_
    refine SYCode.seq ?_
    refine SYCode.seqR ?_
    refine SYOps.one hK (SOps.move rfl (SOps.nil rfl)) rfl rfl ?_
    refine SYOps.one hK (SOps.move rfl (SOps.nil rfl)) rfl rfl ?_
    refine SYOps.one hK (SOps.buildM placesB_50 zeroIs_50 rfl rfl (SOps.nil rfl)) rfl rfl ?_
    refine SYOps.relab (t := 20) (d' := .agg (encSg ⟨hs[i], []⟩)) rfl (fun w F v hv => rep_aggNil (sz := 1) 1 hv rfl) ?_
    refine SYOps.yield hY rfl rfl (cand0 hil) rfl ?_
    refine SYOps.one hK (SOps.un rfl rfl (SOps.nil rfl)) rfl rfl ?_
    refine SYOps.nil ?_
    refine SYCode.cond rfl (fun h => by cases h) (fun _ => ?_)
    refine SYCode.skip ?_
    show SYCode _ _ _ _ _ _
    refine SYCode.seq ?_
    refine SYCode.seqR ?_
    refine SYOps.one hK (SOps.loadPin rfl flatB_35 (SOps.nil rfl)) rfl rfl ?_
    refine SYOps.one hK (SOps.lenM rfl sliceB_35_9_1 (SOps.nil rfl)) rfl rfl ?_
    refine SYOps.one hK (SOps.move rfl (SOps.nil rfl)) rfl rfl ?_
    refine SYOps.nil ?_
    refine SYCode.block ?_
    refine SYCode.loop1 (ι := fun j => i * cN cs + 1 + j) (hx := by rfl) (fun (j : Nat) => (⟨60, [(0, .v (.func (.yield l) #[] #[])), (1, .ipin [DStrs hs]), (2, .ipin [DStrs cs]), (5, .v (.string (hs[i]))), (12, DStrs hs), (13, .v (.int .i64 ((hs.length : Nat) : Int))), (14, .v (.int .i64 (i : Int))), (23, DStrs cs), (24, .v (.int .i64 ((cs.length : Nat) : Int))), (25, .v (.int .i64 (j : Int)))], []⟩ : St)) (fun (j : Nat) => j ≤ cs.length) (fun (j : Nat) => cs.length - j) (0) (by exact Nat.zero_le _) (St.Le.of ⟨(by first | rfl | (show some _ = some _; simp)), (by first | rfl | (show some _ = some _; simp)), (by first | rfl | (show some _ = some _; simp)), (by first | rfl | (show some _ = some _; simp)), (by first | rfl | (show some _ = some _; simp)), (by first | rfl | (show some _ = some _; simp)), (by first | rfl | (show some _ = some _; simp)), (by first | rfl | (show some _ = some _; simp)), (by first | rfl | (show some _ = some _; simp)), (by first | rfl | (show some _ = some _; simp)), trivial⟩ rfl (by first | rfl | (simp))) ?_
    rintro j hj
    refine SYCode.fact (isl_len (t := 23) rfl) (fun hB2 => ?_)
    simp only [List.length_map, lenB] at hB2
    refine SYCode.seqR ?_
    refine SYOps.one hK (SOps.bin rfl rfl rfl (SOps.nil rfl)) rfl rfl ?_
    refine SYOps.nil ?_
    refine SYCode.seq ?_
    refine SYCode.cond rfl (fun hc2 => ?_) (fun hc2 => ?_)
    · try simp only [nmL] at hc2
      refine SYCode.skip ?_
      show SYCode _ _ _ _ _ _
      refine SYCode.seq ?_
      refine SYCode.block ?_
      refine SYCode.seqR ?_
      have hjl : j < cs.length := by omega
      refine SYOps.one hK (SOps.indexM (j) rfl rfl sliceB_35_9_1 (by first | omega | (simp only [lenB]; omega)) (by first | omega | (simp only [lenB]; omega)) (SOps.nil rfl)) rfl rfl ?_
      refine SYOps.one hK (SOps.loadPin rfl flatB_9 (SOps.nil rfl)) rfl rfl ?_
      refine SYOps.one hK (SOps.assign rfl (SOps.nil rfl)) rfl rfl ?_
      refine SYOps.nil ?_
      refine SYCode.seqR ?_
      refine SYOps.one hK (SOps.move rfl (SOps.nil rfl)) rfl rfl ?_
      refine SYOps.one hK (SOps.move rfl (SOps.nil rfl)) rfl rfl ?_
      refine SYOps.one hK (SOps.move rfl (SOps.nil rfl)) rfl rfl ?_
      refine SYOps.one hK (SOps.litF rfl sliceB_35_9_1 zeroIs_9 rfl (SOps.nil rfl)) rfl rfl ?_
      refine SYOps.one hK (SOps.buildM placesB_50 zeroIs_50 rfl rfl (SOps.nil rfl)) rfl rfl ?_
      refine SYOps.yield hY rfl rfl (cand1 hil hjl) rfl ?_
      refine SYOps.one hK (SOps.un rfl rfl (SOps.nil rfl)) rfl rfl ?_
      refine SYOps.nil ?_
      refine SYCode.cond rfl (fun h => by cases h) (fun _ => ?_)
      refine SYCode.skip ?_
      show SYCode _ _ _ _ _ _
      refine SYCode.region ?_
      refine SYOps.one hK (SOps.addI rfl rfl (by first | omega | (simp only [lenB]; omega)) (by first | omega | (simp only [lenB]; omega)) (SOps.nil rfl)) rfl rfl ?_
      refine SYOps.one hK (SOps.move rfl (SOps.nil rfl)) rfl rfl ?_
      refine SYOps.nil ?_
      exact ⟨j + 1, by omega, by omega, St.Le.of ⟨rfl, rfl, rfl, rfl, rfl, rfl, rfl, rfl, rfl, rfl, trivial⟩, by show i * cN cs + 1 + (j + 1) = i * cN cs + 1 + j + 1; omega⟩
    · try simp only [nmL] at hc2
      refine SYCode.exit ?_
      show SYCode _ _ _ _ _ _
      refine SYCode.seqR ?_
      refine SYOps.one hK (SOps.loadPin rfl flatB_35 (SOps.nil rfl)) rfl rfl ?_
      refine SYOps.one hK (SOps.lenM rfl sliceB_35_9_1 (SOps.nil rfl)) rfl rfl ?_
      refine SYOps.one hK (SOps.move rfl (SOps.nil rfl)) rfl rfl ?_
      refine SYOps.nil ?_
      refine SYCode.block ?_
      refine SYCode.loop1 (ι := fun j => i * cN cs + 1 + cs.length + j * cs.length) (hx := by show i * cN cs + 1 + cs.length + 0 * cs.length = i * cN cs + 1 + j; rw [Nat.zero_mul]; omega) (fun (j : Nat) => (⟨60, [(0, .v (.func (.yield l) #[] #[])), (1, .ipin [DStrs hs]), (2, .ipin [DStrs cs]), (5, .v (.string (hs[i]))), (12, DStrs hs), (13, .v (.int .i64 ((hs.length : Nat) : Int))), (14, .v (.int .i64 (i : Int))), (37, DStrs cs), (38, .v (.int .i64 ((cs.length : Nat) : Int))), (39, .v (.int .i64 (j : Int)))], []⟩ : St)) (fun (j : Nat) => j ≤ cs.length) (fun (j : Nat) => cs.length - j) (0) (by exact Nat.zero_le _) (St.Le.of ⟨(by first | rfl | (show some _ = some _; simp)), (by first | rfl | (show some _ = some _; simp)), (by first | rfl | (show some _ = some _; simp)), (by first | rfl | (show some _ = some _; simp)), (by first | rfl | (show some _ = some _; simp)), (by first | rfl | (show some _ = some _; simp)), (by first | rfl | (show some _ = some _; simp)), (by first | rfl | (show some _ = some _; simp)), (by first | rfl | (show some _ = some _; simp)), (by first | rfl | (show some _ = some _; simp)), trivial⟩ rfl (by first | rfl | (simp))) ?_
      rintro j hj
      refine SYCode.fact (isl_len (t := 37) rfl) (fun hB3 => ?_)
      simp only [List.length_map, lenB] at hB3
      refine SYCode.seqR ?_
      refine SYOps.one hK (SOps.bin rfl rfl rfl (SOps.nil rfl)) rfl rfl ?_
      refine SYOps.nil ?_
      refine SYCode.seq ?_
      refine SYCode.cond rfl (fun hc3 => ?_) (fun hc3 => ?_)
      · try simp only [nmL] at hc3
        refine SYCode.skip ?_
        show SYCode _ _ _ _ _ _
        refine SYCode.seq ?_
        refine SYCode.block ?_
        refine SYCode.seqR ?_
        have hjl : j < cs.length := by omega
        refine SYOps.one hK (SOps.indexM (j) rfl rfl sliceB_35_9_1 (by first | omega | (simp only [lenB]; omega)) (by first | omega | (simp only [lenB]; omega)) (SOps.nil rfl)) rfl rfl ?_
        refine SYOps.one hK (SOps.loadPin rfl flatB_9 (SOps.nil rfl)) rfl rfl ?_
        refine SYOps.one hK (SOps.assign rfl (SOps.nil rfl)) rfl rfl ?_
        refine SYOps.nil ?_
        refine SYCode.seqR ?_
        refine SYOps.one hK (SOps.loadPin rfl flatB_35 (SOps.nil rfl)) rfl rfl ?_
        refine SYOps.one hK (SOps.lenM rfl sliceB_35_9_1 (SOps.nil rfl)) rfl rfl ?_
        refine SYOps.one hK (SOps.move rfl (SOps.nil rfl)) rfl rfl ?_
        refine SYOps.nil ?_
        refine SYCode.block ?_
        refine SYCode.loop1 (ι := fun k => i * cN cs + 1 + cs.length + j * cs.length + k) (hx := by rfl) (fun (k : Nat) => (⟨60, [(0, .v (.func (.yield l) #[] #[])), (1, .ipin [DStrs hs]), (2, .ipin [DStrs cs]), (5, .v (.string (hs[i]))), (9, .v (.string (cs[j]))), (12, DStrs hs), (13, .v (.int .i64 ((hs.length : Nat) : Int))), (14, .v (.int .i64 (i : Int))), (37, DStrs cs), (38, .v (.int .i64 ((cs.length : Nat) : Int))), (39, .v (.int .i64 (j : Int))), (43, DStrs cs), (44, .v (.int .i64 ((cs.length : Nat) : Int))), (45, .v (.int .i64 (k : Int)))], []⟩ : St)) (fun (k : Nat) => k ≤ cs.length) (fun (k : Nat) => cs.length - k) (0) (by exact Nat.zero_le _) (St.Le.of ⟨(by first | rfl | (show some _ = some _; simp)), (by first | rfl | (show some _ = some _; simp)), (by first | rfl | (show some _ = some _; simp)), (by first | rfl | (show some _ = some _; simp)), (by first | rfl | (show some _ = some _; simp)), (by first | rfl | (show some _ = some _; simp)), (by first | rfl | (show some _ = some _; simp)), (by first | rfl | (show some _ = some _; simp)), (by first | rfl | (show some _ = some _; simp)), (by first | rfl | (show some _ = some _; simp)), (by first | rfl | (show some _ = some _; simp)), (by first | rfl | (show some _ = some _; simp)), (by first | rfl | (show some _ = some _; simp)), (by first | rfl | (show some _ = some _; simp)), trivial⟩ rfl (by first | rfl | (simp))) ?_
        rintro k hk
        refine SYCode.fact (isl_len (t := 43) rfl) (fun hB4 => ?_)
        simp only [List.length_map, lenB] at hB4
        refine SYCode.seqR ?_
        refine SYOps.one hK (SOps.bin rfl rfl rfl (SOps.nil rfl)) rfl rfl ?_
        refine SYOps.nil ?_
        refine SYCode.seq ?_
        refine SYCode.cond rfl (fun hc4 => ?_) (fun hc4 => ?_)
        · try simp only [nmL] at hc4
          refine SYCode.skip ?_
          show SYCode _ _ _ _ _ _
          refine SYCode.seq ?_
          refine SYCode.block ?_
          refine SYCode.seqR ?_
          have hkl : k < cs.length := by omega
          refine SYOps.one hK (SOps.indexM (k) rfl rfl sliceB_35_9_1 (by first | omega | (simp only [lenB]; omega)) (by first | omega | (simp only [lenB]; omega)) (SOps.nil rfl)) rfl rfl ?_
          refine SYOps.one hK (SOps.loadPin rfl flatB_9 (SOps.nil rfl)) rfl rfl ?_
          refine SYOps.one hK (SOps.assign rfl (SOps.nil rfl)) rfl rfl ?_
          refine SYOps.nil ?_
          refine SYCode.seqR ?_
          refine SYOps.one hK (SOps.move rfl (SOps.nil rfl)) rfl rfl ?_
          refine SYOps.one hK (SOps.move rfl (SOps.nil rfl)) rfl rfl ?_
          refine SYOps.one hK (SOps.move rfl (SOps.nil rfl)) rfl rfl ?_
          refine SYOps.one hK (SOps.move rfl (SOps.nil rfl)) rfl rfl ?_
          refine SYOps.one hK (SOps.litF rfl sliceB_35_9_1 zeroIs_9 rfl (SOps.nil rfl)) rfl rfl ?_
          refine SYOps.one hK (SOps.buildM placesB_50 zeroIs_50 rfl rfl (SOps.nil rfl)) rfl rfl ?_
          refine SYOps.yield hY rfl rfl (cand2 hil hjl hkl) rfl ?_
          refine SYOps.one hK (SOps.un rfl rfl (SOps.nil rfl)) rfl rfl ?_
          refine SYOps.nil ?_
          refine SYCode.cond rfl (fun h => by cases h) (fun _ => ?_)
          refine SYCode.skip ?_
          show SYCode _ _ _ _ _ _
          refine SYCode.region ?_
          refine SYOps.one hK (SOps.addI rfl rfl (by first | omega | (simp only [lenB]; omega)) (by first | omega | (simp only [lenB]; omega)) (SOps.nil rfl)) rfl rfl ?_
          refine SYOps.one hK (SOps.move rfl (SOps.nil rfl)) rfl rfl ?_
          refine SYOps.nil ?_
          exact ⟨k + 1, by omega, by omega, St.Le.of ⟨rfl, rfl, rfl, rfl, rfl, rfl, rfl, rfl, rfl, rfl, rfl, rfl, rfl, rfl, trivial⟩, by rfl⟩
        · try simp only [nmL] at hc4
          refine SYCode.exit ?_
          show SYCode _ _ _ _ _ _
          refine SYCode.region ?_
          refine SYOps.one hK (SOps.addI rfl rfl (by first | omega | (simp only [lenB]; omega)) (by first | omega | (simp only [lenB]; omega)) (SOps.nil rfl)) rfl rfl ?_
          refine SYOps.one hK (SOps.move rfl (SOps.nil rfl)) rfl rfl ?_
          refine SYOps.nil ?_
          exact ⟨j + 1, by omega, by omega, St.Le.of ⟨rfl, rfl, rfl, rfl, rfl, rfl, rfl, rfl, rfl, rfl, trivial⟩, by show i * cN cs + 1 + cs.length + (j + 1) * cs.length = i * cN cs + 1 + cs.length + j * cs.length + k; rw [Nat.succ_mul]; omega⟩
      · try simp only [nmL] at hc3
        refine SYCode.exit ?_
        show SYCode _ _ _ _ _ _
        refine SYCode.region ?_
        refine SYOps.one hK (SOps.addI rfl rfl (by first | omega | (simp only [lenB]; omega)) (by first | omega | (simp only [lenB]; omega)) (SOps.nil rfl)) rfl rfl ?_
        refine SYOps.one hK (SOps.move rfl (SOps.nil rfl)) rfl rfl ?_
        refine SYOps.nil ?_
        exact ⟨i + 1, by omega, by omega, St.Le.of ⟨rfl, rfl, rfl, rfl, rfl, rfl, trivial⟩, by show (i + 1) * cN cs = i * cN cs + 1 + cs.length + j * cs.length; rw [Nat.succ_mul, show j = cs.length by omega]; unfold cN; omega⟩
  · try simp only [nmL] at hc1
    refine SYCode.exit ?_
    exact ⟨.inl rfl, by show i * cN cs = _; rw [candD_len, show i = hs.length by omega]⟩
end Go.GH
namespace Go.GH
open Go Go.Proofs
variable {E : Env}
theorem elemB_50_2_40 : elemB Tryd.prog 50 2 40 = true := by kernel_rfl
theorem flatB_30 : flatB Tryd.prog 30 = true := by kernel_rfl
theorem flatB_36 : flatB Tryd.prog 36 = true := by kernel_rfl
theorem flatB_76 : flatB Tryd.prog 76 = true := by kernel_rfl
theorem oneB_30 : oneB Tryd.prog 30 = true := by kernel_rfl
theorem oneB_36 : oneB Tryd.prog 36 = true := by kernel_rfl
theorem oneB_72 : oneB Tryd.prog 72 = true := by kernel_rfl
theorem oneB_76 : oneB Tryd.prog 76 = true := by kernel_rfl
theorem oneB_9 : oneB Tryd.prog 9 = true := by kernel_rfl
theorem sliceB_36_50_2 : sliceB Tryd.prog 36 50 2 = true := by kernel_rfl
theorem sliceB_73_35_1 : sliceB Tryd.prog 73 35 1 = true := by kernel_rfl
theorem zeroIs_30 : zeroIs Tryd.prog 30 (.int .i64 0) := by unfold zeroIs; kernel_rfl
theorem zeroIs_35 : zeroIs Tryd.prog 35 (.slice none 0 0) := by unfold zeroIs; kernel_rfl
theorem zeroIs_36 : zeroIs Tryd.prog 36 (.slice none 0 0) := by unfold zeroIs; kernel_rfl
theorem zeroIs_72 : zeroIs Tryd.prog 72 (.map none) := by unfold zeroIs; kernel_rfl
theorem zeroIs_76 : zeroIs Tryd.prog 76 (.nilFunc) := by unfold zeroIs; kernel_rfl
def encSS (l : List ByteArray) : List DV := [DStrs l]
def outL (a : List Letter) (l : List Rule) (hs cs : List ByteArray) (w : ByteArray) (i : Nat) : List Sg := ((candL (onceL hs) (onceL cs)).take i).filter (okSg a l w)
theorem outL_len (a : List Letter) (l : List Rule) (hs cs : List ByteArray) (w : ByteArray) (i : Nat) : (outL a l hs cs w i).length ≤ (candL (onceL hs) (onceL cs)).length := Nat.le_trans (List.length_filter_le _ _) (by rw [List.length_take]; omega)
theorem cand_few {hs cs : List ByteArray} (h5 : hs.length ≤ 5) (h4 : cs.length ≤ 4) : (candL (onceL hs) (onceL cs)).length ≤ 105 := by
  have h1 := onceN_len hs hs.length
  have h2 := onceN_len cs cs.length
  rw [candL_len]
  show (onceN hs hs.length).length * _ ≤ _
  have h3 : (onceL cs).length ≤ 4 := Nat.le_trans h2 h4
  have h6 : (onceL cs).length * (onceL cs).length ≤ 4 * 4 := Nat.mul_le_mul h3 h3
  calc (onceN hs hs.length).length * (1 + (onceL cs).length + (onceL cs).length * (onceL cs).length) ≤ 5 * 21 := Nat.mul_le_mul (by omega) (by omega)
    _ = 105 := rfl
theorem outL_next {a : List Letter} {l : List Rule} {hs cs : List ByteArray} {w : ByteArray} {i : Nat} {s : Sg} (h : (candL (onceL hs) (onceL cs))[i]? = some s) : outL a l hs cs w (i + 1) = if okSg a l w s = true then outL a l hs cs w i ++ [s] else outL a l hs cs w i := by
  obtain ⟨hi, rfl⟩ := List.getElem?_eq_some_iff.1 h
  unfold outL
  rw [take_next hi, List.filter_append, List.filter_cons, List.filter_nil]
  split <;> simp
theorem cSplit0 (hV : VS E) (a : List Letter) (l : List Rule) (hs cs : List ByteArray) (w : ByteArray) (hr : ∀ r ∈ l, SmR r) (h5 : hs.length ≤ 5) (h4 : cs.length ≤ 4) : GCall Tryd.prog E 19 [DLs a, DRs l, DStrs hs, DStrs cs, .v (.string w)] [] (fun d H => ∃ k, d = .tup [accD 2 k ((splitR a l hs cs w).1.map encSg), .v (.int .i64 (splitR a l hs cs w).2)] ∧ ∀ p ∈ accH 50 2 k ((splitR a l hs cs w).1.map encSg), p ∈ H) := by
  refine GCall.bodyM (C := ⟨Tryd.prog, E, true⟩) Tryd.func19 rfl (fun _ => rfl) (by kernel_rfl) rfl ?_
  refine SMCode.seqRS ?_
  refine SOps.boxF rfl rfl rfl ?_
  refine SOps.alloc (sz := 1) zeroIs_36 (fun b0 hb_0 => ?_)
  refine SOps.alloc (sz := 1) zeroIs_30 (fun b1 hb_1 => ?_)
  refine SOps.nil ?_
  refine SMCode.seqS ?_
  refine SCode.seqR ?_
  refine SOps.move rfl ?_
  refine SOps.move rfl ?_
  refine SOps.callP (cValid hV _ _ (by assumption)) rfl ?_
  rintro _ rfl
  refine SOps.un rfl rfl ?_
  refine SOps.move rfl ?_
  refine SOps.caseB 29 rfl (fun hb1 => ?_) (fun hb1 => ?_)
  · try simp only [nmL] at hb1
    refine SOps.skip rfl ?_
    refine SOps.skip rfl ?_
    refine SOps.skip rfl ?_
    refine SOps.skip rfl ?_
    refine SOps.pick rfl rfl ?_
    refine SOps.move rfl ?_
    refine SOps.skip rfl ?_
    refine SOps.skip rfl ?_
    refine SOps.skip rfl ?_
    refine SOps.skip rfl ?_
    refine SOps.pick rfl rfl ?_
    refine SOps.move rfl ?_
    refine SOps.skip rfl ?_
    refine SOps.skip rfl ?_
    refine SOps.skip rfl ?_
    refine SOps.skip rfl ?_
    refine SOps.skip rfl ?_
    refine SOps.pick rfl rfl ?_
    refine SOps.nil ?_
    refine SCode.cond rfl (fun _ => ?_) (fun h => by cases h)
    refine SCode.seqR ?_
    refine SOps.storeM 1 rfl rfl oneB_36 rfl ?_
    refine SOps.storeM 0 rfl rfl oneB_30 rfl ?_
    refine SOps.nil ?_
    refine SCode.ret ?_
    exact ⟨_, Res.two (.flat (i := 1) (k := 0) (j := 0) rfl flatB_36 rfl rfl rfl rfl) (.flat (i := 0) (k := 0) (j := 0) rfl flatB_30 rfl rfl rfl rfl), 0, by unfold splitR; rw [if_neg (fun h9 => by unfold argS at h9; simp only [Bool.and_eq_true] at h9; first | (rw [h9.1.1.1] at hb1; exact Bool.noConfusion hb1) | (rw [h9.1.1.2] at hb2; exact Bool.noConfusion hb2) | (rw [h9.1.2] at hb3; exact Bool.noConfusion hb3) | (simp_all; done))]; rfl, by unfold splitR; rw [if_neg (fun h9 => by unfold argS at h9; simp only [Bool.and_eq_true] at h9; first | (rw [h9.1.1.1] at hb1; exact Bool.noConfusion hb1) | (rw [h9.1.1.2] at hb2; exact Bool.noConfusion hb2) | (rw [h9.1.2] at hb3; exact Bool.noConfusion hb3) | (simp_all; done))]; exact fun p hp => by cases hp⟩
  · try simp only [nmL] at hb1
    refine SOps.move rfl ?_
    refine SOps.move rfl ?_
    refine SOps.callP (cWords hV _ _) rfl ?_
    rintro _ rfl
    refine SOps.un rfl rfl ?_
    refine SOps.pick rfl rfl ?_
    refine SOps.move rfl ?_
    refine SOps.caseB 35 rfl (fun hb2 => ?_) (fun hb2 => ?_)
    · try simp only [nmL] at hb2
      refine SOps.skip rfl ?_
      refine SOps.skip rfl ?_
      refine SOps.skip rfl ?_
      refine SOps.skip rfl ?_
      refine SOps.pick rfl rfl ?_
      refine SOps.move rfl ?_
      refine SOps.skip rfl ?_
      refine SOps.skip rfl ?_
      refine SOps.skip rfl ?_
      refine SOps.skip rfl ?_
      refine SOps.skip rfl ?_
      refine SOps.pick rfl rfl ?_
      refine SOps.nil ?_
      refine SCode.cond rfl (fun _ => ?_) (fun h => by cases h)
      refine SCode.seqR ?_
      refine SOps.storeM 1 rfl rfl oneB_36 rfl ?_
      refine SOps.storeM 0 rfl rfl oneB_30 rfl ?_
      refine SOps.nil ?_
      refine SCode.ret ?_
      exact ⟨_, Res.two (.flat (i := 1) (k := 0) (j := 0) rfl flatB_36 rfl rfl rfl rfl) (.flat (i := 0) (k := 0) (j := 0) rfl flatB_30 rfl rfl rfl rfl), 0, by unfold splitR; rw [if_neg (fun h9 => by unfold argS at h9; simp only [Bool.and_eq_true] at h9; first | (rw [h9.1.1.1] at hb1; exact Bool.noConfusion hb1) | (rw [h9.1.1.2] at hb2; exact Bool.noConfusion hb2) | (rw [h9.1.2] at hb3; exact Bool.noConfusion hb3) | (simp_all; done))]; rfl, by unfold splitR; rw [if_neg (fun h9 => by unfold argS at h9; simp only [Bool.and_eq_true] at h9; first | (rw [h9.1.1.1] at hb1; exact Bool.noConfusion hb1) | (rw [h9.1.1.2] at hb2; exact Bool.noConfusion hb2) | (rw [h9.1.2] at hb3; exact Bool.noConfusion hb3) | (simp_all; done))]; exact fun p hp => by cases hp⟩
    · try simp only [nmL] at hb2
      refine SOps.move rfl ?_
      refine SOps.move rfl ?_
      refine SOps.callP (cWords hV _ _) rfl ?_
      rintro _ rfl
      refine SOps.un rfl rfl ?_
      refine SOps.pick rfl rfl ?_
      refine SOps.move rfl ?_
      refine SOps.caseB 41 rfl (fun hb3 => ?_) (fun hb3 => ?_)
      · try simp only [nmL] at hb3
        refine SOps.skip rfl ?_
        refine SOps.skip rfl ?_
        refine SOps.skip rfl ?_
        refine SOps.skip rfl ?_
        refine SOps.skip rfl ?_
        refine SOps.pick rfl rfl ?_
        refine SOps.nil ?_
        refine SCode.cond rfl (fun _ => ?_) (fun h => by cases h)
        refine SCode.seqR ?_
        refine SOps.storeM 1 rfl rfl oneB_36 rfl ?_
        refine SOps.storeM 0 rfl rfl oneB_30 rfl ?_
        refine SOps.nil ?_
        refine SCode.ret ?_
        exact ⟨_, Res.two (.flat (i := 1) (k := 0) (j := 0) rfl flatB_36 rfl rfl rfl rfl) (.flat (i := 0) (k := 0) (j := 0) rfl flatB_30 rfl rfl rfl rfl), 0, by unfold splitR; rw [if_neg (fun h9 => by unfold argS at h9; simp only [Bool.and_eq_true] at h9; first | (rw [h9.1.1.1] at hb1; exact Bool.noConfusion hb1) | (rw [h9.1.1.2] at hb2; exact Bool.noConfusion hb2) | (rw [h9.1.2] at hb3; exact Bool.noConfusion hb3) | (simp_all; done))]; rfl, by unfold splitR; rw [if_neg (fun h9 => by unfold argS at h9; simp only [Bool.and_eq_true] at h9; first | (rw [h9.1.1.1] at hb1; exact Bool.noConfusion hb1) | (rw [h9.1.1.2] at hb2; exact Bool.noConfusion hb2) | (rw [h9.1.2] at hb3; exact Bool.noConfusion hb3) | (simp_all; done))]; exact fun p hp => by cases hp⟩
      · try simp only [nmL] at hb3
        refine SOps.move rfl ?_
        refine SOps.loadPin rfl flatB_9 ?_
        refine SOps.litF rfl sliceB_35_9_1 zeroIs_9 rfl ?_
        refine SOps.callP (cWords hV a [w]) rfl ?_
        rintro _ rfl
        refine SOps.un rfl rfl ?_
        refine SOps.pick rfl rfl ?_
        refine SOps.nil ?_
        refine SCode.cond rfl (fun hc4 => ?_) (fun hc4 => ?_)
        · try simp only [nmL] at hc4
          refine SCode.seqR ?_
          refine SOps.storeM 1 rfl rfl oneB_36 rfl ?_
          refine SOps.storeM 0 rfl rfl oneB_30 rfl ?_
          refine SOps.nil ?_
          refine SCode.ret ?_
          exact ⟨_, Res.two (.flat (i := 1) (k := 0) (j := 0) rfl flatB_36 rfl rfl rfl rfl) (.flat (i := 0) (k := 0) (j := 0) rfl flatB_30 rfl rfl rfl rfl), 0, by unfold splitR; rw [if_neg (fun h9 => by unfold argS at h9; simp only [Bool.and_eq_true] at h9; first | (rw [h9.1.1.1] at hb1; exact Bool.noConfusion hb1) | (rw [h9.1.1.2] at hb2; exact Bool.noConfusion hb2) | (rw [h9.1.2] at hb3; exact Bool.noConfusion hb3) | (simp_all; done))]; rfl, by unfold splitR; rw [if_neg (fun h9 => by unfold argS at h9; simp only [Bool.and_eq_true] at h9; first | (rw [h9.1.1.1] at hb1; exact Bool.noConfusion hb1) | (rw [h9.1.1.2] at hb2; exact Bool.noConfusion hb2) | (rw [h9.1.2] at hb3; exact Bool.noConfusion hb3) | (simp_all; done))]; exact fun p hp => by cases hp⟩
        · try simp only [nmL] at hc4
          refine SCode.skip ?_
          show SMCode _ _ _ _ _
          refine SMCode.seqRS ?_
          have harg : argS a l hs cs w = true := by unfold argS; simp_all
          have hal : a.length ≤ 64 := by have h9 := harg; unfold argS at h9; simp only [Bool.and_eq_true] at h9; have := validA_iff.1 (validS_iff.1 h9.1.1.1).1; omega
          have hwh : ∀ s ∈ hs, isWordA a s = true := by have h9 := harg; unfold argS at h9; simp only [Bool.and_eq_true, List.all_eq_true] at h9; exact h9.1.1.2
          have hwc : ∀ s ∈ cs, isWordA a s = true := by have h9 := harg; unfold argS at h9; simp only [Bool.and_eq_true, List.all_eq_true] at h9; exact h9.1.2
          have hww : isWordA a w = true := by have h9 := harg; unfold argS at h9; simp only [Bool.and_eq_true, List.all_eq_true] at h9; exact h9.2
          have hwd : ∀ ws ∈ [hs, cs], ∀ s ∈ ws, isWordA a s = true := by intro ws h1 s h2; simp only [List.mem_cons, List.not_mem_nil, or_false] at h1; rcases h1 with rfl | rfl; exact hwh s h2; exact hwc s h2
          refine SOps.move rfl ?_
          refine SOps.callP (cSteady l hr) rfl ?_
          rintro _ ⟨es0, hM0, rfl⟩
          refine SOps.assign rfl ?_
          refine SOps.nil ?_
          refine SMCode.seqRS ?_
          refine SOps.makeMap0 (fun b2 hb_2 => ?_)
          refine SOps.alloc (sz := 1) zeroIs_72 (fun b3 hb_3 => ?_)
          refine SOps.storeM 0 rfl rfl oneB_72 rfl ?_
          refine SOps.freezeRef (t := 13) 0 0 rfl rfl rfl rfl rfl ?_
          refine SOps.nil ?_
          refine SMCode.seqS ?_
          refine SCode.seqR ?_
          refine SOps.move rfl ?_
          refine SOps.move rfl ?_
          refine SOps.litF rfl sliceB_73_35_1 zeroIs_35 rfl ?_
          refine SOps.lenM rfl sliceB_73_35_1 ?_
          refine SOps.move rfl ?_
          refine SOps.nil ?_
          refine SCode.block ?_
          refine SCode.loop3 (fun (q : Nat) (es : List (Value × DV)) (ks : List ByteArray) => (⟨123, [(0, DLs a), (1, DRs l), (2, DStrs hs), (3, DStrs cs), (9, .ipin [.v (.string w)]), (10, .ref b0 0), (11, .ref b1 0), (12, .fn 74 [.ipin [.imap es0]]), (13, .ipin [.mp b2]), (53, .isl false 1 ([hs, cs].map encSS)), (54, .v (.int .i64 2)), (55, .v (.int .i64 (q : Int)))], [(b2, .map es), (b1, .row 30 1 [[.v (.int .i64 0)]]), (b0, .row 36 1 [[.v (.slice none 0 0)]])]⟩ : St)) (fun (q : Nat) (es : List (Value × DV)) (ks : List ByteArray) => q ≤ 2 ∧ MapS (keepS l) es ks ∧ ∀ ws ∈ [hs, cs].take q, ∀ s ∈ ws, memS s ks = true) (fun (q : Nat) (es : List (Value × DV)) (ks : List ByteArray) => 2 - q) (0) ([]) ([]) (by exact ⟨Nat.zero_le _, MapS.nil _, fun ws h => by cases h⟩) (St.Le.of ⟨(by first | rfl | (show some _ = some _; simp)), (by first | rfl | (show some _ = some _; simp)), (by first | rfl | (show some _ = some _; simp)), (by first | rfl | (show some _ = some _; simp)), (by first | rfl | (show some _ = some _; simp)), (by first | rfl | (show some _ = some _; simp)), (by first | rfl | (show some _ = some _; simp)), (by first | rfl | (show some _ = some _; simp)), (by first | rfl | (show some _ = some _; simp)), (by first | rfl | (show some _ = some _; simp)), (by first | rfl | (show some _ = some _; simp)), (by first | rfl | (show some _ = some _; simp)), trivial⟩ rfl (by first | rfl | (simp))) ?_
          rintro q es ks ⟨hq, hM, hcov⟩
          refine SCode.seqR ?_
          refine SOps.bin rfl rfl rfl ?_
          refine SOps.nil ?_
          refine SCode.seq ?_
          refine SCode.cond rfl (fun hc5 => ?_) (fun hc5 => ?_)
          · try simp only [nmL] at hc5
            refine SCode.skip ?_
            show SCode _ _ _ _
            refine SCode.seq ?_
            refine SCode.block ?_
            refine SCode.seqR ?_
            have hq2 : q < 2 := by omega
            have hwq := List.getElem_mem (show q < [hs, cs].length from hq2)
            refine SOps.indexM (q) rfl rfl sliceB_73_35_1 (by first | omega | (simp only [lenB]; omega)) (by first | omega | (simp only [lenB]; omega)) ?_
            refine SOps.loadPin rfl flatB_35 ?_
            refine SOps.assign rfl ?_
            refine SOps.nil ?_
            refine SCode.seqR ?_
            refine SOps.move rfl ?_
            refine SOps.lenM rfl sliceB_35_9_1 ?_
            refine SOps.move rfl ?_
            refine SOps.nil ?_
            refine SCode.block ?_
            refine SCode.loop3 (fun (j : Nat) (es2 : List (Value × DV)) (ks2 : List ByteArray) => (⟨123, [(0, DLs a), (1, DRs l), (2, DStrs hs), (3, DStrs cs), (9, .ipin [.v (.string w)]), (10, .ref b0 0), (11, .ref b1 0), (12, .fn 74 [.ipin [.imap es0]]), (13, .ipin [.mp b2]), (53, .isl false 1 ([hs, cs].map encSS)), (54, .v (.int .i64 2)), (55, .v (.int .i64 (q : Int))), (59, DStrs ([hs, cs][q])), (60, .v (.int .i64 ((([hs, cs][q]).length : Nat) : Int))), (61, .v (.int .i64 (j : Int)))], [(b2, .map es2), (b1, .row 30 1 [[.v (.int .i64 0)]]), (b0, .row 36 1 [[.v (.slice none 0 0)]])]⟩ : St)) (fun (j : Nat) (es2 : List (Value × DV)) (ks2 : List ByteArray) => j ≤ ([hs, cs][q]).length ∧ MapS (keepS l) es2 ks2 ∧ (∀ ws ∈ [hs, cs].take q, ∀ s ∈ ws, memS s ks2 = true) ∧ ∀ s ∈ ([hs, cs][q]).take j, memS s ks2 = true) (fun (j : Nat) (es2 : List (Value × DV)) (ks2 : List ByteArray) => ([hs, cs][q]).length - j) (0) (es) (ks) (by exact ⟨Nat.zero_le _, hM, hcov, fun s h => by cases h⟩) (St.Le.of ⟨(by first | rfl | (show some _ = some _; simp)), (by first | rfl | (show some _ = some _; simp)), (by first | rfl | (show some _ = some _; simp)), (by first | rfl | (show some _ = some _; simp)), (by first | rfl | (show some _ = some _; simp)), (by first | rfl | (show some _ = some _; simp)), (by first | rfl | (show some _ = some _; simp)), (by first | rfl | (show some _ = some _; simp)), (by first | rfl | (show some _ = some _; simp)), (by first | rfl | (show some _ = some _; simp)), (by first | rfl | (show some _ = some _; simp)), (by first | rfl | (show some _ = some _; simp)), (by first | rfl | (show some _ = some _; simp)), (by first | rfl | (show some _ = some _; simp)), (by first | rfl | (show some _ = some _; simp)), trivial⟩ rfl (by first | rfl | (simp))) ?_
            rintro j es2 ks2 ⟨hj, hM2, hcov2, hin2⟩
            refine SCode.fact (isl_len (t := 59) rfl) (fun hB => ?_)
            simp only [List.length_map, lenB] at hB
            have hks := hM2.keys
            refine SCode.seqR ?_
            refine SOps.bin rfl rfl rfl ?_
            refine SOps.nil ?_
            refine SCode.seq ?_
            refine SCode.cond rfl (fun hc6 => ?_) (fun hc6 => ?_)
            · try simp only [nmL] at hc6
              refine SCode.skip ?_
              show SCode _ _ _ _
              refine SCode.seq ?_
              refine SCode.block ?_
              refine SCode.seqR ?_
              have hjl : j < ([hs, cs][q]).length := by omega
              have hsq := List.getElem_mem hjl
              refine SOps.indexM (j) rfl rfl sliceB_35_9_1 (by first | omega | (simp only [lenB]; omega)) (by first | omega | (simp only [lenB]; omega)) ?_
              refine SOps.loadPin rfl flatB_9 ?_
              refine SOps.assign rfl ?_
              refine SOps.nil ?_
              apply SCode.drawAuto1 5 7 mixed_ [65, 66, 67, 68, 69] [[.inr 13], [.inr 17], [.inr 12], [.inr 17], [.inl 2, .inl 3]]
              · kernel_rfl
              · kernel_rfl
              · kernel_rfl
              · kernel_rfl
              · rfl
              · rfl
              · apply DOk.cons 65 
                · rfl
                · exact (NeedIs.inr _ rfl NeedIs.nil)
                · intro rest
                  refine SOps.loadPin rfl flatB_72 ?_
                  exact SOps.nil rfl
                apply DOk.cons 66 
                · rfl
                · exact (NeedIs.inr _ rfl NeedIs.nil)
                · intro rest
                  refine SOps.move rfl ?_
                  exact SOps.nil rfl
                apply DOk.cons 67 
                · rfl
                · exact (NeedIs.inr _ rfl NeedIs.nil)
                · intro rest
                  refine SOps.move rfl ?_
                  exact SOps.nil rfl
                apply DOk.cons 68 
                · rfl
                · exact (NeedIs.inr _ rfl NeedIs.nil)
                · intro rest
                  refine SOps.move rfl ?_
                  exact SOps.nil rfl
                apply DOk.cons 69 
                · rfl
                · exact (NeedIs.inl 1 _ _ rfl rfl (NeedIs.inl 0 _ _ rfl rfl NeedIs.nil))
                · intro rest
                  refine SOps.callFn (ds := [_]) rfl (cSteady1 l es0 _ hM0 (by have := (word_facts (hwd _ hwq _ hsq)).2.2.2; omega)) rfl ?_
                  rintro _ _ ⟨rfl, rfl⟩
                  exact SOps.nil rfl
                exact DOk.nil
              · rfl
              · refine SOps.mapUpdate 0 rfl rfl rfl rfl mapB_72 rfl (hks) ?_
                refine SOps.nil ?_
                show SCode _ _ _ _
                refine SCode.region ?_
                refine SOps.addI rfl rfl (by first | omega | (simp only [lenB]; omega)) (by first | omega | (simp only [lenB]; omega)) ?_
                refine SOps.move rfl ?_
                refine SOps.nil ?_
                exact ⟨j + 1, _, ks2 ++ [([hs, cs][q])[j]], ⟨by omega, hM2.add _, fun ws h s h9 => by rw [memS_snoc, hcov2 ws h s h9]; rfl, fun s h9 => by rw [take_next hjl] at h9; rw [memS_snoc]; rcases List.mem_append.1 h9 with h9 | h9; rw [hin2 s h9]; rfl; rw [List.mem_singleton.1 h9]; simp⟩, by omega, St.Le.of ⟨rfl, rfl, rfl, rfl, rfl, rfl, rfl, rfl, rfl, rfl, rfl, rfl, rfl, rfl, rfl, trivial⟩ rfl rfl⟩
            · try simp only [nmL] at hc6
              refine SCode.exit ?_
              show SCode _ _ _ _
              refine SCode.region ?_
              refine SOps.addI rfl rfl (by first | omega | (simp only [lenB]; omega)) (by first | omega | (simp only [lenB]; omega)) ?_
              refine SOps.move rfl ?_
              refine SOps.nil ?_
              exact ⟨q + 1, es2, ks2, ⟨by omega, hM2, fun ws h s hs9 => by rw [take_next hq2] at h; rcases List.mem_append.1 h with h | h; exact hcov2 ws h s hs9; rw [List.mem_singleton.1 h] at hs9; exact hin2 s (by rw [List.take_of_length_le (by omega)]; exact hs9)⟩, by omega, St.Le.of ⟨rfl, rfl, rfl, rfl, rfl, rfl, rfl, rfl, rfl, rfl, rfl, rfl, trivial⟩⟩
          · try simp only [nmL] at hc5
            refine SCode.exit ?_
            show SMCode _ _ _ _ _
            refine SMCode.seqRS ?_
            refine SOps.move rfl ?_
            refine SOps.loadPin rfl flatB_9 ?_
            refine SOps.callFn (ds := [_]) rfl (cSteady1 l es0 w hM0 (by have := (word_facts hww).2.2.2; omega)) rfl ?_
            rintro _ _ ⟨rfl, rfl⟩
            refine SOps.alloc (sz := 1) zeroIs_9 (fun b4 hb_4 => ?_)
            refine SOps.storeM 0 rfl rfl oneB_9 rfl ?_
            refine SOps.freezeRef (t := 18) 0 0 rfl rfl rfl rfl rfl ?_
            refine SOps.nil ?_
            refine SMCode.seqRS ?_
            refine SOps.freezePinMap (t := 13) 0 rfl rfl rfl ?_
            refine SOps.makeFunc rfl ?_
            refine SOps.alloc (sz := 1) zeroIs_76 (fun b5 hb_5 => ?_)
            refine SOps.storeM 0 rfl rfl oneB_76 rfl ?_
            refine SOps.freezeRef (t := 19) 0 0 rfl rfl rfl rfl rfl ?_
            refine SOps.nil ?_
            refine SMCode.seqRS ?_
            refine SOps.move rfl ?_
            refine SOps.callP (cExtended _ (by omega)) rfl ?_
            rintro _ rfl
            refine SOps.move rfl ?_
            refine SOps.buildM placesB_65 zeroIs_65 rfl rfl ?_
            refine SOps.alloc (sz := 2) zeroIs_65 (fun b6 hb_6 => ?_)
            refine SOps.storeAM 0 rfl rfl aggB_65_2 rfl ?_
            refine SOps.freezeRef (t := 20) 0 0 rfl rfl rfl rfl rfl ?_
            refine SOps.nil ?_
            refine SMCode.seqRS ?_
            refine SOps.alloc (sz := 1) zeroIs_36 (fun b7 hb_7 => ?_)
            refine SOps.nil ?_
            refine SMCode.seq ?_
            refine SMCode.seqRS ?_
            refine SOps.move rfl ?_
            refine SOps.callP (cDistinct hs (by omega)) rfl ?_
            rintro _ rfl
            refine SOps.move rfl ?_
            refine SOps.callP (cDistinct cs (by omega)) rfl ?_
            rintro _ rfl
            refine SOps.callP (cCandidates _ _) rfl ?_
            rintro _ rfl
            refine SOps.nil ?_
            refine SMCode.block ?_
            refine SMCode.weaken (st' := (⟨123, [(84, .fn 76 [.ipin [DStrs (onceL hs)], .ipin [DStrs (onceL cs)]]), (9, .ipin [.v (.string w)]), (10, .ref b0 0), (11, .ref b1 0), (19, .ipin [.fn 46 [.ipin [.v (.string (keepS l w))], .ipin [.imap es]]]), (20, .ipin [DLs (extA a), DRs l]), (21, .ref b7 0)], ([(b7, .row 36 1 [[accD 2 0 ((outL a l hs cs w 0).map encSg)]]), (b1, .row 30 1 [[.v (.int .i64 0)]]), (b0, .row 36 1 [[.v (.slice none 0 0)]])] ++ (accH 50 2 0 ((outL a l hs cs w 0).map encSg) ++ []))⟩ : St)) (St.Le.of ⟨rfl, rfl, rfl, rfl, rfl, rfl, rfl, trivial⟩ rfl rfl) ?_
            refine SMCode.range rfl (iCandidates _ _) (fun i H => ∃ k, List.Sublist ([(b7, .row 36 1 [[accD 2 k ((outL a l hs cs w i).map encSg)]]), (b1, .row 30 1 [[.v (.int .i64 0)]]), (b0, .row 36 1 [[.v (.slice none 0 0)]])] ++ (accH 50 2 k ((outL a l hs cs w i).map encSg) ++ [])) H) ⟨0, List.Sublist.refl _⟩ rfl (fun i x l9 H hx hI => ?_) (fun H hI => ?_)
            · obtain ⟨k, hsub⟩ := hI
              have hcv : ∀ ws ∈ [hs, cs], ∀ s ∈ ws, memS s ks = true := fun ws h => hcov ws (by rw [List.take_of_length_le (by simp only [List.length_cons, List.length_nil]; omega)]; exact h)
              obtain ⟨sg, hsg, rfl⟩ : ∃ sg, (candL (onceL hs) (onceL cs))[i]? = some sg ∧ DV.agg (encSg sg) = x := by unfold candD at hx; rw [List.getElem?_map] at hx; exact Option.map_eq_some_iff.1 hx
              have hnx := outL_next (a := a) (l := l) (w := w) hsg
              have hmem := candL_mem (List.mem_of_getElem? hsg)
              have hwo := outL_len a l hs cs w i
              have hfew := cand_few h5 h4
              have hsw : isWordA a sg.host = true := hwh _ (onceL_mem hmem.1)
              have hsc : ∀ c ∈ sg.cls, isWordA a c = true := fun c hc => hwc _ (onceL_mem (hmem.2.2 c hc))
              have hpre := split_pre harg sg (List.mem_of_getElem? hsg)
              refine SRound.weaken (st' := (⟨123, [(85, .agg (encSg sg)), (9, .ipin [.v (.string w)]), (10, .ref b0 0), (11, .ref b1 0), (19, .ipin [.fn 46 [.ipin [.v (.string (keepS l w))], .ipin [.imap es]]]), (20, .ipin [DLs (extA a), DRs l]), (21, .ref b7 0)], ([(b7, .row 36 1 [[accD 2 k ((outL a l hs cs w i).map encSg)]]), (b1, .row 30 1 [[.v (.int .i64 0)]]), (b0, .row 36 1 [[.v (.slice none 0 0)]])] ++ (accH 50 2 k ((outL a l hs cs w i).map encSg) ++ []))⟩ : St)) (St.Le.ofSub ⟨rfl, rfl, rfl, rfl, rfl, rfl, rfl, trivial⟩ hsub) ?_
              refine SRound.region ?_
              refine SOps.alloc (sz := 2) zeroIs_50 (fun b8 hb_8 => ?_)
              refine SOps.storeAM 0 rfl rfl aggB_50_2 rfl ?_
              refine SOps.nil ?_
              refine ⟨rfl, ?_⟩
              refine SRound.block ?_
              refine SRound.seq ?_
              refine SRound.seqR ?_
              refine SOps.fieldRef rfl fieldB_50_1_1 ?_
              refine SOps.loadRef 0 0 1 rfl flatB_35 rfl rfl rfl rfl ?_
              refine SOps.lenM rfl sliceB_35_9_1 ?_
              refine SOps.bin rfl rfl rfl ?_
              refine SOps.move rfl ?_
              refine SOps.caseB 90 rfl (fun hb7 => ?_) (fun hb7 => ?_)
              · try simp only [nmL] at hb7
                refine SOps.fieldRef rfl fieldB_50_0_0 ?_
                refine SOps.loadRef 0 0 0 rfl flatB_9 rfl rfl rfl rfl ?_
                refine SOps.loadPin rfl flatB_9 ?_
                refine SOps.bin rfl rfl rfl ?_
                refine SOps.pick rfl rfl ?_
                refine SOps.move rfl ?_
                refine SOps.caseB 96 rfl (fun hb8 => ?_) (fun hb8 => ?_)
                · try simp only [nmL] at hb8
                  refine SOps.skip rfl ?_
                  refine SOps.skip rfl ?_
                  refine SOps.skip rfl ?_
                  refine SOps.skip rfl ?_
                  refine SOps.pick rfl rfl ?_
                  refine SOps.nil ?_
                  refine SRound.cond rfl (fun _ => ?_) (fun h => by cases h)
                  refine SRound.exit ?_
                  first
                    | ((have hno : okSg a l w sg = false := by first | (rw [← hpre]; unfold preSg; simp_all; done) | (unfold okSg; simp_all; done)); rw [hno, if_neg (by simp)] at hnx; exact ⟨rfl, k, by rw [hnx]; exact .cons _ (.refl _)⟩)
                    | (have hyes : okSg a l w sg = true := by (unfold okSg; simp_all; done)); rw [hyes, if_pos rfl] at hnx; first | exact ⟨rfl, b8, by rw [hnx, List.map_append]; exact .cons _ (.refl _)⟩ | exact ⟨rfl, b9, by rw [hnx, List.map_append]; exact .cons _ (.refl _)⟩ | exact ⟨rfl, b10, by rw [hnx, List.map_append]; exact .cons _ (.refl _)⟩ | exact ⟨rfl, b11, by rw [hnx, List.map_append]; exact .cons _ (.refl _)⟩ | exact ⟨rfl, b12, by rw [hnx, List.map_append]; exact .cons _ (.refl _)⟩ | exact ⟨rfl, b13, by rw [hnx, List.map_append]; exact .cons _ (.refl _)⟩ | exact ⟨rfl, b14, by rw [hnx, List.map_append]; exact .cons _ (.refl _)⟩ | exact ⟨rfl, b15, by rw [hnx, List.map_append]; exact .cons _ (.refl _)⟩
                · try simp only [nmL] at hb8
                  refine SOps.loadPin rfl flatB_76 ?_
                  refine SOps.loadRefA 0 0 0 rfl aggB_50_2 rfl rfl rfl (Nat.le_of_ble_eq_true rfl) ?_
                  refine SOps.callFn (ds := [_]) rfl (cPoss l w es ks sg hM (by have := (word_facts hww).2.2.1; omega) (hcv _ (by simp) _ (onceL_mem hmem.1)) (fun c hc => hcv _ (by simp) _ (onceL_mem (hmem.2.2 c hc)))) rfl ?_
                  rintro _ _ ⟨rfl, rfl⟩
                  refine SOps.un rfl rfl ?_
                  refine SOps.pick rfl rfl ?_
                  refine SOps.nil ?_
                  refine SRound.cond rfl (fun hc9 => ?_) (fun hc9 => ?_)
                  · try simp only [nmL] at hc9
                    refine SRound.exit ?_
                    first
                      | ((have hno : okSg a l w sg = false := by first | (rw [← hpre]; unfold preSg; simp_all; done) | (unfold okSg; simp_all; done)); rw [hno, if_neg (by simp)] at hnx; exact ⟨rfl, k, by rw [hnx]; exact .cons _ (.refl _)⟩)
                      | (have hyes : okSg a l w sg = true := by (unfold okSg; simp_all; done)); rw [hyes, if_pos rfl] at hnx; first | exact ⟨rfl, b8, by rw [hnx, List.map_append]; exact .cons _ (.refl _)⟩ | exact ⟨rfl, b9, by rw [hnx, List.map_append]; exact .cons _ (.refl _)⟩ | exact ⟨rfl, b10, by rw [hnx, List.map_append]; exact .cons _ (.refl _)⟩ | exact ⟨rfl, b11, by rw [hnx, List.map_append]; exact .cons _ (.refl _)⟩ | exact ⟨rfl, b12, by rw [hnx, List.map_append]; exact .cons _ (.refl _)⟩ | exact ⟨rfl, b13, by rw [hnx, List.map_append]; exact .cons _ (.refl _)⟩ | exact ⟨rfl, b14, by rw [hnx, List.map_append]; exact .cons _ (.refl _)⟩ | exact ⟨rfl, b15, by rw [hnx, List.map_append]; exact .cons _ (.refl _)⟩
                  · try simp only [nmL] at hc9
                    refine SRound.skip ?_
                    show SRound _ _ _ _ _
                    refine SRound.seqR ?_
                    refine SOps.loadPinA rfl aggB_65_2 (Nat.le_of_ble_eq_true rfl) ?_
                    refine SOps.loadRefA 0 0 0 rfl aggB_50_2 rfl rfl rfl (Nat.le_of_ble_eq_true rfl) ?_
                    refine SOps.callP (jAll hV a l sg hr hsw hsc) rfl ?_
                    rintro _ rfl
                    refine SOps.move rfl ?_
                    refine SOps.extract rfl rfl ?_
                    refine SOps.extract rfl rfl ?_
                    refine SOps.assign rfl ?_
                    refine SOps.assign rfl ?_
                    refine SOps.nil ?_
                    refine SRound.seq ?_
                    refine SRound.seqR ?_
                    refine SOps.move rfl ?_
                    refine SOps.bin rfl rfl rfl ?_
                    refine SOps.move rfl ?_
                    refine SOps.caseB 110 rfl (fun hb10 => ?_) (fun hb10 => ?_)
                    · try simp only [nmL] at hb10
                      refine SOps.skip rfl ?_
                      refine SOps.skip rfl ?_
                      refine SOps.skip rfl ?_
                      refine SOps.pick rfl rfl ?_
                      refine SOps.nil ?_
                      refine SRound.cond rfl (fun _ => ?_) (fun h => by cases h)
                      refine SRound.exit ?_
                      first
                        | ((have hno : okSg a l w sg = false := by first | (rw [← hpre]; unfold preSg; simp_all; done) | (unfold okSg; simp_all; done)); rw [hno, if_neg (by simp)] at hnx; exact ⟨rfl, k, by rw [hnx]; exact .cons _ (.refl _)⟩)
                        | (have hyes : okSg a l w sg = true := by (unfold okSg; simp_all; done)); rw [hyes, if_pos rfl] at hnx; first | exact ⟨rfl, b8, by rw [hnx, List.map_append]; exact .cons _ (.refl _)⟩ | exact ⟨rfl, b9, by rw [hnx, List.map_append]; exact .cons _ (.refl _)⟩ | exact ⟨rfl, b10, by rw [hnx, List.map_append]; exact .cons _ (.refl _)⟩ | exact ⟨rfl, b11, by rw [hnx, List.map_append]; exact .cons _ (.refl _)⟩ | exact ⟨rfl, b12, by rw [hnx, List.map_append]; exact .cons _ (.refl _)⟩ | exact ⟨rfl, b13, by rw [hnx, List.map_append]; exact .cons _ (.refl _)⟩ | exact ⟨rfl, b14, by rw [hnx, List.map_append]; exact .cons _ (.refl _)⟩ | exact ⟨rfl, b15, by rw [hnx, List.map_append]; exact .cons _ (.refl _)⟩
                    · try simp only [nmL] at hb10
                      refine SOps.move rfl ?_
                      refine SOps.loadPin rfl flatB_9 ?_
                      refine SOps.bin rfl rfl rfl ?_
                      refine SOps.pick rfl rfl ?_
                      refine SOps.nil ?_
                      refine SRound.cond rfl (fun hc11 => ?_) (fun hc11 => ?_)
                      · try simp only [nmL] at hc11
                        refine SRound.exit ?_
                        first
                          | ((have hno : okSg a l w sg = false := by first | (rw [← hpre]; unfold preSg; simp_all; done) | (unfold okSg; simp_all; done)); rw [hno, if_neg (by simp)] at hnx; exact ⟨rfl, k, by rw [hnx]; exact .cons _ (.refl _)⟩)
                          | (have hyes : okSg a l w sg = true := by (unfold okSg; simp_all; done)); rw [hyes, if_pos rfl] at hnx; first | exact ⟨rfl, b8, by rw [hnx, List.map_append]; exact .cons _ (.refl _)⟩ | exact ⟨rfl, b9, by rw [hnx, List.map_append]; exact .cons _ (.refl _)⟩ | exact ⟨rfl, b10, by rw [hnx, List.map_append]; exact .cons _ (.refl _)⟩ | exact ⟨rfl, b11, by rw [hnx, List.map_append]; exact .cons _ (.refl _)⟩ | exact ⟨rfl, b12, by rw [hnx, List.map_append]; exact .cons _ (.refl _)⟩ | exact ⟨rfl, b13, by rw [hnx, List.map_append]; exact .cons _ (.refl _)⟩ | exact ⟨rfl, b14, by rw [hnx, List.map_append]; exact .cons _ (.refl _)⟩ | exact ⟨rfl, b15, by rw [hnx, List.map_append]; exact .cons _ (.refl _)⟩
                      · try simp only [nmL] at hc11
                        refine SRound.skip ?_
                        show SRound _ _ _ _ _
                        refine SRound.seq ?_
                        refine SRound.seqR ?_
                        refine SOps.loadRef 1 0 0 rfl flatB_36 rfl rfl rfl rfl ?_
                        refine SOps.lenAcc rfl sliceB_36_50_2 ?_
                        refine SOps.bin rfl rfl rfl ?_
                        refine SOps.nil ?_
                        refine SRound.cond rfl (fun hc12 => ?_) (fun hc12 => ?_)
                        · try simp only [nmL] at hc12
                          refine SRound.seqR ?_
                          exfalso
                          have h9 : (List.map encSg (outL a l hs cs w i)).length = (outL a l hs cs w i).length := List.length_map ..
                          omega
                        · try simp only [nmL] at hc12
                          refine SRound.skip ?_
                          show SRound _ _ _ _ _
                          refine SRound.region ?_
                          refine SOps.loadRef 1 0 0 rfl flatB_36 rfl rfl rfl rfl ?_
                          refine SOps.loadRefA 0 0 0 rfl aggB_50_2 rfl rfl rfl (Nat.le_of_ble_eq_true rfl) ?_
                          refine SOps.frame1 (SOps.litF rfl sliceB_36_50_2 zeroIs_50 rfl (SOps.nil rfl)) ?_
                          refine SOps.appendAcc [_, _, _, _] [] sliceB_36_50_2 elemB_50_2_40 rfl rfl rfl SrcD.isl (by simp) (by first | (simp [lenB] <;> (first | omega | (simp only [lenB]; omega))) | (simp only [lenB]; (first | omega | (simp only [lenB]; omega)))) (by first | (simp <;> (first | omega | (simp only [lenB]; omega))) | (first | omega | (simp only [lenB]; omega))) (fun b9 => ?_)
                          refine SOps.storeM 1 rfl rfl oneB_36 rfl ?_ (accD_one _ _ _)
                          refine SOps.nil ?_
                          first
                            | ((have hno : okSg a l w sg = false := by first | (rw [← hpre]; unfold preSg; simp_all; done) | (unfold okSg; simp_all; done)); rw [hno, if_neg (by simp)] at hnx; exact ⟨rfl, k, by rw [hnx]; exact .cons _ (.refl _)⟩)
                            | (have hyes : okSg a l w sg = true := by (unfold okSg; simp_all; done)); rw [hyes, if_pos rfl] at hnx; first | exact ⟨rfl, b8, by rw [hnx, List.map_append]; exact .cons _ (.refl _)⟩ | exact ⟨rfl, b9, by rw [hnx, List.map_append]; exact .cons _ (.refl _)⟩ | exact ⟨rfl, b10, by rw [hnx, List.map_append]; exact .cons _ (.refl _)⟩ | exact ⟨rfl, b11, by rw [hnx, List.map_append]; exact .cons _ (.refl _)⟩ | exact ⟨rfl, b12, by rw [hnx, List.map_append]; exact .cons _ (.refl _)⟩ | exact ⟨rfl, b13, by rw [hnx, List.map_append]; exact .cons _ (.refl _)⟩ | exact ⟨rfl, b14, by rw [hnx, List.map_append]; exact .cons _ (.refl _)⟩ | exact ⟨rfl, b15, by rw [hnx, List.map_append]; exact .cons _ (.refl _)⟩
              · try simp only [nmL] at hb7
                refine SOps.skip rfl ?_
                refine SOps.skip rfl ?_
                refine SOps.skip rfl ?_
                refine SOps.skip rfl ?_
                refine SOps.pick rfl rfl ?_
                refine SOps.move rfl ?_
                refine SOps.loadPin rfl flatB_76 ?_
                refine SOps.loadRefA 0 0 0 rfl aggB_50_2 rfl rfl rfl (Nat.le_of_ble_eq_true rfl) ?_
                refine SOps.callFn (ds := [_]) rfl (cPoss l w es ks sg hM (by have := (word_facts hww).2.2.1; omega) (hcv _ (by simp) _ (onceL_mem hmem.1)) (fun c hc => hcv _ (by simp) _ (onceL_mem (hmem.2.2 c hc)))) rfl ?_
                rintro _ _ ⟨rfl, rfl⟩
                refine SOps.un rfl rfl ?_
                refine SOps.pick rfl rfl ?_
                refine SOps.nil ?_
                refine SRound.cond rfl (fun hc13 => ?_) (fun hc13 => ?_)
                · try simp only [nmL] at hc13
                  refine SRound.exit ?_
                  first
                    | ((have hno : okSg a l w sg = false := by first | (rw [← hpre]; unfold preSg; simp_all; done) | (unfold okSg; simp_all; done)); rw [hno, if_neg (by simp)] at hnx; exact ⟨rfl, k, by rw [hnx]; exact .cons _ (.refl _)⟩)
                    | (have hyes : okSg a l w sg = true := by (unfold okSg; simp_all; done)); rw [hyes, if_pos rfl] at hnx; first | exact ⟨rfl, b8, by rw [hnx, List.map_append]; exact .cons _ (.refl _)⟩ | exact ⟨rfl, b9, by rw [hnx, List.map_append]; exact .cons _ (.refl _)⟩ | exact ⟨rfl, b10, by rw [hnx, List.map_append]; exact .cons _ (.refl _)⟩ | exact ⟨rfl, b11, by rw [hnx, List.map_append]; exact .cons _ (.refl _)⟩ | exact ⟨rfl, b12, by rw [hnx, List.map_append]; exact .cons _ (.refl _)⟩ | exact ⟨rfl, b13, by rw [hnx, List.map_append]; exact .cons _ (.refl _)⟩ | exact ⟨rfl, b14, by rw [hnx, List.map_append]; exact .cons _ (.refl _)⟩ | exact ⟨rfl, b15, by rw [hnx, List.map_append]; exact .cons _ (.refl _)⟩
                · try simp only [nmL] at hc13
                  refine SRound.skip ?_
                  show SRound _ _ _ _ _
                  refine SRound.seqR ?_
                  refine SOps.loadPinA rfl aggB_65_2 (Nat.le_of_ble_eq_true rfl) ?_
                  refine SOps.loadRefA 0 0 0 rfl aggB_50_2 rfl rfl rfl (Nat.le_of_ble_eq_true rfl) ?_
                  refine SOps.callP (jAll hV a l sg hr hsw hsc) rfl ?_
                  rintro _ rfl
                  refine SOps.move rfl ?_
                  refine SOps.extract rfl rfl ?_
                  refine SOps.extract rfl rfl ?_
                  refine SOps.assign rfl ?_
                  refine SOps.assign rfl ?_
                  refine SOps.nil ?_
                  refine SRound.seq ?_
                  refine SRound.seqR ?_
                  refine SOps.move rfl ?_
                  refine SOps.bin rfl rfl rfl ?_
                  refine SOps.move rfl ?_
                  refine SOps.caseB 110 rfl (fun hb14 => ?_) (fun hb14 => ?_)
                  · try simp only [nmL] at hb14
                    refine SOps.skip rfl ?_
                    refine SOps.skip rfl ?_
                    refine SOps.skip rfl ?_
                    refine SOps.pick rfl rfl ?_
                    refine SOps.nil ?_
                    refine SRound.cond rfl (fun _ => ?_) (fun h => by cases h)
                    refine SRound.exit ?_
                    first
                      | ((have hno : okSg a l w sg = false := by first | (rw [← hpre]; unfold preSg; simp_all; done) | (unfold okSg; simp_all; done)); rw [hno, if_neg (by simp)] at hnx; exact ⟨rfl, k, by rw [hnx]; exact .cons _ (.refl _)⟩)
                      | (have hyes : okSg a l w sg = true := by (unfold okSg; simp_all; done)); rw [hyes, if_pos rfl] at hnx; first | exact ⟨rfl, b8, by rw [hnx, List.map_append]; exact .cons _ (.refl _)⟩ | exact ⟨rfl, b9, by rw [hnx, List.map_append]; exact .cons _ (.refl _)⟩ | exact ⟨rfl, b10, by rw [hnx, List.map_append]; exact .cons _ (.refl _)⟩ | exact ⟨rfl, b11, by rw [hnx, List.map_append]; exact .cons _ (.refl _)⟩ | exact ⟨rfl, b12, by rw [hnx, List.map_append]; exact .cons _ (.refl _)⟩ | exact ⟨rfl, b13, by rw [hnx, List.map_append]; exact .cons _ (.refl _)⟩ | exact ⟨rfl, b14, by rw [hnx, List.map_append]; exact .cons _ (.refl _)⟩ | exact ⟨rfl, b15, by rw [hnx, List.map_append]; exact .cons _ (.refl _)⟩
                  · try simp only [nmL] at hb14
                    refine SOps.move rfl ?_
                    refine SOps.loadPin rfl flatB_9 ?_
                    refine SOps.bin rfl rfl rfl ?_
                    refine SOps.pick rfl rfl ?_
                    refine SOps.nil ?_
                    refine SRound.cond rfl (fun hc15 => ?_) (fun hc15 => ?_)
                    · try simp only [nmL] at hc15
                      refine SRound.exit ?_
                      first
                        | ((have hno : okSg a l w sg = false := by first | (rw [← hpre]; unfold preSg; simp_all; done) | (unfold okSg; simp_all; done)); rw [hno, if_neg (by simp)] at hnx; exact ⟨rfl, k, by rw [hnx]; exact .cons _ (.refl _)⟩)
                        | (have hyes : okSg a l w sg = true := by (unfold okSg; simp_all; done)); rw [hyes, if_pos rfl] at hnx; first | exact ⟨rfl, b8, by rw [hnx, List.map_append]; exact .cons _ (.refl _)⟩ | exact ⟨rfl, b9, by rw [hnx, List.map_append]; exact .cons _ (.refl _)⟩ | exact ⟨rfl, b10, by rw [hnx, List.map_append]; exact .cons _ (.refl _)⟩ | exact ⟨rfl, b11, by rw [hnx, List.map_append]; exact .cons _ (.refl _)⟩ | exact ⟨rfl, b12, by rw [hnx, List.map_append]; exact .cons _ (.refl _)⟩ | exact ⟨rfl, b13, by rw [hnx, List.map_append]; exact .cons _ (.refl _)⟩ | exact ⟨rfl, b14, by rw [hnx, List.map_append]; exact .cons _ (.refl _)⟩ | exact ⟨rfl, b15, by rw [hnx, List.map_append]; exact .cons _ (.refl _)⟩
                    · try simp only [nmL] at hc15
                      refine SRound.skip ?_
                      show SRound _ _ _ _ _
                      refine SRound.seq ?_
                      refine SRound.seqR ?_
                      refine SOps.loadRef 1 0 0 rfl flatB_36 rfl rfl rfl rfl ?_
                      refine SOps.lenAcc rfl sliceB_36_50_2 ?_
                      refine SOps.bin rfl rfl rfl ?_
                      refine SOps.nil ?_
                      refine SRound.cond rfl (fun hc16 => ?_) (fun hc16 => ?_)
                      · try simp only [nmL] at hc16
                        refine SRound.seqR ?_
                        exfalso
                        have h9 : (List.map encSg (outL a l hs cs w i)).length = (outL a l hs cs w i).length := List.length_map ..
                        omega
                      · try simp only [nmL] at hc16
                        refine SRound.skip ?_
                        show SRound _ _ _ _ _
                        refine SRound.region ?_
                        refine SOps.loadRef 1 0 0 rfl flatB_36 rfl rfl rfl rfl ?_
                        refine SOps.loadRefA 0 0 0 rfl aggB_50_2 rfl rfl rfl (Nat.le_of_ble_eq_true rfl) ?_
                        refine SOps.frame1 (SOps.litF rfl sliceB_36_50_2 zeroIs_50 rfl (SOps.nil rfl)) ?_
                        refine SOps.appendAcc [_, _, _, _] [] sliceB_36_50_2 elemB_50_2_40 rfl rfl rfl SrcD.isl (by simp) (by first | (simp [lenB] <;> (first | omega | (simp only [lenB]; omega))) | (simp only [lenB]; (first | omega | (simp only [lenB]; omega)))) (by first | (simp <;> (first | omega | (simp only [lenB]; omega))) | (first | omega | (simp only [lenB]; omega))) (fun b10 => ?_)
                        refine SOps.storeM 1 rfl rfl oneB_36 rfl ?_ (accD_one _ _ _)
                        refine SOps.nil ?_
                        first
                          | ((have hno : okSg a l w sg = false := by first | (rw [← hpre]; unfold preSg; simp_all; done) | (unfold okSg; simp_all; done)); rw [hno, if_neg (by simp)] at hnx; exact ⟨rfl, k, by rw [hnx]; exact .cons _ (.refl _)⟩)
                          | (have hyes : okSg a l w sg = true := by (unfold okSg; simp_all; done)); rw [hyes, if_pos rfl] at hnx; first | exact ⟨rfl, b8, by rw [hnx, List.map_append]; exact .cons _ (.refl _)⟩ | exact ⟨rfl, b9, by rw [hnx, List.map_append]; exact .cons _ (.refl _)⟩ | exact ⟨rfl, b10, by rw [hnx, List.map_append]; exact .cons _ (.refl _)⟩ | exact ⟨rfl, b11, by rw [hnx, List.map_append]; exact .cons _ (.refl _)⟩ | exact ⟨rfl, b12, by rw [hnx, List.map_append]; exact .cons _ (.refl _)⟩ | exact ⟨rfl, b13, by rw [hnx, List.map_append]; exact .cons _ (.refl _)⟩ | exact ⟨rfl, b14, by rw [hnx, List.map_append]; exact .cons _ (.refl _)⟩ | exact ⟨rfl, b15, by rw [hnx, List.map_append]; exact .cons _ (.refl _)⟩
            · obtain ⟨k, hsub⟩ := hI
              show SMCode _ _ _ _ _
              refine SMCode.weaken (st' := (⟨123, [(9, .ipin [.v (.string w)]), (10, .ref b0 0), (11, .ref b1 0), (19, .ipin [.fn 46 [.ipin [.v (.string (keepS l w))], .ipin [.imap es]]]), (20, .ipin [DLs (extA a), DRs l]), (21, .ref b7 0)], ([(b7, .row 36 1 [[accD 2 k ((outL a l hs cs w (candD (onceL hs) (onceL cs)).length).map encSg)]]), (b1, .row 30 1 [[.v (.int .i64 0)]]), (b0, .row 36 1 [[.v (.slice none 0 0)]])] ++ (accH 50 2 k ((outL a l hs cs w (candD (onceL hs) (onceL cs)).length).map encSg) ++ []))⟩ : St)) (St.Le.ofSub ⟨rfl, rfl, rfl, rfl, rfl, rfl, trivial⟩ hsub) ?_
              refine SMCode.seqR ?_
              refine SOps.loadRef 0 0 0 rfl flatB_36 rfl rfl rfl rfl ?_
              refine SOps.storeM 2 rfl rfl oneB_36 rfl ?_ (accD_one _ _ _)
              refine SOps.storeM 1 rfl rfl oneB_30 rfl ?_
              refine SOps.nil ?_
              refine SMCode.ret ?_
              have hfin : outL a l hs cs w (candD (onceL hs) (onceL cs)).length = splitL a l hs cs w := by unfold outL splitL candD; rw [List.length_map, List.take_length]
              have hsl : (splitL a l hs cs w).length ≤ 105 := by rw [← hfin]; exact Nat.le_trans (outL_len ..) (cand_few h5 h4)
              have hsr : splitR a l hs cs w = (splitL a l hs cs w, 0) := by unfold splitR; rw [if_pos harg, if_neg (by omega)]
              exact ⟨_, Res.two (.flat (i := 2) (k := 0) (j := 0) rfl flatB_36 rfl rfl rfl rfl) (.flat (i := 1) (k := 0) (j := 0) rfl flatB_30 rfl rfl rfl rfl), k, by rw [hsr, ← hfin], by rw [hsr, ← hfin]; exact fun p hp => .tail _ (.tail _ (.tail _ (by rw [List.append_nil]; exact hp)))⟩
theorem cSplit (hV : VS E) (a : List Letter) (l : List Rule) (hs cs : List ByteArray) (w : ByteArray) (hr : ∀ r ∈ l, SmR r) (h5 : hs.length ≤ 5) (h4 : cs.length ≤ 4) : GCall Tryd.prog E 19 [DLs a, DRs l, DStrs hs, DStrs cs, .v (.string w)] [] (fun d H => d = .tup [DSgs (splitR a l hs cs w).1, .v (.int .i64 (splitR a l hs cs w).2)] ∧ H = []) :=
  GCall.cleanAcc (cSplit0 hV a l hs cs w hr h5 h4)
end Go.GH
namespace Go.GH
open Go Go.Lib

theorem encBy_fffd : encBy 65533 = [239, 191, 189] := by decide +kernel
theorem encs_only (s : ByteArray) : ∀ (f p : Nat), s.size - p ≤ f → (encs (runesAt s p)).data.toList = s.data.toList.drop p → (steps s p).all (stepOK s) = true
  | 0, p, h, _ => by rw [steps_ge (by omega)]; rfl
  | f + 1, p, h, hv => by
    by_cases hp : p < s.size
    · have hw := decode_w s p
      rw [runesAt_lt hp, encs_cons_data] at hv
      have hok : stepOK s (p, ((Utf8.decode s p).1 : Int)) = true := by
        by_cases hr : ((Utf8.decode s p).1 : Int) = 65533
        · rw [hr] at hv ⊢
          rw [encBy_fffd] at hv
          have hl := congrArg List.length hv
          simp only [List.length_append, List.length_cons, List.length_nil, List.length_drop, Array.length_toList, ByteArray.size_data] at hl
          refine stepOK_yes (by omega) ?_
          apply ByteArray.ext
          apply Array.toList_inj.1
          have := congrArg (fun l => l.take 3) hv
          rw [extract_eq, ← this]
          rfl
        · exact stepOK_no hr
      rw [steps_lt hp, List.all_cons, hok, Bool.true_and]
      refine encs_only s f _ (by omega) ?_
      have hb := step_bytes s p hp hok
      rw [hb] at hv
      have h2 : (s.data.toList.drop p).take (Utf8.decode s p).2 ++ (s.data.toList.drop p).drop (Utf8.decode s p).2 = s.data.toList.drop p := List.take_append_drop ..
      rw [← h2] at hv
      rw [← List.drop_drop]
      have := List.append_cancel_left (hv.trans (by rw [h2]; exact h2.symm))
      exact this
    · rw [steps_ge (by omega)]; rfl
theorem encs_iff (s : ByteArray) : decide (encs (runes s) = s) = utf8R s := by
  rw [Bool.eq_iff_iff, decide_eq_true_eq]
  constructor
  · intro h
    exact encs_only s _ 0 (Nat.le_refl _) (by rw [runesAt_zero, h, List.drop_zero])
  · exact encs_runes
theorem encs_snoc (l : List Int) (r : Int) : encs (l ++ [r]) = encs l ++ Utf8.encode r := by
  rw [encs_append, encs, encs]
  apply ByteArray.ext
  simp
theorem idxs_runes (a : List Letter) (s : ByteArray) : (idxs a s).length = (runes s).length := by simp [idxs]
def aw14A : List Letter := [⟨97, 1⟩, ⟨101, 1⟩, ⟨116, 2⟩, ⟨100, 18⟩]
def aw14R : List Rule := [⟨116, ⟨#[100]⟩, [⟨1, ⟨#[]⟩, false, false⟩], [⟨2147483648, ⟨#[]⟩, false, false⟩, ⟨1, ⟨#[]⟩, false, false⟩], false, false⟩, ⟨97, ⟨#[]⟩, [], [⟨2147483648, ⟨#[]⟩, false, false⟩, ⟨0, ⟨#[97]⟩, false, false⟩], false, false⟩]
def sTat : ByteArray := ⟨#[116, 97, 116]⟩
def sTa : ByteArray := ⟨#[116, 97]⟩
def sAt : ByteArray := ⟨#[97, 116]⟩
def sE : ByteArray := ⟨#[101]⟩
def sT : ByteArray := ⟨#[116]⟩
def sTade : ByteArray := ⟨#[116, 97, 100, 101]⟩
theorem aw14_sm : ∀ r ∈ aw14R, SmR r := fun r hr => by
  simp only [aw14R, List.mem_cons, List.not_mem_nil, or_false] at hr
  rcases hr with rfl | rfl <;> exact ⟨by decide +kernel, by decide +kernel, by decide +kernel⟩
theorem aw14_valid : validS aw14A aw14R = true := by kernel_rfl
theorem aw14_att1 : attR aw14A aw14R sTat sE = (sTade, 0) := by kernel_rfl
theorem aw14_att2 : attR aw14A aw14R sTa sAt = (sTat, 0) := by kernel_rfl
theorem aw14_split : (splitR aw14A aw14R [sTat, sTa] [sAt, sT] sTat).1.length = 3 ∧ (splitR aw14A aw14R [sTat, sTa] [sAt, sT] sTat).2 = 0 := ⟨by kernel_rfl, by kernel_rfl⟩
end Go.GH
namespace Go.GH
open Go Go.Proofs
variable {E : Env}
theorem q6Index (a : List Letter) (r : Int)  : GCall Tryd.prog E 72 [DLs a, .v (.int .i32 r)] [] (fun d H => d = .v (.int .i64 (idxI a r)) ∧ H = []) := by
  refine GCall.body (C := ⟨Tryd.prog, E, true⟩) Tryd.func72 rfl (fun _ => rfl) (by kernel_rfl) rfl ?_
  refine SCode.seqR ?_
  refine SOps.assign rfl ?_
  refine SOps.nil ?_
  refine SCode.seq ?_
  refine SCode.seqR ?_
  refine SOps.assign rfl ?_
  refine SOps.nil ?_
  refine SCode.block ?_
  refine SCode.loop1 (fun (i : Nat) => (⟨20, [(0, DLs a), (1, .v (.int .i32 r)), (5, .v (.int .i64 (i : Int)))], []⟩ : St)) (fun (i : Nat) => i ≤ a.length ∧ ∀ l ∈ a.take i, l.rune ≠ r) (fun (i : Nat) => a.length - i) (0) (by simp) (St.Le.of ⟨(by first | rfl | (show some _ = some _; simp)), (by first | rfl | (show some _ = some _; simp)), (by first | rfl | (show some _ = some _; simp)), trivial⟩ rfl (by first | rfl | (simp))) ?_
  rintro i ⟨hi, hf⟩
  refine SCode.fact (isl_len (t := 0) rfl) (fun hB => ?_)
  simp only [List.length_map, lenB] at hB
  refine SCode.seq ?_
  refine SCode.seqR ?_
  refine SOps.move rfl ?_
  refine SOps.move rfl ?_
  refine SOps.lenM rfl sliceB_22_28_2 ?_
  refine SOps.bin rfl rfl rfl ?_
  refine SOps.nil ?_
  refine SCode.cond rfl (fun hc1 => ?_) (fun hc1 => ?_)
  · try simp only [nmL] at hc1
    refine SCode.skip ?_
    show SCode _ _ _ _
    refine SCode.seq ?_
    refine SCode.block ?_
    refine SCode.seqR ?_
    refine SOps.move rfl ?_
    refine SOps.move rfl ?_
    refine SOps.indexM (i) rfl rfl sliceB_22_28_2 (by omega) (by omega) ?_
    refine SOps.fieldPin rfl fieldB_28_0_0 ?_
    refine SOps.loadPin rfl flatB_21 ?_
    refine SOps.move rfl ?_
    refine SOps.bin rfl rfl rfl ?_
    refine SOps.nil ?_
    refine SCode.cond rfl (fun hc2 => ?_) (fun hc2 => ?_)
    · try simp only [nmL] at hc2
      refine SCode.seqR ?_
      refine SOps.move rfl ?_
      refine SOps.assign rfl ?_
      refine SOps.nil ?_
      refine SCode.ret ?_
      have hx : idx a r = some i := idx_drop hf (by omega) hc2
      exact ⟨_, Res.one (.tmp rfl), by rw [idxI_some hx], rfl⟩
    · try simp only [nmL] at hc2
      refine SCode.skip ?_
      show SCode _ _ _ _
      refine SCode.region ?_
      refine SOps.move rfl ?_
      refine SOps.addI rfl rfl (by omega) (by omega) ?_
      refine SOps.assign rfl ?_
      refine SOps.nil ?_
      exact ⟨i + 1, by exact ⟨by omega, take_more hf (by omega) hc2⟩, by omega, (St.Le.of ⟨(by first | rfl | (show some _ = some _; simp)), (by first | rfl | (show some _ = some _; simp)), (by first | rfl | (show some _ = some _; simp)), trivial⟩ rfl (by first | rfl | (simp)))⟩
  · try simp only [nmL] at hc1
    refine SCode.exit ?_
    show SCode _ _ _ _
    refine SCode.seqR ?_
    refine SOps.assign rfl ?_
    refine SOps.nil ?_
    refine SCode.ret ?_
    have hx : idx a r = none := idx_none.2 (by rw [List.take_of_length_le (by omega)] at hf; exact hf)
    exact ⟨_, Res.one (.tmp rfl), by rw [idxI_none hx], rfl⟩
theorem q6Over (a : List Letter) (s : ByteArray) (hs : s.size ≤ 1048576) : GCall Tryd.prog E 41 [DLs a, .v (.string s)] [] (fun d H => d = (if (runes s).all (fun r => (idx a r).isSome) then .tup [DNats (idxs a s), .v (.bool (utf8R s))] else .tup [.v (.slice none 0 0), .v (.bool false)]) ∧ H = []) := by
  refine GCall.body (C := ⟨Tryd.prog, E, true⟩) Tryd.func41 rfl (fun _ => rfl) (by kernel_rfl) rfl ?_
  refine SCode.seqR ?_
  refine SOps.assign rfl ?_
  refine SOps.assign rfl ?_
  refine SOps.nil ?_
  refine SCode.seqR ?_
  refine SOps.litO sliceB_43_3_1 zeroIs_3 rfl (fun b0 hb_0 => ?_)
  refine SOps.assign rfl ?_
  refine SOps.nil ?_
  refine SCode.seqR ?_
  refine SOps.assign rfl ?_
  refine SOps.nil ?_
  refine SCode.seq ?_
  refine SCode.seqR ?_
  refine SOps.move rfl ?_
  refine SOps.rangeStr rfl strB_9 (fun b1 hb_1 => ?_)
  refine SOps.nil ?_
  refine SCode.block ?_
  refine SCode.loop5 (fun (p : Nat) (b : Nat) (l : List Nat) (kb : Nat) (back : List Int) => (⟨34, [(0, DLs a), (1, .v (.string s)), (6, .sl kb 1 0 l.length), (7, .v (.string (encs back))), (13, .it b)], [(b, .iter s p), (kb, .row 3 1 (l.map encN))]⟩ : St)) (fun (p : Nat) (b : Nat) (l : List Nat) (kb : Nat) (back : List Int) => l.length ≤ p ∧ (encs back).size ≤ 4 * p ∧ (runesAt s p).all (fun r => (idx a r).isSome) = (runes s).all (fun r => (idx a r).isSome) ∧ l ++ (runesAt s p).map (fun r => (idx a r).getD 0) = idxs a s ∧ back ++ runesAt s p = runes s) (fun (p : Nat) (b : Nat) (l : List Nat) (kb : Nat) (back : List Int) => s.size - p) (0) (b1) ([]) (b0) ([]) (by exact ⟨Nat.le_refl _, Nat.le_refl _, rfl, rfl, rfl⟩) (St.Le.of ⟨(by first | rfl | (show some _ = some _; simp)), (by first | rfl | (show some _ = some _; simp)), (by first | rfl | (show some _ = some _; simp)), (by first | rfl | (show some _ = some _; simp)), (by first | rfl | (show some _ = some _; simp)), trivial⟩ rfl (by first | rfl | (simp))) ?_
  rintro p b l kb back ⟨hln, hbk, ho, hl, hbr⟩
  refine SCode.seqR ?_
  refine SOps.next 0 rfl rfl (fun hn1 => ?_) (fun hn1 => ?_) (by first | omega | (simp only [lenB]; omega))
  · refine SOps.extract rfl rfl ?_
    refine SOps.nil ?_
    refine SCode.seq ?_
    refine SCode.cond rfl (fun _ => ?_) (fun h => by cases h)
    refine SCode.skip ?_
    show SCode _ _ _ _
    refine SCode.block ?_
    refine SCode.seqR ?_
    refine SOps.extract rfl rfl ?_
    refine SOps.assign rfl ?_
    refine SOps.nil ?_
    refine SCode.seqR ?_
    refine SOps.move rfl ?_
    refine SOps.move rfl ?_
    refine SOps.callP (q6Index _ _) rfl ?_
    rintro _ rfl
    refine SOps.assign rfl ?_
    refine SOps.nil ?_
    refine SCode.seq ?_
    refine SCode.seqR ?_
    refine SOps.move rfl ?_
    refine SOps.bin rfl rfl rfl ?_
    refine SOps.nil ?_
    refine SCode.cond rfl (fun hc2 => ?_) (fun hc2 => ?_)
    · try simp only [nmL] at hc2
      refine SCode.seqR ?_
      refine SOps.assign rfl ?_
      refine SOps.assign rfl ?_
      refine SOps.nil ?_
      refine SCode.drop ?_
      refine SCode.ret ?_
      exact ⟨_, Res.two (.tmp rfl) (.tmp rfl), by rw [if_neg (fun h => by rw [← ho, runes_step hn1] at h; cases hx : idx a ((Utf8.decode s p).1 : Int) with | none => rw [hx] at h; simp at h | some k => rw [idxI_some hx] at hc2; omega)], rfl⟩
    · try simp only [nmL] at hc2
      obtain ⟨k, hk⟩ := idxI_nonneg.1 hc2
      have hki := idxI_some hk
      refine SCode.skip ?_
      show SCode _ _ _ _
      refine SCode.seqR ?_
      refine SOps.move rfl ?_
      refine SOps.move rfl ?_
      refine SOps.reSlot (t := 23) rfl (show _ = DV.v (.int .i64 ((k : Nat) : Int)) by rw [hki]) ?_
      refine SOps.litF rfl sliceB_43_3_1 zeroIs_3 rfl ?_
      refine SOps.appendOwn 1 sliceB_43_3_1 elemB_3_1_8 rfl rfl rfl (by simp) SrcD.isl (by simp) (by first | (simp [lenB] <;> (first | omega | (simp only [lenB]; omega))) | (simp only [lenB]; (first | omega | (simp only [lenB]; omega)))) (by first | (simp <;> (first | omega | (simp only [lenB]; omega))) | (first | omega | (simp only [lenB]; omega))) (fun b2 hb_2 => ?_)
      refine SOps.assign rfl ?_
      refine SOps.nil ?_
      refine SCode.region ?_
      refine SOps.move rfl ?_
      refine SOps.move rfl ?_
      refine SOps.convIntStr rfl someB_21 strB_9 ?_
      refine SOps.concat rfl rfl (by simp only [lenB]; have := encode_size ((Utf8.decode s p).1 : Int); omega) ?_
      refine SOps.assign rfl ?_
      refine SOps.nil ?_
      have hes := encode_size ((Utf8.decode s p).1 : Int)
      exact ⟨p + (Utf8.decode s p).2, b, l ++ [k], b2, back ++ [((Utf8.decode s p).1 : Int)], ⟨by have := decode_w s p; simp; omega, by rw [encs_snoc, ByteArray.size_append]; have := decode_w s p; omega, by rw [← ho, runes_step hn1, hk]; rfl, by rw [← hl, runesAt_lt hn1]; simp [hk], by rw [← hbr, runesAt_lt hn1]; simp⟩, by have := decode_w s p; omega, St.Le.of ⟨rfl, rfl, (by show some _ = some _; simp), (by show some _ = some _; rw [encs_snoc]), rfl, trivial⟩ rfl (by rw [List.map_append]; rfl)⟩
  · refine SOps.extract rfl rfl ?_
    refine SOps.nil ?_
    refine SCode.seq ?_
    refine SCode.cond rfl (fun h => by cases h) (fun _ => ?_)
    refine SCode.exit ?_
    show SCode _ _ _ _
    refine SCode.seqR ?_
    refine SOps.freezeS (t := 6) 1 rfl rfl rfl (by simp) ?_
    refine SOps.move rfl ?_
    refine SOps.move rfl ?_
    refine SOps.move rfl ?_
    refine SOps.bin rfl rfl rfl ?_
    refine SOps.assign rfl ?_
    refine SOps.assign rfl ?_
    refine SOps.nil ?_
    refine SCode.drop ?_
    refine SCode.ret ?_
    have hb2 : back = runes s := by rw [← hbr, runesAt_ge hn1, List.append_nil]
    have hl2 : l = idxs a s := by rw [← hl, runesAt_ge hn1]; simp
    exact ⟨_, Res.two (.tmp rfl) (.tmp rfl), by rw [if_pos (by rw [← ho, runesAt_ge hn1]; rfl), hb2, hl2, encs_iff], rfl⟩
theorem q10Word (a : List Letter) (s : ByteArray) (hs : s.size ≤ 1048576) : GCall Tryd.prog E 17 [DLs a, .v (.string s)] [] (fun d H => d = .v (.bool (isWordA a s)) ∧ H = []) := by
  have hil := idxs_len a s
  have hir := idxs_runes a s
  refine GCall.body (C := ⟨Tryd.prog, E, true⟩) Tryd.func17 rfl (fun _ => rfl) (by kernel_rfl) rfl ?_
  refine SCode.seqR ?_
  refine SOps.assign rfl ?_
  refine SOps.nil ?_
  refine SCode.seqR ?_
  refine SOps.move rfl ?_
  refine SOps.move rfl ?_
  rcases hal : (runes s).all (fun r => (idx a r).isSome) with _ | _
  · refine SOps.callP (q6Over a s hs) rfl ?_
    rintro _ rfl
    rw [if_neg (by rw [hal]; simp)]
    refine SOps.move rfl ?_
    refine SOps.extract rfl rfl ?_
    refine SOps.extract rfl rfl ?_
    refine SOps.assign rfl ?_
    refine SOps.assign rfl ?_
    refine SOps.nil ?_
    refine SCode.seqR ?_
    refine SOps.move rfl ?_
    refine SOps.move rfl ?_
    refine SOps.skip rfl ?_
    refine SOps.skip rfl ?_
    refine SOps.skip rfl ?_
    refine SOps.pick rfl rfl ?_
    refine SOps.assign rfl ?_
    refine SOps.nil ?_
    refine SCode.ret ?_
    exact ⟨_, Res.one (.tmp rfl), congrArg (fun b => DV.v (.bool b)) (by unfold isWordA overA; rw [hal]; first | (simp; done) | (rw [Bool.eq_iff_iff]; simp_all; done) | (rw [Bool.eq_iff_iff]; simp_all; omega)), rfl⟩
  · refine SOps.callP (q6Over a s hs) rfl ?_
    rintro _ rfl
    rw [if_pos hal]
    refine SOps.move rfl ?_
    refine SOps.extract rfl rfl ?_
    refine SOps.extract rfl rfl ?_
    refine SOps.assign rfl ?_
    refine SOps.assign rfl ?_
    refine SOps.nil ?_
    refine SCode.seqR ?_
    refine SOps.move rfl ?_
    refine SOps.move rfl ?_
    refine SOps.caseB 14 rfl (fun hb1 => ?_) (fun hb1 => ?_)
    · try simp only [nmL] at hb1
      refine SOps.move rfl ?_
      refine SOps.lenM rfl sliceB_43_3_1 ?_
      refine SOps.bin rfl rfl rfl ?_
      refine SOps.pick rfl rfl ?_
      refine SOps.assign rfl ?_
      refine SOps.nil ?_
      refine SCode.ret ?_
      exact ⟨_, Res.one (.tmp rfl), congrArg (fun b => DV.v (.bool b)) (by unfold isWordA overA; rw [hal]; first | (simp; done) | (rw [Bool.eq_iff_iff]; simp_all; done) | (rw [Bool.eq_iff_iff]; simp_all; omega)), rfl⟩
    · try simp only [nmL] at hb1
      refine SOps.skip rfl ?_
      refine SOps.skip rfl ?_
      refine SOps.skip rfl ?_
      refine SOps.pick rfl rfl ?_
      refine SOps.assign rfl ?_
      refine SOps.nil ?_
      refine SCode.ret ?_
      exact ⟨_, Res.one (.tmp rfl), congrArg (fun b => DV.v (.bool b)) (by unfold isWordA overA; rw [hal]; first | (simp; done) | (rw [Bool.eq_iff_iff]; simp_all; done) | (rw [Bool.eq_iff_iff]; simp_all; omega)), rfl⟩
end Go.GH
namespace Go.GH
open Go Go.Proofs
variable {E : Env}
theorem placesB_47 : placesB Tryd.prog 47 [(0, 1), (1, 1), (2, 1), (3, 1), (4, 1), (5, 1)] = true := by kernel_rfl
theorem placesB_87 : placesB Tryd.prog 87 [(0, 1), (1, 1), (2, 1), (3, 1)] = true := by kernel_rfl
theorem l14Letters   : GCall Tryd.prog E 28 [] [] (fun d H => d = DLs aw14A ∧ H = []) := by
  refine GCall.body (C := ⟨Tryd.prog, E, true⟩) Tryd.func28 rfl (fun _ => rfl) (by kernel_rfl) rfl ?_
  refine SCode.seqR ?_
  refine SOps.assign rfl ?_
  refine SOps.nil ?_
  refine SCode.seqR ?_
  refine SOps.buildM placesB_28 zeroIs_28 rfl rfl ?_
  refine SOps.buildM placesB_28 zeroIs_28 rfl rfl ?_
  refine SOps.buildM placesB_28 zeroIs_28 rfl rfl ?_
  refine SOps.buildM placesB_28 zeroIs_28 rfl rfl ?_
  refine SOps.litF rfl sliceB_22_28_2 zeroIs_28 rfl ?_
  refine SOps.assign rfl ?_
  refine SOps.nil ?_
  refine SCode.ret ?_
  exact ⟨_, Res.one (.tmp rfl), rfl, rfl⟩
theorem l14Rules   : GCall Tryd.prog E 29 [] [] (fun d H => d = DRs aw14R ∧ H = []) := by
  refine GCall.body (C := ⟨Tryd.prog, E, true⟩) Tryd.func29 rfl (fun _ => rfl) (by kernel_rfl) rfl ?_
  refine SCode.seqR ?_
  refine SOps.assign rfl ?_
  refine SOps.nil ?_
  refine SCode.seqR ?_
  refine SOps.buildM placesB_87 zeroIs_87 rfl rfl ?_
  refine SOps.litF rfl sliceB_45_87_4 zeroIs_87 rfl ?_
  refine SOps.buildM placesB_87 zeroIs_87 rfl rfl ?_
  refine SOps.buildM placesB_87 zeroIs_87 rfl rfl ?_
  refine SOps.litF rfl sliceB_45_87_4 zeroIs_87 rfl ?_
  refine SOps.buildM placesB_47 zeroIs_47 rfl rfl ?_
  refine SOps.buildM placesB_87 zeroIs_87 rfl rfl ?_
  refine SOps.buildM placesB_87 zeroIs_87 rfl rfl ?_
  refine SOps.litF rfl sliceB_45_87_4 zeroIs_87 rfl ?_
  refine SOps.buildM placesB_47 zeroIs_47 rfl rfl ?_
  refine SOps.relab (t := 10) (d' := .agg (encR (aw14R[1]'(by decide)))) rfl (fun w F v hv => rep_aggNil (sz := 4) 2 hv rfl) ?_
  refine SOps.litF rfl sliceB_23_47_6 zeroIs_47 rfl ?_
  refine SOps.assign rfl ?_
  refine SOps.nil ?_
  refine SCode.ret ?_
  exact ⟨_, Res.one (.tmp rfl), rfl, rfl⟩
def fewB (a : List Letter) (l : List Rule) : Bool := decide (a.length ≤ 6) && decide (l.length ≤ 5)
theorem l14Few (a : List Letter) (l : List Rule)  : GCall Tryd.prog E 15 [DLs a, DRs l] [] (fun d H => d = .v (.bool (fewB a l)) ∧ H = []) := by
  refine GCall.body (C := ⟨Tryd.prog, E, true⟩) Tryd.func15 rfl (fun _ => rfl) (by kernel_rfl) rfl ?_
  refine SCode.seqR ?_
  refine SOps.assign rfl ?_
  refine SOps.nil ?_
  refine SCode.seqR ?_
  refine SOps.move rfl ?_
  refine SOps.lenM rfl sliceB_22_28_2 ?_
  refine SOps.bin rfl rfl rfl ?_
  refine SOps.move rfl ?_
  refine SOps.caseB 8 rfl (fun hb1 => ?_) (fun hb1 => ?_)
  · try simp only [nmL] at hb1
    refine SOps.move rfl ?_
    refine SOps.lenM rfl sliceB_23_47_6 ?_
    refine SOps.bin rfl rfl rfl ?_
    refine SOps.pick rfl rfl ?_
    refine SOps.assign rfl ?_
    refine SOps.nil ?_
    refine SCode.ret ?_
    exact ⟨_, Res.one (.tmp rfl), congrArg (fun b => DV.v (.bool b)) (by unfold fewB; rw [Bool.eq_iff_iff]; simp only [Bool.and_eq_true, decide_eq_true_eq, Bool.false_eq_true]; first | omega | (simp only [false_iff]; omega)), rfl⟩
  · try simp only [nmL] at hb1
    refine SOps.skip rfl ?_
    refine SOps.skip rfl ?_
    refine SOps.skip rfl ?_
    refine SOps.pick rfl rfl ?_
    refine SOps.assign rfl ?_
    refine SOps.nil ?_
    refine SCode.ret ?_
    exact ⟨_, Res.one (.tmp rfl), congrArg (fun b => DV.v (.bool b)) (by unfold fewB; rw [Bool.eq_iff_iff]; simp only [Bool.and_eq_true, decide_eq_true_eq, Bool.false_eq_true]; first | omega | (simp only [false_iff]; omega)), rfl⟩
theorem a14Att1 (hV : VS E) : GCall Tryd.prog E 16 [DLs aw14A, DRs aw14R, .v (.string sTat), .v (.string sE)] [] (fun d H => d = .tup [.v (.string sTade), .v (.int .i64 0)] ∧ H = []) := GCall.mono (cAttach hV aw14A aw14R sTat sE aw14_sm) (fun d H h => ⟨h.1.trans (by rw [aw14_att1]; rfl), h.2⟩)
theorem a14Att2 (hV : VS E) : GCall Tryd.prog E 16 [DLs aw14A, DRs aw14R, .v (.string sTa), .v (.string sAt)] [] (fun d H => d = .tup [.v (.string sTat), .v (.int .i64 0)] ∧ H = []) := GCall.mono (cAttach hV aw14A aw14R sTa sAt aw14_sm) (fun d H h => ⟨h.1.trans (by rw [aw14_att2]; rfl), h.2⟩)
theorem a14Valid (hV : VS E) : GCall Tryd.prog E 13 [DLs aw14A, DRs aw14R] [] (fun d H => d = .v (.bool true) ∧ H = []) := GCall.mono (cValid hV aw14A aw14R aw14_sm) (fun d H h => ⟨h.1.trans (by rw [aw14_valid]), h.2⟩)
theorem a14Split (hV : VS E) : GCall Tryd.prog E 19 [DLs aw14A, DRs aw14R, DStrs [sTat, sTa], DStrs [sAt, sT], .v (.string sTat)] [] (fun d H => d = .tup [DSgs (splitR aw14A aw14R [sTat, sTa] [sAt, sT] sTat).1, .v (.int .i64 0)] ∧ H = []) := GCall.mono (cSplit hV aw14A aw14R [sTat, sTa] [sAt, sT] sTat aw14_sm (by decide) (by decide)) (fun d H h => ⟨h.1.trans (by rw [aw14_split.2]), h.2⟩)
theorem awake14 (hV : VS E)  : GCall Tryd.prog E 11 [] [] (fun d H => d = .v (.bool true) ∧ H = []) := by
  refine GCall.body (C := ⟨Tryd.prog, E, true⟩) Tryd.func11 rfl (fun _ => rfl) (by kernel_rfl) rfl ?_
  refine SCode.seqR ?_
  refine SOps.assign rfl ?_
  refine SOps.nil ?_
  refine SCode.seqR ?_
  refine SOps.callP (l14Letters) rfl ?_
  rintro _ rfl
  refine SOps.callP (l14Rules) rfl ?_
  rintro _ rfl
  refine SOps.callP (a14Att1 hV) rfl ?_
  rintro _ rfl
  refine SOps.move rfl ?_
  refine SOps.extract rfl rfl ?_
  refine SOps.extract rfl rfl ?_
  refine SOps.assign rfl ?_
  refine SOps.assign rfl ?_
  refine SOps.nil ?_
  refine SCode.seqR ?_
  refine SOps.callP (l14Letters) rfl ?_
  rintro _ rfl
  refine SOps.callP (l14Rules) rfl ?_
  rintro _ rfl
  refine SOps.callP (a14Att2 hV) rfl ?_
  rintro _ rfl
  refine SOps.move rfl ?_
  refine SOps.extract rfl rfl ?_
  refine SOps.extract rfl rfl ?_
  refine SOps.assign rfl ?_
  refine SOps.assign rfl ?_
  refine SOps.nil ?_
  refine SCode.seqR ?_
  refine SOps.callP (l14Letters) rfl ?_
  rintro _ rfl
  refine SOps.callP (l14Rules) rfl ?_
  rintro _ rfl
  refine SOps.litF rfl sliceB_35_9_1 zeroIs_9 rfl ?_
  refine SOps.litF rfl sliceB_35_9_1 zeroIs_9 rfl ?_
  refine SOps.callP (a14Split hV) rfl ?_
  rintro _ rfl
  refine SOps.move rfl ?_
  refine SOps.extract rfl rfl ?_
  refine SOps.extract rfl rfl ?_
  refine SOps.assign rfl ?_
  refine SOps.assign rfl ?_
  refine SOps.nil ?_
  refine SCode.seqR ?_
  refine SOps.callP (l14Letters) rfl ?_
  rintro _ rfl
  refine SOps.callP (l14Rules) rfl ?_
  rintro _ rfl
  refine SOps.callP (a14Valid hV) rfl ?_
  rintro _ rfl
  refine SOps.move rfl ?_
  refine SOps.move rfl ?_
  refine SOps.bin rfl rfl rfl ?_
  refine SOps.reSlot (t := 32) rfl (show _ = DV.v (.bool true) from by rfl) ?_
  refine SOps.pick rfl rfl ?_
  refine SOps.move rfl ?_
  refine SOps.move rfl ?_
  refine SOps.bin rfl rfl rfl ?_
  refine SOps.reSlot (t := 36) rfl (show _ = DV.v (.bool true) from by rfl) ?_
  refine SOps.pick rfl rfl ?_
  refine SOps.move rfl ?_
  refine SOps.move rfl ?_
  refine SOps.bin rfl rfl rfl ?_
  refine SOps.reSlot (t := 40) rfl (show _ = DV.v (.bool true) from by rfl) ?_
  refine SOps.pick rfl rfl ?_
  refine SOps.move rfl ?_
  refine SOps.move rfl ?_
  refine SOps.bin rfl rfl rfl ?_
  refine SOps.reSlot (t := 44) rfl (show _ = DV.v (.bool true) from by rfl) ?_
  refine SOps.pick rfl rfl ?_
  refine SOps.move rfl ?_
  refine SOps.move rfl ?_
  refine SOps.lenM rfl sliceB_36_50_2 ?_
  refine SOps.bin rfl rfl rfl ?_
  refine SOps.reSlot (t := 49) rfl (show _ = DV.v (.bool true) from congrArg (fun b => DV.v (.bool b)) (by simp [aw14_split.1])) ?_
  refine SOps.pick rfl rfl ?_
  refine SOps.move rfl ?_
  refine SOps.move rfl ?_
  refine SOps.bin rfl rfl rfl ?_
  refine SOps.reSlot (t := 53) rfl (show _ = DV.v (.bool true) from by rfl) ?_
  refine SOps.pick rfl rfl ?_
  refine SOps.assign rfl ?_
  refine SOps.nil ?_
  refine SCode.ret ?_
  exact ⟨_, Res.one (.tmp rfl), rfl, rfl⟩
def AW14 (E : Env) : Prop := GCall Tryd.prog E 11 [] [] (fun d H => d = .v (.bool true) ∧ H = [])
end Go.GH
namespace Go.GH
open Go Go.Lib Go.Proofs Go.Proofs.YtmmdhmlbbajjiaaDoor
theorem u8Extra : U8Extra Tryd.prog Tryd.laysValid_ren :=
  ⟨by kernel_rfl, by kernel_rfl, by kernel_rfl, by kernel_rfl, by kernel_rfl, by kernel_rfl, by kernel_rfl⟩
theorem laid_E0 (W : World) (h : laidMetH Tryd.prog Rows.cliticValidRow.laid W) : E0.holds W (AllF W) := by
  have h' : laidMet Tryd.prog [("unicode/utf8.acceptRanges", Rows.laid_unicode_utf8_acceptRanges), ("unicode/utf8.first", Rows.laid_unicode_utf8_first)] W := h
  have e1 : Rows.laid_unicode_utf8_first = firstData := by kernel_rfl
  have e2 : (Rows.laid_unicode_utf8_acceptRanges : DataW Unit) = acceptData := by kernel_rfl
  rw [e1, e2] at h'
  exact tabE_all (utf8Tabs_of_readsT (U8Types.of196 Tryd.laysValid) u8Extra (laidMet.reads h' (.tail _ (.head _))) (laidMet.reads h' (.head _)))
theorem vsE0 : VS E0 := vs_ok
theorem awE0 : AW14 E0 := awake14 vsE0
end Go.GH
namespace Go.GH
open Go

theorem map_of {α β : Type} {f : α → β} : ∀ {es : List β}, (∀ e ∈ es, ∃ x, e = f x) → ∃ xs : List α, es = xs.map f
  | [], _ => ⟨[], rfl⟩
  | e :: es, h => by
    obtain ⟨x, rfl⟩ := h e (List.mem_cons_self ..)
    obtain ⟨xs, rfl⟩ := map_of (fun e he => h e (List.mem_cons_of_mem _ he))
    exact ⟨x :: xs, rfl⟩
def ElemIs (L : List DTy) (e : List DV) : Prop := e.length = L.length ∧ ∀ (j : Nat) d ty, e[j]? = some d → L[j]? = some ty → HasD ty d
theorem HasD.slice {α : Type} {L : List DTy} {f : α → List DV} {d : DV} (h : HasD (.sl L) d) (hf : ∀ e, ElemIs L e → ∃ x, e = f x) : ∃ xs : List α, d = .isl false L.length (xs.map f) := by
  cases h with
  | @sl L es hl hd =>
    obtain ⟨xs, rfl⟩ := map_of (f := f) (es := es) (fun e he => by
      obtain ⟨i, hi⟩ := List.mem_iff_getElem?.1 he
      exact hf e ⟨hl i e hi, fun j d ty hj ht => hd i e j d ty hi hj ht⟩)
    exact ⟨xs, rfl⟩
theorem ElemIs.one {ty : DTy} {e : List DV} (h : ElemIs [ty] e) : ∃ d, e = [d] ∧ HasD ty d := by
  obtain ⟨h1, h2⟩ := h
  match e, h1 with
  | [d], _ => exact ⟨d, rfl, h2 0 d ty rfl rfl⟩
theorem ElemIs.two {t1 t2 : DTy} {e : List DV} (h : ElemIs [t1, t2] e) : ∃ d1 d2, e = [d1, d2] ∧ HasD t1 d1 ∧ HasD t2 d2 := by
  obtain ⟨h1, h2⟩ := h
  match e, h1 with
  | [d1, d2], _ => exact ⟨d1, d2, rfl, h2 0 d1 t1 rfl rfl, h2 1 d2 t2 rfl rfl⟩
theorem ElemIs.three {t1 t2 t3 : DTy} {e : List DV} (h : ElemIs [t1, t2, t3] e) : ∃ d1 d2 d3, e = [d1, d2, d3] ∧ HasD t1 d1 ∧ HasD t2 d2 ∧ HasD t3 d3 := by
  obtain ⟨h1, h2⟩ := h
  match e, h1 with
  | [d1, d2, d3], _ => exact ⟨d1, d2, d3, rfl, h2 0 d1 t1 rfl rfl, h2 1 d2 t2 rfl rfl, h2 2 d3 t3 rfl rfl⟩
theorem HasD.int_inv {k : IntKind} {d : DV} (h : HasD (.int k) d) : ∃ n, d = .v (.int k n) ∧ k.has n := by cases h with | int h => exact ⟨_, rfl, h⟩
theorem HasD.str_inv {d : DV} (h : HasD .str d) : ∃ s, d = .v (.string s) := by cases h; exact ⟨_, rfl⟩
theorem HasD.bool_inv {d : DV} (h : HasD .bool d) : ∃ b, d = .v (.bool b) := by cases h; exact ⟨_, rfl⟩
theorem HasD.letters {d : DV} (h : HasD (.sl [.int .i32, .int .u32]) d) : ∃ a, d = DLs a :=
  h.slice (f := encL) (fun e he => by
    obtain ⟨d1, d2, rfl, h1, h2⟩ := he.two
    obtain ⟨r, rfl, _⟩ := h1.int_inv
    obtain ⟨c, rfl, _⟩ := h2.int_inv
    exact ⟨⟨r, c⟩, rfl⟩)
theorem HasD.ints {d : DV} (h : HasD (.sl [.int .i64]) d) : ∃ l, d = DInts l :=
  h.slice (f := encI) (fun e he => by
    obtain ⟨d1, rfl, h1⟩ := he.one
    obtain ⟨r, rfl, _⟩ := h1.int_inv
    exact ⟨r, rfl⟩)
theorem HasD.masks {d : DV} (h : HasD (.sl [.int .u32]) d) : ∃ l, d = DMasks l :=
  h.slice (f := encU) (fun e he => by
    obtain ⟨d1, rfl, h1⟩ := he.one
    obtain ⟨r, rfl, _⟩ := h1.int_inv
    exact ⟨r, rfl⟩)
theorem HasD.strs {d : DV} (h : HasD (.sl [.str]) d) : ∃ l, d = DStrs l :=
  h.slice (f := encS) (fun e he => by
    obtain ⟨d1, rfl, h1⟩ := he.one
    obtain ⟨r, rfl⟩ := h1.str_inv
    exact ⟨r, rfl⟩)

end Go.GH
namespace Go.GH
open Go Go.RowKit Go.Proofs.YtmmdhmlbbajjiaaDoor

inductive SmallD (N : Nat) : DV → Prop
  | v {x : Value} (h : ∀ s, x = .string s → s.size ≤ N) : SmallD N (.v x)
  | isl {nn : Bool} {sz : Nat} {es : List (List DV)} (hl : es.length ≤ N) (h : ∀ (i : Nat) e (j : Nat) d, es[i]? = some e → e[j]? = some d → SmallD N d) : SmallD N (.isl nn sz es)
theorem bulk_one {H : Type} (d : DataW H) : 1 ≤ Rows.uptoBulk d := by
  cases d with
  | lit l => cases l <;> simp [Rows.uptoBulk]
  | _ => simp [Rows.uptoBulk]
theorem bulk_part {H : Type} {d : DataW H} : ∀ {l : List (DataW H)}, d ∈ l → Rows.uptoBulk d ≤ Rows.uptoBulkAll l
  | [], h => by cases h
  | x :: l, h => by
    rw [Rows.uptoBulkAll]
    rcases List.mem_cons.1 h with rfl | h
    · omega
    · have := bulk_part h; omega
theorem bulk_len {H : Type} : ∀ (l : List (DataW H)), l.length ≤ Rows.uptoBulkAll l
  | [] => Nat.zero_le _
  | x :: l => by
    rw [Rows.uptoBulkAll, List.length_cons]
    have := bulk_len l
    have := bulk_one x
    omega
theorem bulk_elems {H : Type} (a b : List (DataW H)) : Rows.uptoBulkAll a ≤ Rows.uptoBulk (.slice a b) := by
  rw [Rows.uptoBulk]; omega
theorem bulk_agg {H : Type} (a : List (DataW H)) : Rows.uptoBulkAll a ≤ Rows.uptoBulk (.agg a) := by
  rw [Rows.uptoBulk]; omega
theorem bulk_str {H : Type} (s : ByteArray) : Rows.uptoBulk (DataW.lit (H := H) (.string s.data.toList)) = s.size + 1 := by
  rw [Rows.uptoBulk]; simp
def CellsS (N : Nat) (w : World) (cs : List Value) (L : List DTy) (ds : List DV) : Prop :=
  cs.length = L.length ∧ ds.length = L.length ∧ ∀ (j : Nat) v d ty, cs[j]? = some v → ds[j]? = some d → L[j]? = some ty → Rep w (AllF w) v d ∧ HasD ty d ∧ v.oneCell' = true ∧ SmallD N d
def PWS (N : Nat) (w : World) (cs : List Value) (L : List DTy) : Prop :=
  cs.length = L.length ∧ ∀ (j : Nat) v ty, cs[j]? = some v → L[j]? = some ty → ∃ d, Rep w (AllF w) v d ∧ HasD ty d ∧ v.oneCell' = true ∧ SmallD N d
theorem PWS.cells {N : Nat} {w : World} {cs : List Value} {L : List DTy} (h : PWS N w cs L) : ∃ ds, CellsS N w cs L ds := by
  have key : ∀ j, ∃ d, ∀ v ty, cs[j]? = some v → L[j]? = some ty → Rep w (AllF w) v d ∧ HasD ty d ∧ v.oneCell' = true ∧ SmallD N d := fun j => by
    by_cases hj : j < L.length
    · obtain ⟨d, hd⟩ := h.2 j _ _ (List.getElem?_eq_getElem (show j < cs.length by rw [h.1]; exact hj)) (List.getElem?_eq_getElem hj)
      refine ⟨d, fun v ty hv ht => ?_⟩
      rw [List.getElem?_eq_getElem (show j < cs.length by rw [h.1]; exact hj)] at hv
      rw [List.getElem?_eq_getElem hj] at ht
      obtain rfl := Option.some.inj hv
      obtain rfl := Option.some.inj ht
      exact hd
    · exact ⟨.any, fun v ty _ ht => absurd (List.getElem?_eq_some_iff.1 ht).1 hj⟩
  refine ⟨(List.range L.length).map (fun j => (key j).choose), h.1, by simp, fun j v d ty hv hd ht => ?_⟩
  rw [List.getElem?_map] at hd
  obtain ⟨q, hq, rfl⟩ := Option.map_eq_some_iff.1 hd
  have hlt : j < L.length := (List.getElem?_eq_some_iff.1 ht).1
  rw [List.getElem?_range hlt] at hq
  obtain rfl := Option.some.inj hq
  exact (key j).choose_spec v ty hv ht
theorem PWS.one {N : Nat} {w : World} {v : Value} {ty : DTy} {d : DV} (h1 : Rep w (AllF w) v d) (h2 : HasD ty d) (h3 : v.oneCell' = true) (h4 : SmallD N d) : PWS N w [v] [ty] :=
  ⟨rfl, fun j u t hv ht => by
    match j, hv, ht with
    | 0, hv, ht => simp at hv ht; subst hv; subst ht; exact ⟨d, h1, h2, h3, h4⟩
    | j + 1, hv, ht => simp at hv⟩
theorem pws_trod {N : Nat} {H : Type} {enc : TypeId × Value → H} {P : Program} {w : World} {sp : Nat → Bool} {held : Bool} {t : TypeId} {L : List DTy} (h : TyIs P t L) :
    ∀ (fuel : Nat) (cs : List Value) (x : DataW H × List MemPlace), DataW.trod enc P w 0 sp held fuel t cs = some x → Rows.uptoBulk x.1 ≤ N → PWS N w cs L := by
  induction h with
  | @int t k h =>
    intro fuel cs x hx hb0
    obtain ⟨n, rfl, hxe, hwf⟩ := DataW.trod_int h hx
    exact .one (d := .v (.int k n)) (.v (show k.has n from lit_int_wf hwf)) (.int (lit_int_wf hwf)) rfl (.v (fun s e => by cases e))
  | @str t h =>
    intro fuel cs x hx hb0
    obtain ⟨s, rfl, hxe, hs⟩ := DataW.trod_string h hx
    have hs : s.size ≤ lenB := by
      have e : maxLen = lenB := by decide
      omega
    exact .one (d := .v (.string s)) (.v hs) (.str hs) rfl (.v (fun s' e => by cases e; rw [hxe, bulk_str] at hb0; omega))
  | @bool t h =>
    intro fuel cs x hx hb0
    obtain ⟨b, rfl, _⟩ := DataW.trod_bool h hx
    exact .one (d := .v (.bool b)) (.v trivial) .bool rfl (.v (fun s e => by cases e))
  | @sl t e L h he hc hne ih =>
    intro fuel cs x hx hb0
    rcases DataW.trod_slice h hx with ⟨rfl, _⟩ | ⟨a, len, cap, elems, rest, n, rfl, rfl, hxe, hb, hl, hm, hlen, hel, _, _⟩
    · exact .one (d := .isl false L.length []) (.isl (b := 0) (o := 0) (fun _ _ => undef) rfl (by omega) (by simp [lenB]) (fun h => by cases h) (fun h => absurd rfl h) (fun i e h => by simp at h) (fun i e j d h => by simp at h) (fun i e j d h => by simp at h))
        (.sl (fun i e h => by simp at h) (fun i e j d ty h => by simp at h)) rfl (.isl (by simp) (fun i e j d h => by simp at h))
    · have key : ∀ i, ∃ p : List Value × List DV, i < len → w.cells? 0 (a.add (i * L.length)) L.length = some p.1 ∧ CellsS N w p.1 L p.2 := fun i => by
        by_cases hi : i < len
        · have h1 := hel i hi
          rw [List.getElem?_eq_getElem (by omega)] at h1
          obtain ⟨cs', h2, h3⟩ := Option.bind_eq_some_iff.1 h1
          have hbe : Rows.uptoBulk (elems[i]'(by omega)).1 ≤ N := by
            rw [hxe] at hb0
            exact Nat.le_trans (bulk_part (List.mem_map.2 ⟨_, List.getElem_mem _, rfl⟩)) (Nat.le_trans (bulk_elems _ _) hb0)
          obtain ⟨ds, hds⟩ := (ih n cs' _ h3 hbe).cells
          exact ⟨(cs', ds), fun _ => ⟨by rw [← hc]; exact h2, hds⟩⟩
        · exact ⟨([], []), fun h => absurd h hi⟩
      have hpos : 0 < L.length := List.length_pos_iff.2 hne
      have hspot : 0 < len → a.spot = none ∧ a.block < w.heap.size := fun h0 => by
        obtain ⟨h1, h2, _⟩ := (key 0).choose_spec h0
        obtain ⟨_, _, h4⟩ := World.cells?_some h1
        have h5 := h4 0 hpos
        rw [List.getElem?_eq_getElem (by omega)] at h5
        simp only [Nat.zero_mul] at h5
        have h6 := cell?_lt h5
        simp [Addr.add] at h6
        exact ⟨h6.2, h6.1⟩
      have hadd : 0 < len → ∀ q, a.add q = ⟨a.block, a.off + q, none⟩ := fun h0 q => by
        have := (hspot h0).1
        obtain ⟨b, o, s⟩ := a
        simp only at this
        subst this
        exact add_plain' b o q
      let es : List (List DV) := (List.range len).map (fun i => (key i).choose.2)
      have hes : ∀ (i : Nat) e, es[i]? = some e → i < len ∧ e = (key i).choose.2 := fun i e hi => by
        simp only [es, List.getElem?_map] at hi
        obtain ⟨q, hq, rfl⟩ := Option.map_eq_some_iff.1 hi
        have hlt : i < len := by have := (List.getElem?_eq_some_iff.1 hq).1; simpa using this
        rw [List.getElem?_range hlt] at hq
        obtain rfl := Option.some.inj hq
        exact ⟨hlt, rfl⟩
      have hcell : ∀ (i : Nat) e (j : Nat) d, es[i]? = some e → e[j]? = some d → ∃ v ty, L[j]? = some ty ∧ w.cell? ⟨a.block, a.off + (i * L.length + j), none⟩ = some v ∧ ((key i).choose.1)[j]? = some v ∧ Rep w (AllF w) v d ∧ HasD ty d ∧ v.oneCell' = true ∧ SmallD N d := fun i e j d hi hj => by
        obtain ⟨hlt, rfl⟩ := hes i e hi
        obtain ⟨h1, h2, h3, h4⟩ := (key i).choose_spec hlt
        obtain ⟨_, _, h5⟩ := World.cells?_some h1
        have hjl : j < L.length := by rw [← h3]; exact (List.getElem?_eq_some_iff.1 hj).1
        have hv := List.getElem?_eq_getElem (show j < ((key i).choose.1).length by omega)
        refine ⟨_, _, List.getElem?_eq_getElem hjl, ?_, hv, h4 j _ d _ hv hj (List.getElem?_eq_getElem hjl)⟩
        rw [← hv, ← h5 j hjl, hadd (by omega), add_plain', Nat.add_assoc]
      have hesl : es.length = len := by simp [es]
      have hmx : maxLen = lenB := by decide
      refine .one (d := .isl false L.length es) (.isl (b := a.block) (o := a.off) (fun i j => (((key i).choose.1)[j]?).getD undef) hesl.symm hl (by omega) (fun h => by cases h) (fun hne' => ?_) (fun i e hi => ?_) (fun i e j d hi hj => ?_) (fun i e j d hi hj => ?_)) (.sl (fun i e hi => ?_) (fun i e j d ty hi hj hty => ?_)) rfl (.isl (by rw [hesl, ← hlen]; rw [hxe] at hb0; exact Nat.le_trans (by simpa using bulk_len (elems.map (·.1))) (Nat.le_trans (bulk_elems _ _) hb0)) (fun i e j d hi hj => by obtain ⟨_, _, _, _, _, _, _, _, h7⟩ := hcell i e j d hi hj; exact h7))
      · have h0 : 0 < len := by
          rcases Nat.eq_zero_or_pos len with h | h
          · exact absurd (by simp [es, h]) hne'
          · exact h
        refine ⟨?_, (hspot h0).2⟩
        have := (hspot h0).1
        obtain ⟨b, o, s⟩ := a
        simp only at this
        subst this
        rfl
      · obtain ⟨hlt, rfl⟩ := hes i e hi; exact ((key i).choose_spec hlt).2.2.1
      · obtain ⟨v, ty, _, h2, h3, _, _, h6, _⟩ := hcell i e j d hi hj
        simp only [h3, Option.getD_some]
        exact ⟨h2, h6⟩
      · obtain ⟨v, ty, _, _, h3, h4, _⟩ := hcell i e j d hi hj
        simp only [h3, Option.getD_some]
        exact h4
      · obtain ⟨hlt, rfl⟩ := hes i e hi; exact ((key i).choose_spec hlt).2.2.1
      · obtain ⟨v, ty', h1, _, _, _, h5, _⟩ := hcell i e j d hi hj
        rw [h1] at hty
        obtain rfl := Option.some.inj hty
        exact h5
  | @struct t fs Ls h hc hl hf ho ih =>
    intro fuel cs x hx hb0
    obtain ⟨xs, n, rfl, hxe, hlen, hxl, hx⟩ := DataW.trod_struct h hx
    refine ⟨hlen.trans hc, fun j v ty hv hty => ?_⟩
    obtain ⟨i, Li, q, h1, h2, rfl⟩ := flatten_find Ls j ty hty
    have hi : i < fs.size := by rw [← hl]; exact (List.getElem?_eq_some_iff.1 h1).1
    have hfi := Array.getElem?_eq_getElem hi
    obtain ⟨o1, o2⟩ := ho i _ Li hfi h1
    have h3 := hx i _ hfi
    rw [List.getElem?_eq_getElem (show i < xs.length by omega)] at h3
    have hbe : Rows.uptoBulk (xs[i]'(by omega)).1 ≤ N := by
      rw [hxe] at hb0
      exact Nat.le_trans (bulk_part (List.mem_map.2 ⟨_, List.getElem_mem _, rfl⟩)) (Nat.le_trans (bulk_agg _) hb0)
    obtain ⟨_, h4⟩ := ih i _ Li hfi h1 n _ _ h3 hbe
    have hql : q < Li.length := (List.getElem?_eq_some_iff.1 h2).1
    exact h4 q v ty (by rw [List.getElem?_take, if_pos (by omega), List.getElem?_drop, o1]; exact hv) h2

/-- An argument of one cell. -/
theorem arg_repS {N : Nat} {H : Type} {enc : TypeId × Value → H} {P : Program} {w : World} {sp : Nat → Bool} {held : Bool} {t : TypeId} {ty : DTy} {v : Value} {d : DataW H} {p : List MemPlace} (hT : TyIs P t [ty]) (h : DataW.Trod enc P w 0 sp held t v d p) (hv : v.cells = #[v]) (hb : Rows.uptoBulk d ≤ N) : ∃ dv, Rep w (AllF w) v dv ∧ HasD ty dv ∧ SmallD N dv := by
  obtain ⟨fuel, h⟩ := h
  rw [hv] at h
  obtain ⟨ds, h1, h2, h3⟩ := (pws_trod hT fuel _ _ h hb).cells
  match ds, h2 with
  | [dv], _ => exact ⟨dv, (h3 0 v dv ty rfl rfl rfl).1, (h3 0 v dv ty rfl rfl rfl).2.1, (h3 0 v dv ty rfl rfl rfl).2.2.2⟩
end Go.GH
namespace Go.GH
open Go
abbrev TIt : List DTy := [.int .u32, .str, .bool, .bool]
abbrev TRu : List DTy := [.int .i32, .str, .sl TIt, .sl TIt, .bool, .bool]
theorem ElemIs.item {e : List DV} (h : ElemIs TIt e) : ∃ x : Item, e = encIt x := by
  obtain ⟨h1, h2⟩ := h
  match e, h1 with
  | [d0, d1, d2, d3], _ =>
    obtain ⟨n, rfl, _⟩ := (h2 0 d0 _ rfl rfl).int_inv
    obtain ⟨s, rfl⟩ := (h2 1 d1 _ rfl rfl).str_inv
    obtain ⟨b, rfl⟩ := (h2 2 d2 _ rfl rfl).bool_inv
    obtain ⟨c, rfl⟩ := (h2 3 d3 _ rfl rfl).bool_inv
    exact ⟨⟨n, s, b, c⟩, rfl⟩
theorem HasD.items {d : DV} (h : HasD (.sl TIt) d) : ∃ p, d = DIts p := h.slice (f := encIt) (fun e he => he.item)
theorem ElemIs.rule {e : List DV} (h : ElemIs TRu e) : ∃ r : Rule, e = encR r := by
  obtain ⟨h1, h2⟩ := h
  match e, h1 with
  | [d0, d1, d2, d3, d4, d5], _ =>
    obtain ⟨n, rfl, _⟩ := (h2 0 d0 _ rfl rfl).int_inv
    obtain ⟨s, rfl⟩ := (h2 1 d1 _ rfl rfl).str_inv
    obtain ⟨p, rfl⟩ := (h2 2 d2 _ rfl rfl).items
    obtain ⟨q, rfl⟩ := (h2 3 d3 _ rfl rfl).items
    obtain ⟨b, rfl⟩ := (h2 4 d4 _ rfl rfl).bool_inv
    obtain ⟨c, rfl⟩ := (h2 5 d5 _ rfl rfl).bool_inv
    exact ⟨⟨n, s, p, q, b, c⟩, rfl⟩
theorem HasD.rules {d : DV} (h : HasD (.sl TRu) d) : ∃ l, d = DRs l := h.slice (f := encR) (fun e he => he.rule)
theorem SmallD.str {N : Nat} {s : ByteArray} (h : SmallD N (.v (.string s))) : s.size ≤ N := by cases h with | v h => exact h s rfl
theorem SmallD.items {N : Nat} {p : List Item} (h : SmallD N (DIts p)) : ∀ x ∈ p, x.lets.size ≤ N := fun x hx => by
  obtain ⟨i, hi⟩ := List.mem_iff_getElem?.1 hx
  cases h with
  | isl hl h => exact (h i (encIt x) 1 (.v (.string x.lets)) (by rw [List.getElem?_map, hi]; rfl) rfl).str
theorem SmallD.len {N : Nat} {nn : Bool} {sz : Nat} {es : List (List DV)} (h : SmallD N (.isl nn sz es)) : es.length ≤ N := by cases h with | isl hl _ => exact hl
theorem SmallD.ruleE {r : Rule} (h : ∀ d ∈ encR r, SmallD 1048576 d) : SmR r :=
  ⟨(h (.v (.string r.«to»)) (by simp [encR])).str, (h (DIts r.left) (by simp [encR])).items, (h (DIts r.right) (by simp [encR])).items⟩
theorem SmallD.rules {l : List Rule} (h : SmallD 1048576 (DRs l)) : ∀ r ∈ l, SmR r := fun r hr => by
  obtain ⟨i, hi⟩ := List.mem_iff_getElem?.1 hr
  cases h with
  | isl hl h =>
    refine SmallD.ruleE (fun d hd => ?_)
    obtain ⟨j, hj⟩ := List.mem_iff_getElem?.1 hd
    exact h i (encR r) j d (by rw [List.getElem?_map, hi]; rfl) hj
end Go.GH
namespace Go.GH
open Go
theorem ElemIs.segment {e : List DV} (h : ElemIs [.str, .sl [.str]] e) : ∃ x : Sg, e = encSg x := by
  obtain ⟨d0, d1, rfl, h0, h1⟩ := h.two
  obtain ⟨s, rfl⟩ := h0.str_inv
  obtain ⟨l, rfl⟩ := h1.strs
  exact ⟨⟨s, l⟩, rfl⟩
theorem SmallD.strs {N : Nat} {l : List ByteArray} (h : SmallD N (DStrs l)) : ∀ s ∈ l, s.size ≤ N := fun s hs => by
  obtain ⟨i, hi⟩ := List.mem_iff_getElem?.1 hs
  cases h with
  | isl hl h => exact (h i (encS s) 0 (.v (.string s)) (by rw [List.getElem?_map, hi]; rfl) rfl).str
end Go.GH
namespace Go.GH
open Go Go.RowKit

theorem arrayB_spec {P : Program} {T n e sz : Nat} (h : arrayB P T n e sz = true) : P.underlying T = some (.array n e) ∧ ∃ inf, P.info? e = some inf ∧ inf.size = sz := by
  unfold arrayB at h
  split at h
  · rename_i n' e' hu
    simp only [Bool.and_eq_true, beq_iff_eq] at h
    obtain ⟨⟨rfl, rfl⟩, h3⟩ := h
    obtain ⟨inf, hi, hs⟩ := Option.map_eq_some_iff.1 h3
    exact ⟨hu, inf, hi, hs⟩
  · cases h
theorem run_indexArr {P : Program} {w : World} {T n e sz : Nat} (hT : arrayB P T n e sz = true) (b o : Nat) (k : IntKind) (i : Nat) (hi : i < n) :
    (Instr.indexAt T (.pointer (some ⟨b, o, none⟩)) (.int k (i : Int))).run P w = .ok (.pointer (some ⟨b, o + i * sz, none⟩)) w := by
  obtain ⟨h1, inf, h2, h3⟩ := arrayB_spec hT
  have hlt : (i : Int) < (n : Int) := by omega
  simp [Instr.indexAt, run_underlying h1, asIntOf, Instr.sureAddr, hi, sizeOf, typeInfo, h2, h3, add_plain']
section
variable {C : Ctx} {E : Env} {base : Base} {F : Nat → Prop} {st : St} {a : Act} {w : World} {ops : Array Oper} {rest : List Oper} {R : St → Prop}
  {t : Tmp} {ty : TypeId} {pos : String} {aft : Array Edge} {g : Option (Nat × Bool)}
theorem SOps.indexPinA {T n e sz : Nat} {xo io : Operand} {cs : List DV} {k : IntKind} {m : Int} (i : Nat) (hx : st.val xo = some (.ipin cs)) (hi : st.val io = some (.v (.int k m)))
    (hT : arrayB C.P T n e sz = true) (hm : m = (i : Int)) (hlt : i < n) (hrest : SOps C ops rest (st.put t (.ipin (cs.drop (i * sz)))) R)
    (hg : st.wants ops g = some true := by rfl) (ht : Nat.blt t st.n = true := by rfl) : SOps C ops (⟨some t, .indexAddr T xo io, ty, pos, aft, g⟩ :: rest) st R :=
  SOps.val rfl hg ht (fun base a w F hs => by
    have h1 := hs.val hx
    have h2 := (hs.val (hm ▸ hi)).inv_v.1
    generalize hv : a.eval xo = v at h1
    cases h1 with
    | @ipin b o cs xs hF hc hr =>
      refine ⟨.pointer (some ⟨b, o + i * sz, none⟩), ?_, .ipin (fun j => xs (i * sz + j)) hF (fun j d hj => ?_) (fun j d hj => ?_)⟩
      · simp [execOp, hv, h2, run_indexArr hT b o k i hlt]
      · rw [List.getElem?_drop] at hj; rw [Nat.add_assoc]; exact hc _ _ hj
      · rw [List.getElem?_drop] at hj; exact hr _ _ hj) hrest
theorem has_mod {m n : Nat} (h : m ≤ 9223372036854775807) : IntKind.i64.has ((m % n : Nat) : Int) := has_i64 (by omega) (by have := Nat.mod_le m n; omega)
theorem SOps.remN {T T2 : TypeId} {xo yo : Operand} {k : IntKind} {x y : Int} (m n : Nat) (hx : st.val xo = some (.v (.int k x))) (hy : st.val yo = some (.v (.int k y))) (hm : x = (m : Int)) (hn : y = (n : Int)) (h0 : n ≠ 0) (hk : k.has ((m % n : Nat) : Int))
    (hrest : SOps C ops rest (st.put t (.v (.int k ((m % n : Nat) : Int)))) R)
    (hg : st.wants ops g = some true := by rfl) (ht : Nat.blt t st.n = true := by rfl) : SOps C ops (⟨some t, .binOp .rem T xo yo T2, ty, pos, aft, g⟩ :: rest) st R := by
  subst hm; subst hn
  exact SOps.remI hx hy (by omega) hk hrest hg ht
theorem SOps.convN {src dst : TypeId} {xo : Operand} {k k2 : IntKind} {x : Int} (m : Nat) (hx : st.val xo = some (.v (.int k x))) (hm : x = (m : Int)) (hs : (C.P.underlying src).isSome = true) (hd : intB C.P dst k2 = true) (hk : k2.has (m : Int))
    (hrest : SOps C ops rest (st.put t (.v (.int k2 (m : Int)))) R)
    (hg : st.wants ops g = some true := by rfl) (ht : Nat.blt t st.n = true := by rfl) : SOps C ops (⟨some t, .convert src dst xo, ty, pos, aft, g⟩ :: rest) st R := by
  subst hm
  exact SOps.convInt hx hs hd (by rw [wrap_id hk]; exact hrest) hg ht
theorem SOps.freezeAccIn1 {l : List Oper} {b T sz e s2 kw : Nat} {W : List (List DV)} {d0 : DV} {ds : List DV} (hp : C.pu = true) (hh : st.heap = ((b, .row T sz [d0 :: accD s2 kw W :: ds]) :: accH e s2 kw W) ++ [])
    (h : SOps C ops l ⟨st.n, st.slots, [(b, .row T sz [d0 :: .isl false s2 W :: ds])]⟩ R) : SOps C ops l st R := by
  obtain ⟨n, slots, heap⟩ := st
  dsimp only at hh
  subst hh
  cases W with
  | nil => exact SOps.rowNil 0 0 1 s2 rfl rfl rfl h
  | cons u W => exact SOps.freezeIn 1 0 0 1 hp rfl rfl rfl rfl h
end
/-- An argument that is an array of numbers. -/
theorem arg_arr {H : Type} {enc : TypeId × Value → H} {P : Program} {w : World} {sp : Nat → Bool} {held : Bool} {t e n : Nat} {k : IntKind} {us : Array Value} {d : DataW H} {p : List MemPlace} (hu : P.underlying t = some (.array n e)) (he : P.underlying e = some (.int k)) (hc : P.cellsOf e = 1) (hct : P.cellsOf t = n)
    (h : DataW.Trod enc P w 0 sp held t (.agg us) d p) : ∃ xs : List Int, xs.length = n ∧ (∀ x ∈ xs, k.has x) ∧ Rep w (AllF w) (.agg us) (.agg (xs.map (fun x => .v (.int k x)))) := by
  obtain ⟨fuel, h⟩ := h
  obtain ⟨ys, m, _, _, hlen, hyl, hel⟩ := DataW.trod_array hu h
  have hus : us.size = n := by rw [← hct, ← hlen]; rfl
  have key : ∀ i, ∃ z : Int, i < n → us[i]? = some (.int k z) ∧ k.has z := fun i => by
    by_cases hi : i < n
    · have h1 := hel i hi
      rw [hc, Nat.mul_one, List.getElem?_eq_getElem (by omega)] at h1
      obtain ⟨z, hz, _, hwf⟩ := DataW.trod_int he h1
      refine ⟨z, fun _ => ⟨?_, lit_int_wf hwf⟩⟩
      have h2 : (((Value.agg us).cells.toList.drop i).take 1)[0]? = some (.int k z) := by rw [hz]; rfl
      rw [List.getElem?_take, if_pos (by omega), List.getElem?_drop] at h2
      have h3 : us.toList[i + 0]? = some (.int k z) := h2
      simpa using h3
    · exact ⟨0, fun h => absurd h hi⟩
  refine ⟨(List.range n).map (fun i => (key i).choose), by simp, fun x hx => ?_, .agg (by simp [hus]) (fun j x dd hx hd => ?_)⟩
  · obtain ⟨i, hi, rfl⟩ := List.mem_map.1 hx
    exact ((key i).choose_spec (List.mem_range.1 hi)).2
  · have hj : j < n := by have := (Array.getElem?_eq_some_iff.1 hx).1; omega
    obtain ⟨h1, h2⟩ := (key j).choose_spec hj
    rw [List.getElem?_map, List.getElem?_map, List.getElem?_range hj] at hd
    obtain rfl := Option.some.inj hd
    rw [h1] at hx
    obtain rfl := Option.some.inj hx
    exact .v h2
theorem okWide_arr {P : Program} {w : World} {r : Reach} {base n : Nat} {t e : TypeId} {v : Value} (ht : P.underlying t = some (.array n e)) (h : Value.okWide P w r base t v) : ∃ cs, v = .agg cs ∧ cs.size = P.cellsOf t := by
  simp only [Value.okWide, ht] at h
  obtain ⟨cs, h1, h2, _⟩ := h
  exact ⟨cs, h1, h2⟩
end Go.GH
namespace Go.GH
open Go Go.Proofs
variable {E : Env} {st : St} {ops : Array Oper} {rest : List Oper} {R : St → Prop} {t : Tmp} {ty : TypeId} {pos : String} {aft : Array Edge} {g : Option (Nat × Bool)} {pu : Bool}
end Go.GH
namespace Go.GH
open Go
end Go.GH
namespace Go.GH
open Go Go.Proofs
variable {E : Env}
theorem q14Words (a : List Letter) (l : List ByteArray) (hz : ∀ s ∈ l, s.size ≤ 1048576) : GCall Tryd.prog E 26 [DLs a, DStrs l] [] (fun d H => d = .v (.bool (l.all (isWordA a))) ∧ H = []) := by
  refine GCall.body (C := ⟨Tryd.prog, E, true⟩) Tryd.func26 rfl (fun _ => rfl) (by kernel_rfl) rfl ?_
  refine SCode.seqR ?_
  refine SOps.assign rfl ?_
  refine SOps.nil ?_
  refine SCode.seq ?_
  refine SCode.seqR ?_
  refine SOps.assign rfl ?_
  refine SOps.nil ?_
  refine SCode.block ?_
  refine SCode.loop1 (fun (i : Nat) => (⟨19, [(0, DLs a), (1, DStrs l), (5, .v (.int .i64 (i : Int)))], []⟩ : St)) (fun (i : Nat) => i ≤ l.length ∧ ∀ s ∈ l.take i, isWordA a s = true) (fun (i : Nat) => l.length - i) (0) (by simp) (St.Le.of ⟨(by first | rfl | (show some _ = some _; simp)), (by first | rfl | (show some _ = some _; simp)), (by first | rfl | (show some _ = some _; simp)), trivial⟩ rfl (by first | rfl | (simp))) ?_
  rintro i ⟨hi, hf⟩
  refine SCode.fact (isl_len (t := 1) rfl) (fun hB => ?_)
  simp only [List.length_map, lenB] at hB
  refine SCode.seq ?_
  refine SCode.seqR ?_
  refine SOps.move rfl ?_
  refine SOps.move rfl ?_
  refine SOps.lenM rfl sliceB_35_9_1 ?_
  refine SOps.bin rfl rfl rfl ?_
  refine SOps.nil ?_
  refine SCode.cond rfl (fun hc1 => ?_) (fun hc1 => ?_)
  · try simp only [nmL] at hc1
    refine SCode.skip ?_
    show SCode _ _ _ _
    refine SCode.seq ?_
    refine SCode.block ?_
    refine SCode.seqR ?_
    have hzi := hz _ (List.getElem_mem (show i < l.length by omega))
    refine SOps.move rfl ?_
    refine SOps.move rfl ?_
    refine SOps.move rfl ?_
    refine SOps.indexM (i) rfl rfl sliceB_35_9_1 (by first | omega | (simp only [lenB]; omega)) (by first | omega | (simp only [lenB]; omega)) ?_
    refine SOps.loadPin rfl flatB_9 ?_
    refine SOps.callP (q10Word _ _ hzi) rfl ?_
    rintro _ rfl
    refine SOps.un rfl rfl ?_
    refine SOps.nil ?_
    refine SCode.cond rfl (fun hc2 => ?_) (fun hc2 => ?_)
    · try simp only [nmL] at hc2
      refine SCode.seqR ?_
      refine SOps.assign rfl ?_
      refine SOps.nil ?_
      refine SCode.ret ?_
      exact ⟨_, Res.one (.tmp rfl), congrArg (fun b => DV.v (.bool b)) (Eq.symm (Bool.eq_false_iff.2 (fun h => by rw [List.all_eq_true] at h; have := h _ (List.getElem_mem (show i < l.length by omega)); simp_all))), rfl⟩
    · try simp only [nmL] at hc2
      refine SCode.skip ?_
      show SCode _ _ _ _
      refine SCode.region ?_
      refine SOps.move rfl ?_
      refine SOps.addI rfl rfl (by first | omega | (simp only [lenB]; omega)) (by first | omega | (simp only [lenB]; omega)) ?_
      refine SOps.assign rfl ?_
      refine SOps.nil ?_
      exact ⟨i + 1, by exact ⟨by omega, take_more hf (by omega) (by simp_all)⟩, by omega, (St.Le.of ⟨(by first | rfl | (show some _ = some _; simp)), (by first | rfl | (show some _ = some _; simp)), (by first | rfl | (show some _ = some _; simp)), trivial⟩ rfl (by first | rfl | (simp)))⟩
  · try simp only [nmL] at hc1
    refine SCode.exit ?_
    show SCode _ _ _ _
    refine SCode.seqR ?_
    refine SOps.assign rfl ?_
    refine SOps.nil ?_
    refine SCode.ret ?_
    exact ⟨_, Res.one (.tmp rfl), congrArg (fun b => DV.v (.bool b)) (Eq.symm (List.all_eq_true.2 (all_of (by omega) hf))), rfl⟩
end Go.GH
namespace Go.GH
open Go
end Go.GH
namespace Go.GH
open Go
instance sgDec : DecidableEq Sg := fun x y => if h : x.host = y.host ∧ x.cls = y.cls then .isTrue (by cases x; cases y; simp_all) else .isFalse (fun e => h (by subst e; exact ⟨rfl, rfl⟩))
theorem sg_ext {x y : Sg} (h1 : x.host = y.host) (h2 : x.cls = y.cls) : x = y := by cases x; cases y; simp_all
theorem getD_at {l : List ByteArray} {i : Nat} (h : i < l.length) : l.getD i .empty = l[i] := by rw [List.getD_eq_getElem?_getD, List.getElem?_eq_getElem h]; rfl
/-! segments with a form, host by host -/
theorem split_few {a : List Letter} {l : List Rule} {w : ByteArray} {hs cs : List ByteArray} (h5 : hs.length ≤ 5) (h4 : cs.length ≤ 4) : (splitL a l hs cs w).length ≤ 105 := by
  refine Nat.le_trans (List.length_filter_le _ _) ?_
  exact cand_few h5 h4
/-! what Split finds -/
theorem split_some {a : List Letter} {l : List Rule} {w : ByteArray} {hs cs : List ByteArray} {s : Sg} (h : s ∈ splitL a l hs cs w) : s.host ∈ hs ∧ (∀ c ∈ s.cls, c ∈ cs) ∧ allE a l s.host s.cls = (w, 0) := by
  unfold splitL at h
  obtain ⟨h1, h2⟩ := List.mem_filter.1 h
  obtain ⟨m1, m2, m3⟩ := candL_mem h1
  unfold okSg at h2
  simp only [Bool.and_eq_true, decide_eq_true_eq] at h2
  exact ⟨onceL_mem m1, fun c hc => onceL_mem (m3 c hc), Prod.ext h2.2 h2.1⟩
theorem onceN_all {l : List ByteArray} {x : ByteArray} : ∀ i, i ≤ l.length → x ∈ l.take i → x ∈ onceN l i
  | 0, _, h => by simp at h
  | i + 1, hi, h => by
    rw [take_next (show i < l.length by omega)] at h
    rw [onceN, getD_at (show i < l.length by omega)]
    rcases List.mem_append.1 h with h | h
    · have := onceN_all i (by omega) h
      split
      · exact this
      · exact List.mem_append_left _ this
    · obtain rfl := List.mem_singleton.1 h
      split
      · rename_i hm
        exact onceN_all i (by omega) (memS_iff.1 hm)
      · exact List.mem_append_right _ (List.mem_singleton.2 rfl)
theorem onceL_all {l : List ByteArray} {x : ByteArray} (h : x ∈ l) : x ∈ onceL l := onceN_all _ (Nat.le_refl _) (by rw [List.take_of_length_le (Nat.le_refl _)]; exact h)
theorem seqL_mem {cs : List ByteArray} : ∀ {q : List ByteArray}, q.length ≤ 2 → (∀ c ∈ q, c ∈ cs) → q ∈ seqL cs
  | [], _, _ => List.mem_cons_self ..
  | [c], _, h => List.mem_cons_of_mem _ (List.mem_append_left _ (List.mem_map.2 ⟨c, h c (by simp), rfl⟩))
  | [c, d], _, h => List.mem_cons_of_mem _ (List.mem_append_right _ (List.mem_flatMap.2 ⟨c, h c (by simp), List.mem_map.2 ⟨d, h d (by simp), rfl⟩⟩))
  | _ :: _ :: _ :: _, h, _ => by simp at h
theorem split_all {a : List Letter} {l : List Rule} {w : ByteArray} {hs cs : List ByteArray} {s : Sg} (h1 : s.host ∈ hs) (h2 : s.cls.length ≤ 2) (h3 : ∀ c ∈ s.cls, c ∈ cs) (h : allE a l s.host s.cls = (w, 0)) : s ∈ splitL a l hs cs w := by
  unfold splitL candL
  refine List.mem_filter.2 ⟨List.mem_flatMap.2 ⟨s.host, onceL_all h1, List.mem_map.2 ⟨s.cls, seqL_mem h2 (fun c hc => onceL_all (h3 c hc)), rfl⟩⟩, ?_⟩
  unfold okSg
  rw [h]; simp
/-! without rules -/
end Go.GH
