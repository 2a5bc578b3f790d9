/-
  Rules by which code is walked over abstract states: control, moves, arithmetic, addresses, loads. Proved here: each rule, from the model's own steps. No conditions.
-/
import Derived.Test.YtjcihlpjlpackaaDoorGa
import Derived.Tactics
import Derived.LoopN
set_option linter.unusedVariables false
namespace Go.GH
open Go Go.RowKit

structure Ctx where
  P : Program
  E : Env
  pu : Bool

def Ctx.ok (C : Ctx) (base : Base) : Prop := C.pu = true → ∀ b, ¬ base.own b

/-- The code, begun in a state that st describes, ends in states that Q describes. -/
def SCode (C : Ctx) (c : Code) (st : St) (Q : Exit → St → Prop) : Prop :=
  ∀ base, C.ok base → ∀ a w, Sim C.E base st a w → c.wp C.P (fun e a' w' => ∃ st', Q e st' ∧ Sim C.E base st' a' w') a w

/-- The same of the rest of a region's operations. -/
def SOps (C : Ctx) (ops : Array Oper) (l : List Oper) (st : St) (R : St → Prop) : Prop :=
  ∀ base, C.ok base → ∀ a w, Sim C.E base st a w → ∀ Q : Exit → Act → World → Prop, (∀ st' a' w', R st' → Sim C.E base st' a' w' → Q .normal a' w') → wpList C.P ops Q l a w

def thenQ (C : Ctx) (y : Code) (Q : Exit → St → Prop) : Exit → St → Prop
  | .normal, st => SCode C y st Q
  | e, st => Q e st
def blockQ (id : Nat) (Q : Exit → St → Prop) : Exit → St → Prop
  | .exit id', st => if id' = id then Q .normal st else Q (.exit id') st
  | e, st => Q e st

section control
variable {C : Ctx} {st : St} {Q : Exit → St → Prop}

theorem SCode.mono {c : Code} {Q' : Exit → St → Prop} (h : SCode C c st Q) (hq : ∀ e st, Q e st → Q' e st) : SCode C c st Q' :=
  fun base ok a w hs => wp_mono (h base ok a w hs) (fun _ _ _ ⟨st', q, s⟩ => ⟨st', hq _ _ q, s⟩)
theorem SCode.weaken {c : Code} {st' : St} (hl : st'.Le st) (h : SCode C c st' Q) : SCode C c st Q :=
  fun base ok a w ⟨F, hs⟩ => h base ok a w ⟨F, hs.weaken hl⟩
theorem SCode.skip (h : Q .normal st) : SCode C .skip st Q := fun _ _ _ _ hs => wp_skip ⟨st, h, hs⟩
theorem SCode.ret (h : Q .ret st) : SCode C .ret st Q := fun _ _ _ _ hs => wp_ret ⟨st, h, hs⟩
theorem SCode.exit {id : Nat} (h : Q (.exit id) st) : SCode C (.exit id) st Q := fun _ _ _ _ hs => wp_exit ⟨st, h, hs⟩
theorem SCode.seq {x y : Code} (h : SCode C x st (thenQ C y Q)) : SCode C (.seq x y) st Q := fun base ok a w hs =>
  wp_seq (wp_mono (h base ok a w hs) (fun e a' w' ⟨st', q, s⟩ => by
    cases e <;> first | exact q base ok a' w' s | exact ⟨st', q, s⟩))
theorem SCode.block {id : Nat} {c : Code} (h : SCode C c st (blockQ id Q)) : SCode C (.block id c) st Q := fun base ok a w hs =>
  wp_block (wp_mono (h base ok a w hs) (fun e a' w' ⟨st', q, s⟩ => by
    cases e with
    | exit id' =>
      simp only [blockQ, Exit.inBlock] at *
      split
      · rename_i e; rw [if_pos e] at q; exact ⟨st', q, s⟩
      · rename_i e; rw [if_neg e] at q; exact ⟨st', q, s⟩
    | _ => exact ⟨st', q, s⟩))

/-- A loop: an invariant, one state for each x, and a measure. -/
theorem SCode.loop {α : Type} {c : Code} (I : α → St) (μ : α → Nat) (x₀ : α) (h₀ : (I x₀).Le st)
    (round : ∀ x, SCode C c (I x) (fun e st' => match e with
      | .normal => ∃ y, μ y < μ x ∧ (I y).Le st'
      | e => Q e st')) : SCode C (.loop c) st Q := by
  intro base ok a w ⟨F, hs⟩
  have key : ∀ n x, μ x < n → ∀ a w, Sim C.E base (I x) a w → Code.rounds C.P c (fun e a' w' => ∃ st', Q e st' ∧ Sim C.E base st' a' w') n a w := by
    intro n
    induction n with
    | zero => intro x hx; omega
    | succ n ih =>
      intro x hx a w hs
      refine wp_mono (round x base ok a w hs) (fun e a' w' ⟨st', q, s⟩ => ?_)
      cases e with
      | normal =>
        obtain ⟨y, hy, hl⟩ := q
        obtain ⟨F', s'⟩ := s
        exact ih y (by omega) a' w' ⟨F', s'.weaken hl⟩
      | _ => exact ⟨st', q, s⟩
  exact wp_loop_rounds _ (key (μ x₀ + 1) x₀ (Nat.lt_succ_self _) a w ⟨F, hs.weaken h₀⟩)
end control

/-! ### operands, guards -/
def scalB : Value → Bool
  | .int k n => decide (k.min ≤ n) && decide (n ≤ k.max)
  | .string s => Nat.ble s.size lenB
  | _ => true
theorem scal_of {x : Value} (h : scalB x = true) : scal x := by
  cases x <;> simp only [scal]
  · simp only [scalB, Bool.and_eq_true, decide_eq_true_eq] at h; exact h
  · exact Nat.le_of_ble_eq_true h

def St.val (st : St) : Operand → Option DV
  | .tmp t => st.get t
  | .const v => if scalB v then some (.v v) else none
  | .func f => some (.fn f [])
  | .global _ => none

section ops
variable {C : Ctx} {E : Env} {base : Base} {F : Nat → Prop} {st : St} {a : Act} {w : World} {ops : Array Oper} {rest : List Oper} {R : St → Prop}
  {t : Tmp} {ty : TypeId} {pos : String} {aft : Array Edge} {g : Option (Nat × Bool)}

theorem SimF.val (h : SimF E base F st a w) {x : Operand} {d : DV} (hx : st.val x = some d) : Rep w F (a.eval x) d := by
  cases x with
  | tmp t => exact (h.slots t d hx).2
  | const v =>
    simp only [St.val] at hx
    split at hx
    · rename_i hv; obtain rfl := Option.some.inj hx; exact .v (scal_of hv)
    · cases hx
  | global g => cases hx
  | func f =>
    obtain rfl := Option.some.inj hx
    exact .fn rfl (fun j x d h _ => by simp at h)

def St.wants (st : St) (ops : Array Oper) (g : Option (Nat × Bool)) : Option Bool :=
  match g with
  | none => some true
  | some (j, want) => match (ops[j]?).bind (·.dst) with
    | some t => match st.get t with
      | some (.v (.bool b)) => some (b == want)
      | some (.v (.tuple _)) => some false
      | _ => none
    | none => none

theorem Rep.inv_v {w : World} {F : Nat → Prop} {x y : Value} (h : Rep w F x (.v y)) : x = y ∧ scal y := by cases h; exact ⟨rfl, ‹_›⟩

theorem SimF.wanted (h : SimF E base F st a w) {o : Oper} {b : Bool} (hg : st.wants ops o.guard = some b) : Region.wanted o (yielded ops a.tmps) = b := by
  unfold Region.wanted
  unfold St.wants at hg
  split at hg
  · rename_i hgn; rw [hgn]; exact Option.some.inj hg
  · rename_i j want hgs
    rw [hgs]
    simp only
    split at hg
    · rename_i t ht
      split at hg
      · rename_i b' hb'
        obtain ⟨h1, h2⟩ := h.slots t _ hb'
        have h3 := h2.inv_v.1
        unfold yielded
        rw [ht]
        have h4 : a.tmps[t]? = some (.bool b') := by
          rw [Array.getElem?_eq_getElem (h.size ▸ h1)]
          rw [Array.getD, dif_pos (h.size ▸ h1)] at h3
          exact congrArg some h3
        simp only [Option.bind_some, h4]
        have := Option.some.inj hg
        rw [← this]
        cases b' <;> cases want <;> rfl
      · rename_i u hu
        obtain ⟨h1, h2⟩ := h.slots t _ hu
        have h3 := h2.inv_v.1
        unfold yielded
        rw [ht]
        have h4 : a.tmps[t]? = some (.tuple u) := by
          rw [Array.getElem?_eq_getElem (h.size ▸ h1)]
          rw [Array.getD, dif_pos (h.size ▸ h1)] at h3
          exact congrArg some h3
        simp only [Option.bind_some, h4]
        have := Option.some.inj hg
        rw [← this]
        cases want <;> rfl
      · cases hg
    · cases hg

theorem SOps.nil (h : R st) : SOps C ops [] st R := fun _ _ a w hs _ hQ => wpList_nil (hQ st a w h hs)
theorem SOps.mono {R' : St → Prop} {l : List Oper} (h : SOps C ops l st R) (hr : ∀ st, R st → R' st) : SOps C ops l st R' :=
  fun base ok a w hs Q hQ => h base ok a w hs Q (fun st' a' w' r s => hQ st' a' w' (hr _ r) s)
theorem SOps.weaken {l : List Oper} {st' : St} (hl : st'.Le st) (h : SOps C ops l st' R) : SOps C ops l st R :=
  fun base ok a w ⟨F, hs⟩ => h base ok a w ⟨F, hs.weaken hl⟩

/-- One operation: what it does to the world and to its slot. -/
theorem SOps.op {o : Oper} {R1 : St → Prop} (hg : st.wants ops o.guard = some true)
    (hs : ∀ base, C.ok base → ∀ a w F, SimF C.E base F st a w → ∀ (K : Act → World → Prop) (Q : Exit → Act → World → Prop), (∀ st' a' w', R1 st' → Sim C.E base st' a' w' → K a' w') → o.wp C.P a w K Q)
    (hrest : ∀ st', R1 st' → SOps C ops rest st' R) : SOps C ops (o :: rest) st R := by
  intro base ok a w ⟨F, hsim⟩ Q hQ
  refine wpList_step (fun K hK => ?_)
  rw [if_pos (hsim.wanted hg)]
  exact hs base ok a w F hsim K Q (fun st' a' w' r s => hK _ _ (hrest st' r base ok a' w' s Q hQ))

/-- An operation whose guard says no. -/
theorem SOps.skip {o : Oper} {t : Tmp} (hd : o.dst = some t) (h : SOps C ops rest (st.put t (.v (.tuple #[]))) R) (hg : st.wants ops o.guard = some false := by rfl) (ht : Nat.blt t st.n = true := by rfl) : SOps C ops (o :: rest) st R := by
  intro base ok a w ⟨F, hsim⟩ Q hQ
  refine wpList_step (fun K hK => ?_)
  rw [if_neg (by rw [hsim.wanted hg]; simp), hd]
  exact hK _ _ (h base ok _ w ⟨F, hsim.put (by simpa using ht) (.v trivial)⟩ Q hQ)

/-- An operation that yields a value and leaves the world alone. -/
theorem SOps.val {o : Oper} {d : DV} (hd : o.dst = some t) (hg : st.wants ops o.guard = some true) (ht : Nat.blt t st.n = true)
    (hv : ∀ base a w F, SimF C.E base F st a w → ∃ x, (execOp a.eval o).run C.P w = .ok (.value x) w ∧ Rep w F x d)
    (hrest : SOps C ops rest (st.put t d) R) : SOps C ops (o :: rest) st R := by
  refine SOps.op (R1 := (· = st.put t d)) hg ?_ (fun st' e => e ▸ hrest)
  intro base ok a w F hsim K Q hK
  obtain ⟨x, hx, hr⟩ := hv base a w F hsim
  unfold Oper.wp
  rw [hx, Oper.upon_value, hd]
  exact hK _ _ _ rfl ⟨F, hsim.put (by simpa using ht) hr⟩

theorem SOps.move {x : Operand} {d : DV} (hx : st.val x = some d) (hrest : SOps C ops rest (st.put t d) R)
    (hg : st.wants ops g = some true := by rfl) (ht : Nat.blt t st.n = true := by rfl) : SOps C ops (⟨some t, .move x, ty, pos, aft, g⟩ :: rest) st R :=
  SOps.val rfl hg ht (fun _ _ _ _ hs => ⟨_, rfl, hs.val hx⟩) hrest
theorem SOps.assign {x : Operand} {d : DV} (hx : st.val x = some d) (hrest : SOps C ops rest (st.put t d) R)
    (hg : st.wants ops g = some true := by rfl) (ht : Nat.blt t st.n = true := by rfl) : SOps C ops (⟨some t, .assign x, ty, pos, aft, g⟩ :: rest) st R :=
  SOps.val rfl hg ht (fun _ _ _ _ hs => ⟨_, rfl, hs.val hx⟩) hrest
theorem SOps.pick {c x y : Operand} {b : Bool} {d : DV} (hc : st.val c = some (.v (.bool b))) (hx : st.val (if b then x else y) = some d) (hrest : SOps C ops rest (st.put t d) R)
    (hg : st.wants ops g = some true := by rfl) (ht : Nat.blt t st.n = true := by rfl) : SOps C ops (⟨some t, .pick c x y, ty, pos, aft, g⟩ :: rest) st R :=
  SOps.val rfl hg ht (fun base a w F hs => by
    have h1 := (hs.val hc).inv_v.1
    have h2 := hs.val hx
    refine ⟨a.eval (if b then x else y), ?_, h2⟩
    simp only [execOp, h1, asBool]
    cases b <;> simp) hrest

/-- What is known of a slot may be told otherwise. -/
theorem SimF.relabel (h : SimF E base F st a w) {d d' : DV} (hd : st.get t = some d) (hr : Rep w F (a.tmps.getD t undef) d → Rep w F (a.tmps.getD t undef) d') : SimF E base F (st.put t d') a w where
  keep := h.keep
  base_lt := h.base_lt
  sub := h.sub
  lt := h.lt
  env := h.env
  size := h.size
  slots := by
    intro u e hu
    by_cases hut : u = t
    · subst hut
      rw [St.get_put_same] at hu
      obtain rfl := Option.some.inj hu
      exact ⟨(h.slots _ _ hd).1, hr (h.slots _ _ hd).2⟩
    · rw [St.get_put_ne st d' hut] at hu
      exact h.slots u e hu
  heap := h.heap
  keys := h.keys
  defers := h.defers

/-- Both ways of a bool in a slot. -/
theorem SOps.caseB {l : List Oper} (t : Nat) {b : Bool} (hd : st.get t = some (.v (.bool b)))
    (hT : b = true → SOps C ops l (st.put t (.v (.bool true))) R) (hF : b = false → SOps C ops l (st.put t (.v (.bool false))) R) : SOps C ops l st R := by
  intro base ok a w ⟨F, hs⟩
  cases b with
  | true => exact hT rfl base ok a w ⟨F, hs.relabel hd id⟩
  | false => exact hF rfl base ok a w ⟨F, hs.relabel hd id⟩

/-- A fact that the relation bears. -/
theorem SCode.fact {c : Code} {Q : Exit → St → Prop} {p : Prop} (hp : ∀ base a w F, SimF C.E base F st a w → p) (h : p → SCode C c st Q) : SCode C c st Q :=
  fun base ok a w ⟨F, hs⟩ => h (hp base a w F hs) base ok a w ⟨F, hs⟩
theorem SOps.fact {l : List Oper} {p : Prop} (hp : ∀ base a w F, SimF C.E base F st a w → p) (h : p → SOps C ops l st R) : SOps C ops l st R :=
  fun base ok a w ⟨F, hs⟩ => h (hp base a w F hs) base ok a w ⟨F, hs⟩

theorem SCode.region {id : Nat} {l : List Oper} {Q : Exit → St → Prop} (h : SOps C l.toArray l st (fun st' => Q .normal st')) : SCode C (.region id l.toArray false) st Q :=
  fun base ok a w hs => wp_region_lit (h base ok a w hs _ (fun st' a' w' r s => ⟨st', r, s⟩))
theorem SCode.cond {c : Operand} {x y : Code} {b : Bool} {Q : Exit → St → Prop} (hc : st.val c = some (.v (.bool b))) (hT : b = true → SCode C x st Q) (hF : b = false → SCode C y st Q) : SCode C (.cond c x y) st Q := by
  intro base ok a w hs
  obtain ⟨F, hs'⟩ := hs
  refine wp_cond_split (hs'.val hc).inv_v.1 (fun e => hT e base ok a w ⟨F, hs'⟩) (fun e => hF e base ok a w ⟨F, hs'⟩)
end ops
end Go.GH
