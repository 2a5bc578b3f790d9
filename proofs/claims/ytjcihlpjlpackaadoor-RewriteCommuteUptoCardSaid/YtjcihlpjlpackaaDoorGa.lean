/-
  An abstract state over the model's frames and worlds, by value: what a slot holds and what the call's own blocks hold, as plain data ('DV', 'DO').
  Proved here: the relation between such a state and a frame with a world survives new blocks, stores into own blocks and draws. No conditions.
-/
import Derived.WalkKit
import Derived.Laws.Rows
import Derived.Below
import Derived.Laws.Slices
import Derived.Orders
namespace Go.GH
open Go Go.RowKit

/-- A bound on lengths: the greatest int. -/
def lenB : Nat := 9223372036854775807

/-- A value, told as plain data. -/
inductive DV where
  | any
  | v (x : Value)
  | ref (b o : Nat)
  | vref (b e n : Nat)
  | sl (b sz off len : Nat)
  | isl (nn : Bool) (sz : Nat) (es : List (List DV))
  | ipin (cs : List DV)
  | imap (es : List (Value × DV))
  | mp (b : Nat)
  | it (b : Nat)
  | fn (f : FuncId) (cap : List DV)
  | bfn (f : FuncId) (first : List DV)
  | agg (cs : List DV)
  | tup (cs : List DV)
  deriving Inhabited

/-- What a block of the call's own holds. -/
inductive DO where
  | row (elem sz : Nat) (es : List (List DV))
  | map (es : List (Value × DV))
  | iter (s : ByteArray) (pos : Nat)
  deriving Inhabited

def scal : Value → Prop
  | .int k n => k.has n
  | .string s => s.size ≤ lenB
  | _ => True

/-- The value x reads as d in the world w; blocks that are read and never written lie in F. -/
inductive Rep (w : World) (F : Nat → Prop) : Value → DV → Prop
  | any (x : Value) : Rep w F x .any
  | v {x : Value} (h : scal x) : Rep w F x (.v x)
  | ref (b o : Nat) : Rep w F (.pointer (some ⟨b, o, none⟩)) (.ref b o)
  | vref {b e n : Nat} (h : w.shape? b = some (e, n)) : Rep w F (.pointer (some ⟨b, 0, none⟩)) (.vref b e n)
  | sl {b sz off len cap : Nat} {e : TypeId} {n : Nat} (h1 : len ≤ cap) (h2 : w.shape? b = some (e, n)) (h3 : (off + cap) * sz ≤ n) (h4 : len ≤ lenB) :
      Rep w F (.slice (some ⟨b, off * sz, none⟩) len cap) (.sl b sz off len)
  | isl {A : Option Addr} {len cap : Nat} {nn : Bool} {sz : Nat} {es : List (List DV)} {b o : Nat} (xs : Nat → Nat → Value)
      (hlen : len = es.length) (hcap : len ≤ cap) (hB : es.length ≤ lenB) (hnn : nn = true → A ≠ none) (hA : es ≠ [] → A = some ⟨b, o, none⟩ ∧ F b)
      (hsz : ∀ (i : Nat) (e : List DV), es[i]? = some e → e.length = sz)
      (hc : ∀ (i : Nat) (e : List DV) (j : Nat) (d : DV), es[i]? = some e → e[j]? = some d → w.cell? ⟨b, o + (i * sz + j), none⟩ = some (xs i j) ∧ (xs i j).oneCell' = true)
      (hr : ∀ (i : Nat) (e : List DV) (j : Nat) (d : DV), es[i]? = some e → e[j]? = some d → Rep w F (xs i j) d) : Rep w F (.slice A len cap) (.isl nn sz es)
  | ipin {b o : Nat} {cs : List DV} (xs : Nat → Value) (hF : F b)
      (hc : ∀ (j : Nat) (d : DV), cs[j]? = some d → w.cell? ⟨b, o + j, none⟩ = some (xs j) ∧ (xs j).oneCell' = true)
      (hr : ∀ (j : Nat) (d : DV), cs[j]? = some d → Rep w F (xs j) d) : Rep w F (.pointer (some ⟨b, o, none⟩)) (.ipin cs)
  | imap {r : Nat} {ents : Array MapEntry} {clock : Nat} {es : List (Value × DV)} (xs : Nat → Value) (hF : F r)
      (hh : w.heap[r]? = some (.map ents clock)) (hl : ents.size = es.length)
      (hk : ∀ (i : Nat) (p : Value × DV), es[i]? = some p → (ents[i]?).map (fun e => (e.key, e.val)) = some (p.1, xs i))
      (hr : ∀ (i : Nat) (p : Value × DV), es[i]? = some p → Rep w F (xs i) p.2) : Rep w F (.map (some r)) (.imap es)
  | mp (b : Nat) : Rep w F (.map (some b)) (.mp b)
  | it (b : Nat) : Rep w F (.pointer (some ⟨b, 0, none⟩)) (.it b)
  | fn {f : FuncId} {us : Array Value} {ds : List DV} (hl : us.size = ds.length)
      (hr : ∀ (j : Nat) (x : Value) (d : DV), us[j]? = some x → ds[j]? = some d → Rep w F x d) : Rep w F (.func (.func f) #[] us) (.fn f ds)
  | bfn {f : FuncId} {us : Array Value} {ds : List DV} (hl : us.size = ds.length)
      (hr : ∀ (j : Nat) (x : Value) (d : DV), us[j]? = some x → ds[j]? = some d → Rep w F x d) : Rep w F (.func (.func f) us #[]) (.bfn f ds)
  | agg {us : Array Value} {ds : List DV} (hl : us.size = ds.length)
      (hr : ∀ (j : Nat) (x : Value) (d : DV), us[j]? = some x → ds[j]? = some d → Rep w F x d) : Rep w F (.agg us) (.agg ds)
  | tup {us : Array Value} {ds : List DV} (hl : us.size = ds.length)
      (hr : ∀ (j : Nat) (x : Value) (d : DV), us[j]? = some x → ds[j]? = some d → Rep w F x d) : Rep w F (.tuple us) (.tup ds)

def DV.one : DV → Bool
  | .any | .agg _ | .tup _ => false
  | .v x => x.oneCell'
  | _ => true
theorem Rep.one {w : World} {F : Nat → Prop} {x : Value} {d : DV} (h : Rep w F x d) (hd : d.one = true) : x.oneCell' = true := by
  cases h <;> first | rfl | (simp [DV.one] at hd; done) | (simpa [DV.one] using hd)

theorem cell?_same {w w' : World} {b o : Nat} (h : w'.heap[b]? = w.heap[b]?) : w'.cell? ⟨b, o, none⟩ = w.cell? ⟨b, o, none⟩ := by
  simp [World.cell?, h]

/-- The reading survives whatever leaves the blocks of F as they are and no row of another size. -/
theorem Rep.mono {w w' : World} {F F' : Nat → Prop} (hw : ∀ b, F b → w'.heap[b]? = w.heap[b]?) (hs : ∀ b s, w.shape? b = some s → w'.shape? b = some s)
    (hF : ∀ b, F b → F' b) {x : Value} {d : DV} (h : Rep w F x d) : Rep w' F' x d := by
  induction h with
  | any x => exact .any x
  | v h => exact .v h
  | ref b o => exact .ref b o
  | vref h => exact .vref (hs _ _ h)
  | sl h1 h2 h3 h4 => exact .sl h1 (hs _ _ h2) h3 h4
  | @isl A len cap nn sz es b o xs hlen hcap hB hnn hA hsz hc hr ih =>
    refine .isl (b := b) (o := o) xs hlen hcap hB hnn (fun h => ⟨(hA h).1, hF _ (hA h).2⟩) hsz (fun i e j d h1 h2 => ?_) ih
    have hne : es ≠ [] := by intro h; simp [h] at h1
    rw [cell?_same (hw _ (hA hne).2)]
    exact hc i e j d h1 h2
  | ipin xs hFb hc hr ih => exact .ipin xs (hF _ hFb) (fun j d h => by rw [cell?_same (hw _ hFb)]; exact hc j d h) ih
  | imap xs hFr hh hl hk hr ih => exact .imap xs (hF _ hFr) (by rw [hw _ hFr]; exact hh) hl hk ih
  | mp b => exact .mp b
  | it b => exact .it b
  | fn hl hr ih => exact .fn hl ih
  | bfn hl hr ih => exact .bfn hl ih
  | agg hl hr ih => exact .agg hl ih
  | tup hl hr ih => exact .tup hl ih

/-- Block b holds o. -/
def ObjRep (w : World) (F : Nat → Prop) (b : Nat) : DO → Prop
  | .row elem sz es => ∃ cs : Array Value, w.heap[b]? = some (.cells cs elem (0, 0)) ∧ es.length * sz ≤ cs.size ∧ es.length ≤ lenB ∧
      ∀ (i : Nat) e, es[i]? = some e → e.length = sz ∧ ∀ (j : Nat) d, e[j]? = some d → ∃ x, cs[i * sz + j]? = some x ∧ x.oneCell' = true ∧ Rep w F x d
  | .map es => ∃ (ents : Array MapEntry) (clock : Nat), w.heap[b]? = some (.map ents clock) ∧ ents.size = es.length ∧
      ∀ (i : Nat) p, es[i]? = some p → ∃ e, ents[i]? = some e ∧ e.key = p.1 ∧ Rep w F e.val p.2
  | .iter s pos => w.heap[b]? = some (.stringIter s pos)

theorem ObjRep.mono {w w' : World} {F F' : Nat → Prop} {b : Nat} {o : DO} (hb : w'.heap[b]? = w.heap[b]?) (hw : ∀ b, F b → w'.heap[b]? = w.heap[b]?)
    (hs : ∀ b s, w.shape? b = some s → w'.shape? b = some s) (hF : ∀ b, F b → F' b) (h : ObjRep w F b o) : ObjRep w' F' b o := by
  cases o with
  | row elem sz es =>
    obtain ⟨cs, h1, h2, h2', h3⟩ := h
    refine ⟨cs, hb.trans h1, h2, h2', fun i e hi => ⟨(h3 i e hi).1, fun j d hj => ?_⟩⟩
    obtain ⟨x, hx, ho, hr⟩ := (h3 i e hi).2 j d hj
    exact ⟨x, hx, ho, hr.mono hw hs hF⟩
  | map es =>
    obtain ⟨ents, clock, h1, h2, h3⟩ := h
    refine ⟨ents, clock, hb.trans h1, h2, fun i p hi => ?_⟩
    obtain ⟨e, he, hk, hr⟩ := h3 i p hi
    exact ⟨e, he, hk, hr.mono hw hs hF⟩
  | iter s pos => exact hb.trans h

theorem ObjRep.lt {w : World} {F : Nat → Prop} {b : Nat} {o : DO} (h : ObjRep w F b o) : b < w.heap.size := by
  have key : ∀ x, w.heap[b]? = some x → b < w.heap.size := fun x hx => (Array.getElem?_eq_some_iff.1 hx).1
  cases o with
  | row elem sz es => exact key _ h.choose_spec.1
  | map es => exact key _ h.choose_spec.choose_spec.1
  | iter s pos => exact key _ h

abbrev DHeap := List (Nat × DO)
/-- An abstract state: what slots hold, what own blocks hold. -/
structure St where
  n : Nat
  slots : List (Nat × DV)
  heap : DHeap

/-- What is known of memory that never turns: package-level tables. -/
structure Env where
  holds : World → (Nat → Prop) → Prop
  mono : ∀ {w w' : World} {F F' : Nat → Prop}, (∀ b, F b → w'.heap[b]? = w.heap[b]?) → (∀ b, F b → F' b) → holds w F → holds w' F'

/-- Where a call began: its world, what never turns, what it may write. -/
structure Base where
  w : World
  F : Nat → Prop
  own : Nat → Prop

/-- From w to w': the streams stand, no block goes or turns its size, and what is not in T stands. -/
structure Step (T : Nat → Prop) (w w' : World) : Prop where
  os : w'.os = w.os
  tape : w'.tape = w.tape
  output : w'.output = w.output
  size : w.heap.size ≤ w'.heap.size
  block : ∀ b, b < w.heap.size → ¬ T b → w'.heap[b]? = w.heap[b]?
  shape : ∀ b s, w.shape? b = some s → w'.shape? b = some s

theorem Step.refl (T : Nat → Prop) (w : World) : Step T w w := ⟨rfl, rfl, rfl, Nat.le_refl _, fun _ _ _ => rfl, fun _ _ h => h⟩
theorem Step.trans {T : Nat → Prop} {a b c : World} (h : Step T a b) (k : Step T b c) : Step T a c :=
  ⟨k.os.trans h.os, k.tape.trans h.tape, k.output.trans h.output, Nat.le_trans h.size k.size,
   fun i hi ht => (k.block i (Nat.lt_of_lt_of_le hi h.size) ht).trans (h.block i hi ht), fun i s hs => k.shape i s (h.shape i s hs)⟩
theorem Step.mono {T T' : Nat → Prop} {a b : World} (h : Step T a b) (k : ∀ i, i < a.heap.size → T i → T' i) : Step T' a b :=
  ⟨h.os, h.tape, h.output, h.size, fun i hi ht => h.block i hi (fun x => ht (k i hi x)), h.shape⟩
/-- What turns behind a is new or in T. -/
theorem Step.then {T T' : Nat → Prop} {a b c : World} (h : Step T a b) (k : Step T' b c) (hT : ∀ i, i < a.heap.size → T' i → T i) : Step T a c :=
  ⟨k.os.trans h.os, k.tape.trans h.tape, k.output.trans h.output, Nat.le_trans h.size k.size,
   fun i hi ht => (k.block i (Nat.lt_of_lt_of_le hi h.size) (fun x => ht (hT i hi x))).trans (h.block i hi ht), fun i s hs => k.shape i s (h.shape i s hs)⟩

theorem Step.drew (T : Nat → Prop) (w : World) : Step T w w.drew := ⟨rfl, rfl, rfl, Nat.le_refl _, fun _ _ _ => rfl, fun _ _ h => h⟩
theorem shape?_lt {w : World} {b : Nat} {s : TypeId × Nat} (h : w.shape? b = some s) : b < w.heap.size := by
  unfold World.shape? at h
  rcases Nat.lt_or_ge b w.heap.size with h' | h'
  · exact h'
  · simp [Array.getElem?_eq_none h'] at h
theorem Step.alloc (T : Nat → Prop) (w : World) (o : Obj) : Step T w (w.alloc o) :=
  ⟨rfl, rfl, rfl, by simp, fun b hb _ => Below.heap_alloc w o b hb, fun b s h => by
    unfold World.shape? at *
    rw [Below.heap_alloc w o b (shape?_lt h)]
    exact h⟩
theorem shape?_setCell (w : World) (a : Addr) (v : Value) (b : Nat) : (w.setCell a v).shape? b = w.shape? b := by
  unfold World.shape?
  by_cases h : b = a.block
  · subst h
    simp only [World.setCell, Array.getElem?_modify, if_true]
    cases hh : w.heap[a.block]? with
    | none => simp
    | some o => cases o <;> simp <;> split <;> simp
  · rw [heap_setCell_other w a b v h]
theorem Step.setCell (w : World) (a : Addr) (v : Value) : Step (· = a.block) w (w.setCell a v) :=
  ⟨rfl, rfl, rfl, by simp, fun b _ hb => heap_setCell_other w a b v hb, fun b s h => by rw [shape?_setCell]; exact h⟩
/-- Rows kept by 'grownBy' keep their size where the one row that is written does. -/
theorem Step.grown {w w' : World} {row : Option Nat} (h : w.grownBy w' row) (hs : ∀ k, row = some k → ∀ s, w.shape? k = some s → w'.shape? k = some s) : Step (fun b => row = some b) w w' :=
  ⟨h.os, h.tape, h.output, h.size, fun b hb ht => h.block b hb (fun e => ht e.symm), fun b s hb => by
    by_cases e : row = some b
    · exact hs b e s hb
    · unfold World.shape? at *
      rw [h.block b (shape?_lt hb) (fun x => e x.symm)]
      exact hb⟩
theorem Step.of_below {w w' : World} (h : Below w.heap.size w w') : Step (fun _ => False) w w' :=
  ⟨h.os, h.tape, h.output, h.size, fun b hb _ => h.block b hb, fun b s hb => by
    unfold World.shape? at *
    rw [h.block b (shape?_lt hb)]
    exact hb⟩
theorem Step.below {w w' : World} (h : Step (fun _ => False) w w') : Below w.heap.size w w' :=
  ⟨h.os, h.tape, h.output, h.size, fun b hb => h.block b hb (fun x => x)⟩

def getL : List (Nat × DV) → Nat → Option DV
  | [], _ => none
  | (u, d) :: l, t => match Nat.beq u t with
    | true => some d
    | false => getL l t
def St.get (st : St) (t : Nat) : Option DV := getL st.slots t
def St.put (st : St) (t : Nat) (d : DV) : St := { st with slots := (t, d) :: st.slots }

theorem St.get_put_same (st : St) (t : Nat) (d : DV) : (st.put t d).get t = some d := by simp [St.get, St.put, getL]
theorem St.get_put_ne (st : St) {t u : Nat} (d : DV) (h : u ≠ t) : (st.put t d).get u = st.get u := by
  have : Nat.beq t u = false := by
    cases hb : Nat.beq t u with
    | false => rfl
    | true => exact absurd (Nat.eq_of_beq_eq_true hb).symm h
  simp [St.get, St.put, getL, this]

/-- The state st describes the frame a and the world w, in a call that began at 'base'. -/
structure SimF (E : Env) (base : Base) (F : Nat → Prop) (st : St) (a : Act) (w : World) : Prop where
  keep : Step base.own base.w w
  base_lt : ∀ b, base.own b → b < base.w.heap.size
  sub : ∀ b, base.F b → F b
  lt : ∀ b, F b → b < w.heap.size ∧ (base.F b ∨ base.w.heap.size ≤ b)
  env : E.holds w F
  size : a.tmps.size = st.n
  slots : ∀ t d, st.get t = some d → t < st.n ∧ Rep w F (a.tmps.getD t undef) d
  heap : ∀ p ∈ st.heap, (base.own p.1 ∨ base.w.heap.size ≤ p.1) ∧ ¬ F p.1 ∧ ObjRep w F p.1 p.2
  keys : (st.heap.map (·.1)).Nodup
  defers : a.defers = []

def Sim (E : Env) (base : Base) (st : St) (a : Act) (w : World) : Prop := ∃ F, SimF E base F st a w

theorem put_size (a : Act) (t : Option Tmp) (v : Value) : (a.put t v).tmps.size = a.tmps.size := by
  cases t <;> simp [Act.put]
theorem put_get_same (a : Act) {t : Tmp} (v : Value) (h : t < a.tmps.size) : (a.put (some t) v).tmps.getD t undef = v := by
  simp [Act.put, Array.getD, h]
theorem put_get_ne (a : Act) {t u : Tmp} (v : Value) (h : u ≠ t) : (a.put (some t) v).tmps.getD u undef = a.tmps.getD u undef := by
  simp [Act.put, Array.getD_eq_getD_getElem?, Ne.symm h]
theorem put_defers (a : Act) (t : Option Tmp) (v : Value) : (a.put t v).defers = a.defers := by cases t <;> rfl

variable {E : Env} {base : Base} {F : Nat → Prop} {st : St} {a : Act} {w : World}

/-- A slot is written. -/
theorem SimF.put (h : SimF E base F st a w) {t : Tmp} {x : Value} {d : DV} (ht : t < st.n) (hr : Rep w F x d) : SimF E base F (st.put t d) (a.put (some t) x) w where
  keep := h.keep
  base_lt := h.base_lt
  sub := h.sub
  lt := h.lt
  env := h.env
  size := by rw [put_size]; exact h.size
  slots := by
    intro u e hu
    by_cases hut : u = t
    · subst hut
      rw [St.get_put_same] at hu
      obtain rfl := Option.some.inj hu
      exact ⟨ht, by rw [put_get_same a x (h.size ▸ ht)]; exact hr⟩
    · rw [St.get_put_ne st d hut] at hu
      rw [put_get_ne a x hut]
      exact h.slots u e hu
  heap := h.heap
  keys := h.keys
  defers := by rw [put_defers]; exact h.defers
theorem SimF.put_none (h : SimF E base F st a w) (x : Value) : SimF E base F st (a.put none x) w := h

/-- The world goes on and leaves what is known as it is. -/
theorem SimF.world (h : SimF E base F st a w) {w' : World} (k : Step (fun _ => False) w w') : SimF E base F st a w' where
  keep := h.keep.then k (fun _ _ x => x.elim)
  base_lt := h.base_lt
  sub := h.sub
  lt := fun b hb => ⟨Nat.lt_of_lt_of_le (h.lt b hb).1 k.size, (h.lt b hb).2⟩
  env := E.mono (fun b hb => k.block b (h.lt b hb).1 (fun x => x)) (fun _ x => x) h.env
  size := h.size
  slots := fun t d ht => ⟨(h.slots t d ht).1, (h.slots t d ht).2.mono (fun b hb => k.block b (h.lt b hb).1 (fun x => x)) k.shape (fun _ x => x)⟩
  heap := fun p hp => by
    obtain ⟨h1, h2, h3⟩ := h.heap p hp
    exact ⟨h1, h2, h3.mono (k.block _ h3.lt (fun x => x)) (fun b hb => k.block b (h.lt b hb).1 (fun x => x)) k.shape (fun _ x => x)⟩
  keys := h.keys
  defers := h.defers

/-- New blocks from 'lo' to 'hi' are taken for memory that never turns. -/
theorem SimF.grow (h : SimF E base F st a w) {G : Nat → Prop} (hG : ∀ b, G b → b < w.heap.size ∧ base.w.heap.size ≤ b ∧ ∀ p ∈ st.heap, p.1 ≠ b) :
    SimF E base (fun b => F b ∨ G b) st a w where
  keep := h.keep
  base_lt := h.base_lt
  sub := fun b hb => .inl (h.sub b hb)
  lt := fun b hb => hb.elim (h.lt b) (fun g => ⟨(hG b g).1, .inr (hG b g).2.1⟩)
  env := E.mono (fun _ _ => rfl) (fun _ x => .inl x) h.env
  size := h.size
  slots := fun t d ht => ⟨(h.slots t d ht).1, (h.slots t d ht).2.mono (fun _ _ => rfl) (fun _ _ x => x) (fun _ x => .inl x)⟩
  heap := fun p hp => by
    obtain ⟨h1, h2, h3⟩ := h.heap p hp
    exact ⟨h1, fun hx => hx.elim h2 (fun g => (hG _ g).2.2 p hp rfl), h3.mono rfl (fun _ _ => rfl) (fun _ _ x => x) (fun _ x => .inl x)⟩
  keys := h.keys
  defers := h.defers

/-- A new block of the call's own. -/
theorem SimF.newObj (h : SimF E base F st a w) {ob : Obj} {o : DO} (ho : ObjRep (w.alloc ob) F w.heap.size o) :
    SimF E base F { st with heap := (w.heap.size, o) :: st.heap } a (w.alloc ob) := by
  have k := SimF.world h (Step.alloc _ w ob)
  have hnew : ∀ p ∈ st.heap, p.1 < w.heap.size := fun p hp => (h.heap p hp).2.2.lt
  exact {
    keep := k.keep, base_lt := k.base_lt, sub := k.sub, lt := k.lt, env := k.env, size := k.size, slots := k.slots
    heap := fun p hp => by
      rcases List.mem_cons.1 hp with rfl | hp
      · exact ⟨.inr h.keep.size, fun hF => Nat.lt_irrefl _ (h.lt _ hF).1, ho⟩
      · exact k.heap p hp
    keys := by
      simp only [List.map_cons, List.nodup_cons]
      refine ⟨fun hm => ?_, h.keys⟩
      obtain ⟨p, hp, e⟩ := List.mem_map.1 hm
      exact Nat.lt_irrefl _ (e ▸ hnew p hp)
    defers := h.defers }

theorem nodup_getElem? {α : Type} {l : List α} (h : l.Nodup) {i j : Nat} {x : α} (hi : l[i]? = some x) (hj : l[j]? = some x) : i = j :=
  (List.getElem?_inj (List.getElem?_eq_some_iff.1 hi).1 h).1 (hi.trans hj.symm)

theorem mem_set {α : Type} {l : List α} {i : Nat} {x p : α} (h : p ∈ l.set i x) : p = x ∨ ∃ j, j ≠ i ∧ l[j]? = some p := by
  obtain ⟨j, hj⟩ := List.mem_iff_getElem?.1 h
  rw [List.getElem?_set] at hj
  split at hj
  · rename_i hij
    split at hj
    · exact .inl (Option.some.inj hj).symm
    · cases hj
  · rename_i hij
    exact .inr ⟨j, fun e => hij e.symm, hj⟩

/-- One own block is written. -/
theorem SimF.write (h : SimF E base F st a w) {i b : Nat} {o o' : DO} (hi : st.heap[i]? = some (b, o)) {w' : World} (k : Step (· = b) w w')
    (ho : ObjRep w' F b o') : SimF E base F { st with heap := st.heap.set i (b, o') } a w' := by
  have hmem := List.mem_of_getElem? hi
  obtain ⟨hb1, hb2, hb3⟩ := h.heap _ hmem
  have hF : ∀ c, F c → w'.heap[c]? = w.heap[c]? := fun c hc => k.block c (h.lt c hc).1 (fun e => hb2 (e ▸ hc))
  exact {
    keep := h.keep.then k (fun c hc e => by
      subst e
      rcases hb1 with h1 | h1
      · exact h1
      · exact absurd hc (Nat.not_lt.2 h1))
    base_lt := h.base_lt
    sub := h.sub
    lt := fun c hc => ⟨Nat.lt_of_lt_of_le (h.lt c hc).1 k.size, (h.lt c hc).2⟩
    env := E.mono hF (fun _ x => x) h.env
    size := h.size
    slots := fun t d ht => ⟨(h.slots t d ht).1, (h.slots t d ht).2.mono hF k.shape (fun _ x => x)⟩
    heap := fun p hp => by
      rcases mem_set hp with rfl | ⟨j, hj, hp⟩
      · exact ⟨hb1, hb2, ho⟩
      · obtain ⟨h1, h2, h3⟩ := h.heap p (List.mem_of_getElem? hp)
        refine ⟨h1, h2, h3.mono (k.block _ h3.lt (fun e => ?_)) hF k.shape (fun _ x => x)⟩
        have e1 : (st.heap.map (·.1))[j]? = some p.1 := by simp [hp]
        have e2 : (st.heap.map (·.1))[i]? = some p.1 := by simp [hi, e]
        exact hj (nodup_getElem? h.keys e1 e2)
    keys := by
      have : (st.heap.set i (b, o')).map (·.1) = st.heap.map (·.1) := by
        rw [List.map_set]
        apply List.ext_getElem?
        intro j
        rw [List.getElem?_set]
        split
        · rename_i e; subst e; simp [hi]; exact ((List.getElem?_eq_some_iff.1 hi).1)
        · rfl
      rw [this]
      exact h.keys
    defers := h.defers }

/-- Less may be known: a state that knows no more. -/
structure St.Le (st' st : St) : Prop where
  n : st'.n = st.n
  slots : ∀ t d, st'.get t = some d → st.get t = some d ∨ d = .any ∧ ∃ e, st.get t = some e
  heap : ∃ l, st'.heap.Perm l ∧ l.Sublist st.heap

theorem SimF.weaken (h : SimF E base F st a w) {st' : St} (hl : st'.Le st) : SimF E base F st' a w where
  keep := h.keep
  base_lt := h.base_lt
  sub := h.sub
  lt := h.lt
  env := h.env
  size := h.size.trans hl.n.symm
  slots := fun t d ht => by
    rw [hl.n]
    rcases hl.slots t d ht with h1 | ⟨rfl, e, h1⟩
    · exact h.slots t d h1
    · exact ⟨(h.slots t e h1).1, .any _⟩
  heap := fun p hp => by
    obtain ⟨l, h1, h2⟩ := hl.heap
    exact h.heap p (h2.subset (h1.mem_iff.1 hp))
  keys := by
    obtain ⟨l, h1, h2⟩ := hl.heap
    exact (List.Perm.nodup_iff (h1.map _)).2 (h.keys.sublist (h2.map _))
  defers := h.defers

/-- An own block that is written no more is let go into what never turns. -/
theorem SimF.letGo (h : SimF E base F st a w) {i b : Nat} {o : DO} (hi : st.heap[i]? = some (b, o)) (hb : base.w.heap.size ≤ b) :
    SimF E base (fun c => F c ∨ c = b) { st with heap := st.heap.eraseIdx i } a w := by
  have hmem := List.mem_of_getElem? hi
  have h' : SimF E base F { st with heap := st.heap.eraseIdx i } a w := h.weaken ⟨rfl, fun t d ht => .inl ht, _, .refl _, List.eraseIdx_sublist ..⟩
  refine h'.grow (fun c hc => ?_)
  subst hc
  refine ⟨(h.heap _ hmem).2.2.lt, hb, fun p hp e => ?_⟩
  obtain ⟨j, hj, hp'⟩ : ∃ j, j ≠ i ∧ st.heap[j]? = some p := by
    obtain ⟨j, hj⟩ := List.mem_iff_getElem?.1 hp
    rw [List.getElem?_eraseIdx] at hj
    split at hj
    · exact ⟨j, by omega, hj⟩
    · exact ⟨j + 1, by omega, hj⟩
  have e1 : (st.heap.map (·.1))[j]? = some p.1 := by simp [hp']
  have e2 : (st.heap.map (·.1))[i]? = some p.1 := by simp [hi, e]
  exact hj (nodup_getElem? h.keys e1 e2)

end Go.GH
