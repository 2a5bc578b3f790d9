/-
  Rules for maps, bits, strings and calls of function values, over abstract states. Proved here: each rule, from the model's own steps. No conditions.
-/
import Derived.Test.YtjcihlpjlpackaaDoorGj
import Derived.Laws.Cover4
import Derived.Laws.BytesString
set_option linter.unusedVariables false
set_option linter.unusedSimpArgs false
namespace Go.GH
open Go Go.RowKit

/-! #### bits, shifts, division -/
def bitI : BinOp → IntKind → Int → Int → Option Int
  | .and, k, x, y => some (k.wrap (BitVec.ofInt k.bits x &&& BitVec.ofInt k.bits y).toNat)
  | .or, k, x, y => some (k.wrap (BitVec.ofInt k.bits x ||| BitVec.ofInt k.bits y).toNat)
  | .xor, k, x, y => some (k.wrap (BitVec.ofInt k.bits x ^^^ BitVec.ofInt k.bits y).toNat)
  | .andNot, k, x, y => some (k.wrap (BitVec.ofInt k.bits x &&& ~~~(BitVec.ofInt k.bits y)).toNat)
  | _, _, _, _ => none

/-! #### maps -/
def isKey : TypeDesc → Value → Bool
  | .bool, .bool _ => true
  | .int k, .int k' _ => k' == k
  | .string, .string _ => true
  | _, _ => false
theorem isKey_spec {d : TypeDesc} {v : Value} (h : isKey d v = true) : MapKept.IsKey d v := by
  cases d <;> cases v <;> simp_all [isKey, MapKept.IsKey]
def sameKey : Value → Value → Bool
  | .bool a, .bool b => a == b
  | .int k a, .int k' b => k == k' && a == b
  | .string a, .string b => decide (a = b)
  | _, _ => false
theorem sameKey_iff {d : TypeDesc} {x y : Value} (hx : isKey d x = true) (hy : isKey d y = true) : sameKey x y = true ↔ x = y := by
  cases d <;> cases x <;> cases y <;> simp_all [isKey, sameKey]
def lookupL : List (Value × DV) → Value → Option DV
  | [], _ => none
  | p :: es, k => if sameKey k p.1 then some p.2 else lookupL es k
def updL : List (Value × DV) → Value → DV → List (Value × DV)
  | [], k, d => [(k, d)]
  | p :: es, k, d => if sameKey k p.1 then (k, d) :: es else p :: updL es k d
/-- Where a key lies. -/
theorem lookupL_spec {d : TypeDesc} {k : Value} (hk : isKey d k = true) : ∀ (es : List (Value × DV)), (∀ p ∈ es, isKey d p.1 = true) →
    (lookupL es k = none ∧ (∀ p ∈ es, p.1 ≠ k) ∧ ∀ v, updL es k v = es ++ [(k, v)]) ∨
    ∃ j x, es[j]? = some (k, x) ∧ lookupL es k = some x ∧ (∀ i p, i < j → es[i]? = some p → p.1 ≠ k) ∧ ∀ v, updL es k v = es.set j (k, v)
  | [], _ => .inl ⟨rfl, by simp, fun _ => rfl⟩
  | p :: es, h => by
    by_cases e : sameKey k p.1 = true
    · have := (sameKey_iff hk (h p (List.mem_cons_self ..))).1 e
      refine .inr ⟨0, p.2, by simp [this], by simp [lookupL, e], fun i p hi => absurd hi (Nat.not_lt_zero _), fun v => by simp [updL, e]⟩
    · have hne : p.1 ≠ k := fun q => e ((sameKey_iff hk (h p (List.mem_cons_self ..))).2 q.symm)
      rcases lookupL_spec hk es (fun q hq => h q (List.mem_cons_of_mem _ hq)) with ⟨h1, h2, h3⟩ | ⟨j, x, h1, h2, h3, h4⟩
      · exact .inl ⟨by simp [lookupL, e, h1], fun q hq => by
          rcases List.mem_cons.1 hq with rfl | hq
          · exact hne
          · exact h2 q hq, fun v => by simp [updL, e, h3]⟩
      · exact .inr ⟨j + 1, x, by simpa using h1, by simp [lookupL, e, h2], fun i q hi hq => by
          cases i with
          | zero => simp at hq; subst hq; exact hne
          | succ i => exact h3 i q (by omega) (by simpa using hq), fun v => by simp [updL, e, h4]⟩

def mapB (P : Program) (T K E : Nat) (d : TypeDesc) : Prop := P.underlying T = some (.map K E) ∧ P.underlying K = some d

theorem findNow_at {d : TypeDesc} {k : Value} (hk : MapKept.IsKey d k) {ents : Array MapEntry} (hks : ∀ x ∈ ents.toList, MapKept.IsKey d x.key) :
    (Instr.findNow d k ents.toList 0 = some none ∧ ∀ x ∈ ents.toList, x.key ≠ k) ∨ ∃ j e, Instr.findNow d k ents.toList 0 = some (some (j, e.val)) ∧ ents[j]? = some e ∧ e.key = k ∧ ∀ i e', i < j → ents[i]? = some e' → e'.key ≠ k := by
  have key : ∀ (l : List MapEntry) (i : Nat), (∀ x ∈ l, MapKept.IsKey d x.key) → (Instr.findNow d k l i = some none ∧ ∀ x ∈ l, x.key ≠ k) ∨ ∃ j e, Instr.findNow d k l i = some (some (i + j, e.val)) ∧ l[j]? = some e ∧ e.key = k ∧ ∀ i e', i < j → l[i]? = some e' → e'.key ≠ k := by
    intro l
    induction l with
    | nil => intro i _; exact .inl ⟨rfl, by simp⟩
    | cons e es ih =>
      intro i h
      obtain ⟨r, hr, hiff⟩ := MapKept.sameNow_of_keys hk (h e (.head _))
      cases r with
      | true => exact .inr ⟨0, e, by simp [Instr.findNow, hr], rfl, (hiff.1 rfl).symm, fun i _ hi => absurd hi (Nat.not_lt_zero _)⟩
      | false =>
        have hne : e.key ≠ k := fun q => by have := hiff.2 q.symm; cases this
        rcases ih (i + 1) (fun x hx => h x (.tail _ hx)) with ⟨h1, h2⟩ | ⟨j, e', h1, h2, h3, h4⟩
        · exact .inl ⟨by simp [Instr.findNow, hr, h1], fun x hx => by
            cases hx with
            | head => exact hne
            | tail _ hx => exact h2 x hx⟩
        · exact .inr ⟨j + 1, e', by simp [Instr.findNow, hr, h1]; omega, by simpa using h2, h3, fun i q hi hq => by
            cases i with
            | zero => simp at hq; subst hq; exact hne
            | succ i => exact h4 i q (by omega) (by simpa using hq)⟩
  rcases key ents.toList 0 hks with h | ⟨j, e, h1, h2, h3, h4⟩
  · exact .inl h
  · exact .inr ⟨j, e, by simpa using h1, by simpa using h2, h3, fun i e' hi he => h4 i e' hi (by simpa using he)⟩

/-- A map's entries read as es. -/
def EntsRep (w : World) (F : Nat → Prop) (ents : Array MapEntry) (es : List (Value × DV)) : Prop :=
  ents.size = es.length ∧ ∀ (i : Nat) p, es[i]? = some p → ∃ e, ents[i]? = some e ∧ e.key = p.1 ∧ Rep w F e.val p.2
theorem EntsRep.keys {w : World} {F : Nat → Prop} {ents : Array MapEntry} {es : List (Value × DV)} (h : EntsRep w F ents es) {d : TypeDesc} (hk : ∀ p ∈ es, isKey d p.1 = true) : ∀ x ∈ ents.toList, MapKept.IsKey d x.key := fun x hx => by
  obtain ⟨i, hi⟩ := List.mem_iff_getElem?.1 hx
  have hlt : i < es.length := by rw [← h.1]; simpa using (List.getElem?_eq_some_iff.1 hi).1
  obtain ⟨e, he, hke, _⟩ := h.2 i _ (List.getElem?_eq_getElem hlt)
  have : e = x := by rw [Array.getElem?_toList, he] at hi; exact Option.some.inj hi
  rw [← this, hke]
  exact isKey_spec (hk _ (List.getElem_mem hlt))
/-- The run of a search, told of es. -/
theorem EntsRep.find {P : Program} {w : World} {F : Nat → Prop} {ents : Array MapEntry} {es : List (Value × DV)} (h : EntsRep w F ents es) {d : TypeDesc} {K : Nat} {k : Value} (hd : P.underlying K = some d) (hk : isKey d k = true) (hks : ∀ p ∈ es, isKey d p.1 = true) :
    (lookupL es k = none ∧ (Instr.findKey K k ents.toList).run P w = .ok none w ∧ ∀ v, updL es k v = es ++ [(k, v)]) ∨
    ∃ j x e, (Instr.findKey K k ents.toList).run P w = .ok (some (j, e.val)) w ∧ ents[j]? = some e ∧ e.key = k ∧ es[j]? = some (k, x) ∧ lookupL es k = some x ∧ Rep w F e.val x ∧ ∀ v, updL es k v = es.set j (k, v) := by
  have hk' := isKey_spec hk
  have hents := h.keys hks
  rcases findNow_at hk' hents with ⟨h1, h2⟩ | ⟨j, e, h1, h2, h3, h4⟩
  · rcases lookupL_spec hk es hks with ⟨k1, k2, k3⟩ | ⟨j, x, k1, _⟩
    · exact .inl ⟨k1, MapKept.run_findKey hd h1, k3⟩
    · obtain ⟨e, he, hke, _⟩ := h.2 j _ k1
      exact absurd hke (h2 e (by rw [Array.mem_toList_iff, Array.mem_iff_getElem?]; exact ⟨j, he⟩))
  · rcases lookupL_spec hk es hks with ⟨k1, k2, k3⟩ | ⟨i, x, k1, k2, k3, k5⟩
    · have hlt : j < es.length := by rw [← h.1]; exact (Array.getElem?_eq_some_iff.1 h2).1
      obtain ⟨e', he', hke, _⟩ := h.2 j _ (List.getElem?_eq_getElem hlt)
      rw [h2] at he'
      obtain rfl := Option.some.inj he'
      exact absurd (hke.symm.trans h3) (k2 _ (List.getElem_mem hlt))
    · have hij : i = j := by
        rcases Nat.lt_trichotomy i j with hlt | heq | hlt
        · obtain ⟨e', he', hke, _⟩ := h.2 i _ k1
          exact absurd hke (h4 i e' hlt he')
        · exact heq
        · have hlt2 : j < es.length := by rw [← h.1]; exact (Array.getElem?_eq_some_iff.1 h2).1
          obtain ⟨e', he', hke, _⟩ := h.2 j _ (List.getElem?_eq_getElem hlt2)
          rw [h2] at he'
          obtain rfl := Option.some.inj he'
          exact absurd (hke.symm.trans h3) (k3 j _ hlt (List.getElem?_eq_getElem hlt2))
      subst hij
      obtain ⟨e', he', hke, hr⟩ := h.2 i _ k1
      rw [h2] at he'
      obtain rfl := Option.some.inj he'
      exact .inr ⟨i, x, e, MapKept.run_findKey hd h1, h2, h3, k1, k2, hr, k5⟩

def lookRes (c : Bool) (o : Option DV) (z : Value) : DV := match c with
  | true => .tup [o.getD (.v z), .v (.bool o.isSome)]
  | false => o.getD (.v z)

section
variable {C : Ctx} {E : Env} {base : Base} {F : Nat → Prop} {st : St} {a : Act} {w : World} {ops : Array Oper} {rest : List Oper} {R : St → Prop}
  {t : Tmp} {ty : TypeId} {pos : String} {aft : Array Edge} {g : Option (Nat × Bool)}

theorem run_lookup {P : Program} {w : World} {F : Nat → Prop} {T K V : Nat} {d : TypeDesc} (hT : mapB P T K V d) {r : Nat} {ents : Array MapEntry} {clock : Nat} {es : List (Value × DV)} (hb : w.heap[r]? = some (.map ents clock)) (h : EntsRep w F ents es) {k z : Value} (hk : isKey d k = true) (hks : ∀ p ∈ es, isKey d p.1 = true) (hz : zeroIs P V z) (hsz : scal z) (c : Bool) :
    ∃ v, (Instr.lookup T (.map (some r)) k c).run P w = .ok v w ∧ Rep w F v (lookRes c (lookupL es k) z) := by
  rcases h.find (P := P) hT.2 hk hks with ⟨h1, h2, _⟩ | ⟨j, x, e, h2, h3, h4, h5, h6, h7, _⟩
  · refine ⟨if c then .tuple #[z, .bool false] else z, ?_, ?_⟩
    · simp only [Instr.lookup, Sem.run_bind, run_underlying hT.1, Result.andThen_ok, MapKept.run_getObj_map hb, Sem.run_pure, MapKept.run_checkKey hT.2 (isKey_spec hk), h2, run_zeroValue hz, pure_bind]
    · rw [h1]
      cases c with
      | true => exact .tup rfl (fun j x d hj hd => by
          match j, hj, hd with
          | 0, hj, hd => simp at hj hd; subst hj; subst hd; exact .v hsz
          | 1, hj, hd => simp at hj hd; subst hj; subst hd; exact .v trivial
          | j + 2, hj, hd => simp at hd)
      | false => exact .v hsz
  · refine ⟨if c then .tuple #[e.val, .bool true] else e.val, ?_, ?_⟩
    · simp only [Instr.lookup, Sem.run_bind, run_underlying hT.1, Result.andThen_ok, MapKept.run_getObj_map hb, Sem.run_pure, MapKept.run_checkKey hT.2 (isKey_spec hk), h2, pure_bind]
    · rw [h6]
      cases c with
      | true => exact .tup rfl (fun j x d hj hd => by
          match j, hj, hd with
          | 0, hj, hd => simp at hj hd; subst hj; subst hd; exact h7
          | 1, hj, hd => simp at hj hd; subst hj; subst hd; exact .v trivial
          | j + 2, hj, hd => simp at hd)
      | false => exact h7

theorem SOps.lookupI {T K V : Nat} {d : TypeDesc} {xo ko : Operand} {es : List (Value × DV)} {k z : Value} {c : Bool} (hx : st.val xo = some (.imap es)) (hk : st.val ko = some (.v k)) (hT : mapB C.P T K V d) (hkk : isKey d k = true) (hks : ∀ p ∈ es, isKey d p.1 = true) (hz : zeroIs C.P V z) (hsz : scalB z = true)
    (hrest : SOps C ops rest (st.put t (lookRes c (lookupL es k) z)) R)
    (hg : st.wants ops g = some true := by rfl) (ht : Nat.blt t st.n = true := by rfl) : SOps C ops (⟨some t, .lookup T xo ko c, ty, pos, aft, g⟩ :: rest) st R :=
  SOps.val rfl hg ht (fun base a w F hs => by
    have h1 := hs.val hx
    have h2 := (hs.val hk).inv_v.1
    generalize hv : a.eval xo = v at h1
    cases h1 with
    | @imap r ents clock es xs hF hh hl hkx hr =>
      have hE : EntsRep w F ents es := ⟨hl, fun i p hp => by
        have := hkx i p hp
        cases he : ents[i]? with
        | none => rw [he] at this; cases this
        | some e =>
          rw [he] at this
          simp at this
          exact ⟨e, rfl, this.1, by rw [this.2]; exact hr i p hp⟩⟩
      obtain ⟨v, h3, h4⟩ := run_lookup (P := C.P) hT hh hE hkk hks hz (scal_of hsz) c
      exact ⟨v, by simp [execOp, hv, h2, h3], h4⟩) hrest
theorem SOps.lookupO (i : Nat) {T K V b : Nat} {d : TypeDesc} {xo ko : Operand} {es : List (Value × DV)} {k z : Value} {c : Bool} (hx : st.val xo = some (.mp b)) (hi : st.heap[i]? = some (b, .map es)) (hk : st.val ko = some (.v k)) (hT : mapB C.P T K V d) (hkk : isKey d k = true) (hks : ∀ p ∈ es, isKey d p.1 = true) (hz : zeroIs C.P V z) (hsz : scalB z = true)
    (hrest : SOps C ops rest (st.put t (lookRes c (lookupL es k) z)) R)
    (hg : st.wants ops g = some true := by rfl) (ht : Nat.blt t st.n = true := by rfl) : SOps C ops (⟨some t, .lookup T xo ko c, ty, pos, aft, g⟩ :: rest) st R :=
  SOps.val rfl hg ht (fun base a w F hs => by
    have h1 := hs.val hx
    have h2 := (hs.val hk).inv_v.1
    generalize hv : a.eval xo = v at h1
    cases h1 with
    | mp =>
      obtain ⟨ents, clock, hb, hE⟩ := (hs.heap _ (List.mem_of_getElem? hi)).2.2
      obtain ⟨v, h3, h4⟩ := run_lookup (P := C.P) hT hb hE hkk hks hz (scal_of hsz) c
      exact ⟨v, by simp [execOp, hv, h2, h3], h4⟩) hrest
theorem SOps.makeMap0 {T : Nat} (hrest : ∀ b, st.fresh b → SOps C ops rest ⟨st.n, (t, .mp b) :: st.slots, (b, .map []) :: st.heap⟩ R)
    (hg : st.wants ops g = some true := by rfl) (ht : Nat.blt t st.n = true := by rfl) : SOps C ops (⟨some t, .makeMap T none, ty, pos, aft, g⟩ :: rest) st R :=
  SOps.new (d := fun b => .mp b) (ob := fun _ => .map []) rfl hg ht (fun base a w F hs =>
    ⟨w, .map (some w.heap.size), .map #[] 0, Step.refl _ _, rfl, by simp [execOp, Instr.makeMap], .mp _, _, _, heap_new' w _, rfl, fun i p h => by simp at h⟩) hrest
theorem SOps.makeMapN {T K V : Nat} {d : TypeDesc} {xo : Operand} {k : IntKind} {n : Int} (hT : mapB C.P T K V d) (hx : st.val xo = some (.v (.int k n))) (hrest : ∀ b, st.fresh b → SOps C ops rest ⟨st.n, (t, .mp b) :: st.slots, (b, .map []) :: st.heap⟩ R)
    (hg : st.wants ops g = some true := by rfl) (ht : Nat.blt t st.n = true := by rfl) : SOps C ops (⟨some t, .makeMap T (some xo), ty, pos, aft, g⟩ :: rest) st R :=
  SOps.new (d := fun b => .mp b) (ob := fun _ => .map []) rfl hg ht (fun base a w F hs =>
    ⟨w, .map (some w.heap.size), .map #[] 0, Step.refl _ _, rfl, by simp [execOp, Instr.makeMap, (hs.val hx).inv_v.1, run_underlying hT.1, asInt, asIntOf], .mp _, _, _, heap_new' w _, rfl, fun i p h => by simp at h⟩) hrest
theorem SOps.mapUpdate (i : Nat) {T K V b : Nat} {d : TypeDesc} {xo ko yo : Operand} {es : List (Value × DV)} {k : Value} {v : DV} (hx : st.val xo = some (.mp b)) (hi : st.heap[i]? = some (b, .map es)) (hk : st.val ko = some (.v k)) (hy : st.val yo = some v) (hT : mapB C.P T K V d) (hkk : isKey d k = true) (hks : ∀ p ∈ es, isKey d p.1 = true)
    (hrest : SOps C ops rest ⟨st.n, st.slots, st.heap.set i (b, .map (updL es k v))⟩ R)
    (hg : st.wants ops g = some true := by rfl) : SOps C ops (⟨none, .mapUpdate T xo ko yo, ty, pos, aft, g⟩ :: rest) st R := by
  refine SOps.op (R1 := (· = ⟨st.n, st.slots, st.heap.set i (b, .map (updL es k v))⟩)) hg ?_ (fun st' e => e ▸ hrest)
  intro base ok a w F hs K' Q hK
  have h1 := hs.val hx
  have h2 := (hs.val hk).inv_v.1
  have h3 := hs.val hy
  generalize hv : a.eval xo = x at h1
  cases h1 with
  | mp =>
    obtain ⟨kk1, hbF, ents, clock, hb, hE⟩ := hs.heap _ (List.mem_of_getElem? hi)
    have hE : EntsRep w F ents es := hE
    simp only at hb
    have main : ∃ ents' clock', (execOp a.eval ⟨none, .mapUpdate T xo ko yo, ty, pos, aft, g⟩).run C.P w = .ok .skip (World.setObj' w b (.map ents' clock')) ∧ ∀ w', (∀ u d, Rep w F u d → Rep w' F u d) → EntsRep w' F ents' (updL es k v) := by
      rw [show execOp a.eval ⟨none, .mapUpdate T xo ko yo, ty, pos, aft, g⟩ = (do Instr.mapUpdate T (a.eval xo) (a.eval ko) (a.eval yo); pure .skip) from rfl, hv, h2]
      rcases hE.find (P := C.P) hT.2 hkk hks with ⟨k1, k2, k3⟩ | ⟨j, x, e, k2, k3, k4, k5, k6, k7, k8⟩
      · refine ⟨ents.push { key := k, val := a.eval yo, born := clock }, clock + 1, ?_, fun w' hm => ?_⟩
        · simp only [Instr.mapUpdate, Sem.run_bind, run_underlying hT.1, Result.andThen_ok, MapKept.run_getObj_map hb, MapKept.run_checkKey hT.2 (isKey_spec hkk), k2, MapKept.run_setObj_map _ hb, Sem.run_pure, pure_bind]
          rfl
        · rw [k3]
          refine ⟨by simp [hE.1], fun q p hp => ?_⟩
          rw [List.getElem?_append] at hp
          split at hp
          · rename_i hlt
            obtain ⟨e, he, hke, hr⟩ := hE.2 q p hp
            exact ⟨e, by rw [Array.getElem?_push, if_neg (by rw [hE.1]; omega)]; exact he, hke, hm _ _ hr⟩
          · rename_i hlt
            match hq : q - es.length, hp with
            | 0, hp =>
              simp at hp
              subst hp
              have : q = ents.size := by rw [hE.1]; omega
              exact ⟨_, by rw [Array.getElem?_push, if_pos this], rfl, hm _ _ h3⟩
            | m + 1, hp => simp at hp
      · refine ⟨ents.modify j fun e => { e with key := k, val := a.eval yo }, clock, ?_, fun w' hm => ?_⟩
        · simp only [Instr.mapUpdate, Sem.run_bind, run_underlying hT.1, Result.andThen_ok, MapKept.run_getObj_map hb, MapKept.run_checkKey hT.2 (isKey_spec hkk), k2, k3, Option.map_some, Option.getD_some, k4, MapKept.run_keyThatStays (isKey_spec hkk), MapKept.run_setObj_map _ hb, Sem.run_pure, pure_bind]
          rfl
        · rw [k8]
          refine ⟨by simp [hE.1], fun q p hp => ?_⟩
          rw [List.getElem?_set] at hp
          rw [Array.getElem?_modify]
          split at hp
          · rename_i hjq
            subst hjq
            split at hp
            · obtain rfl := Option.some.inj hp
              exact ⟨{ e with key := k, val := a.eval yo }, by simp [k3], rfl, hm _ _ h3⟩
            · cases hp
          · rename_i hjq
            obtain ⟨e', he', hke, hr⟩ := hE.2 q p hp
            exact ⟨e', by rw [if_neg hjq]; exact he', hke, hm _ _ hr⟩
    obtain ⟨ents', clock', m1, m2⟩ := main
    have hlt := (Array.getElem?_eq_some_iff.1 hb).1
    have hst : Step (· = b) w (World.setObj' w b (.map ents' clock')) := by
      refine ⟨rfl, rfl, rfl, by simp [World.setObj'], fun c _ hc => ?_, fun c q hq => ?_⟩
      · simp only [World.setObj', Array.getElem?_setIfInBounds]; rw [if_neg (fun e => hc e.symm)]
      · unfold World.shape? at *
        by_cases e : c = b
        · subst e; rw [hb] at hq; cases hq
        · simp only [World.setObj', Array.getElem?_setIfInBounds]; rw [if_neg (fun e' => e e'.symm)]; exact hq
    unfold Oper.wp
    rw [m1, Oper.upon_skip]
    refine hK _ _ _ rfl ⟨F, hs.write hi hst ⟨ents', clock', by simp [World.setObj', hlt], m2 _ (fun u d hr => hr.mono (fun c hc => hst.block c (hs.lt c hc).1 (fun e => hbF (e ▸ hc))) hst.shape (fun _ h => h))⟩⟩
/-- The number of a map's keys. -/
theorem SOps.lenMapI {T K V : Nat} {d : TypeDesc} {xo : Operand} {es : List (Value × DV)} (hx : st.val xo = some (.imap es)) (hT : mapB C.P T K V d) (hB : es.length ≤ lenB) (hrest : SOps C ops rest (st.put t (.v (.int .i64 es.length))) R)
    (hg : st.wants ops g = some true := by rfl) (ht : Nat.blt t st.n = true := by rfl) : SOps C ops (⟨some t, .call { callee := .builtin .len, args := #[xo], argTypes := #[T] }, ty, pos, aft, g⟩ :: rest) st R :=
  SOps.val rfl hg ht (fun base a w F hs => by
    have h1 := hs.val hx
    generalize hv : a.eval xo = v at h1
    cases h1 with
    | @imap r ents clock es xs hF hh hl hkx hr =>
      refine ⟨.int .i64 es.length, ?_, .v (i64_len hB)⟩
      simp [execOp, resolve, invoke, builtin, hv, Builtin.len_, run_underlying hT.1, MapKept.run_getObj_map hh, goInt, hl]) hrest
theorem SOps.lenMapO (i : Nat) {T K V b : Nat} {d : TypeDesc} {xo : Operand} {es : List (Value × DV)} (hx : st.val xo = some (.mp b)) (hi : st.heap[i]? = some (b, .map es)) (hT : mapB C.P T K V d) (hB : es.length ≤ lenB) (hrest : SOps C ops rest (st.put t (.v (.int .i64 es.length))) R)
    (hg : st.wants ops g = some true := by rfl) (ht : Nat.blt t st.n = true := by rfl) : SOps C ops (⟨some t, .call { callee := .builtin .len, args := #[xo], argTypes := #[T] }, ty, pos, aft, g⟩ :: rest) st R :=
  SOps.val rfl hg ht (fun base a w F hs => by
    have h1 := hs.val hx
    generalize hv : a.eval xo = v at h1
    cases h1 with
    | mp =>
      obtain ⟨ents, clock, hb, hl, _⟩ := (hs.heap _ (List.mem_of_getElem? hi)).2.2
      refine ⟨.int .i64 es.length, ?_, .v (i64_len hB)⟩
      simp only at hb
      simp [execOp, resolve, invoke, builtin, hv, Builtin.len_, run_underlying hT.1, MapKept.run_getObj_map hb, goInt, hl]) hrest

/-! #### bits -/
theorem SOps.bits {op : BinOp} {T T2 : TypeId} {xo yo : Operand} {k : IntKind} {x y z : Int} (hx : st.val xo = some (.v (.int k x))) (hy : st.val yo = some (.v (.int k y))) (hz : bitI op k x y = some z)
    (hrest : SOps C ops rest (st.put t (.v (.int k z))) R)
    (hg : st.wants ops g = some true := by rfl) (ht : Nat.blt t st.n = true := by rfl) : SOps C ops (⟨some t, .binOp op T xo yo T2, ty, pos, aft, g⟩ :: rest) st R := by
  unfold bitI at hz
  split at hz <;> first
    | (obtain rfl := Option.some.inj hz
       exact SOps.binRun hx hy (z := .int _ (IntKind.wrap _ _)) (fun w => by simp [eqGuard, binOp, Op.intBits]) (has_wrap _ _) hrest hg ht)
    | cases hz
theorem SOps.quoI {T T2 : TypeId} {xo yo : Operand} {k : IntKind} {x y : Int} (hx : st.val xo = some (.v (.int k x))) (hy : st.val yo = some (.v (.int k y))) (h0 : y ≠ 0)
    (hrest : SOps C ops rest (st.put t (.v (.int k (k.wrap (x.tdiv y))))) R)
    (hg : st.wants ops g = some true := by rfl) (ht : Nat.blt t st.n = true := by rfl) : SOps C ops (⟨some t, .binOp .quo T xo yo T2, ty, pos, aft, g⟩ :: rest) st R :=
  SOps.binRun hx hy (z := .int k (k.wrap (x.tdiv y))) (fun w => by simp [eqGuard, binOp, Op.intDiv, h0]) (has_wrap _ _) hrest hg ht
theorem SOps.remI {T T2 : TypeId} {xo yo : Operand} {k : IntKind} {x y : Int} (hx : st.val xo = some (.v (.int k x))) (hy : st.val yo = some (.v (.int k y))) (h0 : y ≠ 0) (hk : k.has (x.tmod y))
    (hrest : SOps C ops rest (st.put t (.v (.int k (x.tmod y)))) R)
    (hg : st.wants ops g = some true := by rfl) (ht : Nat.blt t st.n = true := by rfl) : SOps C ops (⟨some t, .binOp .rem T xo yo T2, ty, pos, aft, g⟩ :: rest) st R :=
  SOps.binRun hx hy (z := .int k (x.tmod y)) (fun w => by simp [eqGuard, binOp, Op.intDiv, h0]) hk hrest hg ht
theorem SOps.shlI {T T2 : TypeId} {xo yo : Operand} {k k' : IntKind} {x y : Int} (hx : st.val xo = some (.v (.int k x))) (hy : st.val yo = some (.v (.int k' y))) (h0 : 0 ≤ y)
    (hrest : SOps C ops rest (st.put t (.v (.int k (k.wrap (x * 2 ^ min y.toNat k.bits))))) R)
    (hg : st.wants ops g = some true := by rfl) (ht : Nat.blt t st.n = true := by rfl) : SOps C ops (⟨some t, .binOp .shl T xo yo T2, ty, pos, aft, g⟩ :: rest) st R :=
  SOps.binRun hx hy (z := .int k (k.wrap (x * 2 ^ min y.toNat k.bits))) (fun w => by simp [eqGuard, binOp, Op.shift, show ¬ y < 0 from by omega]) (has_wrap _ _) hrest hg ht
theorem SOps.shrI {T T2 : TypeId} {xo yo : Operand} {k k' : IntKind} {x y : Int} (hx : st.val xo = some (.v (.int k x))) (hy : st.val yo = some (.v (.int k' y))) (h0 : 0 ≤ y) (hk : k.has (x.fdiv (2 ^ min y.toNat k.bits)))
    (hrest : SOps C ops rest (st.put t (.v (.int k (x.fdiv (2 ^ min y.toNat k.bits))))) R)
    (hg : st.wants ops g = some true := by rfl) (ht : Nat.blt t st.n = true := by rfl) : SOps C ops (⟨some t, .binOp .shr T xo yo T2, ty, pos, aft, g⟩ :: rest) st R :=
  SOps.binRun hx hy (z := .int k (x.fdiv (2 ^ min y.toNat k.bits))) (fun w => by simp [eqGuard, binOp, Op.shift, show ¬ y < 0 from by omega]) hk hrest hg ht

/-! #### strings -/
theorem SOps.concat {T T2 : TypeId} {xo yo : Operand} {x y : ByteArray} (hx : st.val xo = some (.v (.string x))) (hy : st.val yo = some (.v (.string y))) (hB : x.size + y.size ≤ lenB)
    (hrest : SOps C ops rest (st.put t (.v (.string (x ++ y)))) R)
    (hg : st.wants ops g = some true := by rfl) (ht : Nat.blt t st.n = true := by rfl) : SOps C ops (⟨some t, .binOp .add T xo yo T2, ty, pos, aft, g⟩ :: rest) st R :=
  SOps.binRun hx hy (z := .string (x ++ y)) (fun w => by
    have h63 : (2 : Int) ^ 63 = 9223372036854775808 := by decide
    have : ¬ (((x.size + y.size : Nat) : Int) > IntKind.i64.max) := by
      simp only [IntKind.max, IntKind.signed, IntKind.bits, lenB] at *
      simp only [if_true, Nat.add_one_sub_one, h63]
      omega
    simp only [eqGuard, binOp, Op.stringOp, this, if_false, Sem.run_bind, Sem.run_pure, Result.andThen_ok]
    rfl) (by simp only [scal]; rw [ByteArray.size_append]; exact hB) hrest hg ht
theorem encs_eq (rs : List Int) : runesBytes rs = encs rs := by
  have key : ∀ (rs : List Int) (s : ByteArray), rs.foldl (fun r n => r ++ Utf8.encode n) s = s ++ encs rs := by
    intro rs
    induction rs with
    | nil => intro s; simp [encs]
    | cons r rs ih => intro s; simp only [List.foldl_cons, ih, encs, ByteArray.append_assoc]
  simpa [runesBytes] using key rs .empty
/-- The cells of a slice of memory that never turns, or of a nil slice. -/
theorem SOps.convRunesStr {src dst e : TypeId} {xo : Operand} {nn : Bool} {rs : List Int} (hx : st.val xo = some (.isl nn 1 (rs.map rcell))) (hS : sliceB C.P src e 1 = true) (hE : intB C.P e .i32 = true) (hD : strB C.P dst = true) (hB : rs.length * 4 ≤ lenB)
    (hrest : SOps C ops rest (st.put t (.v (.string (encs rs)))) R)
    (hg : st.wants ops g = some true := by rfl) (ht : Nat.blt t st.n = true := by rfl) : SOps C ops (⟨some t, .convert src dst xo, ty, pos, aft, g⟩ :: rest) st R :=
  SOps.val rfl hg ht (fun base a w F hs => by
    have h1 := hs.val hx
    generalize hv : a.eval xo = v at h1
    refine ⟨.string (encs rs), ?_, .v (by have := runesBytes_size_le rs; rw [encs_eq] at this; simp only [scal]; omega)⟩
    rw [show execOp a.eval ⟨some t, .convert src dst xo, ty, pos, aft, g⟩ = (do pure (.value (← convert src dst (a.eval xo)))) from rfl, hv]
    generalize hes : rs.map rcell = es at h1
    cases h1 with
    | @isl A len cap nn sz es b o xs hlen hcap hB' hnn hA hsz hc hr =>
      subst hes
      simp only [List.length_map] at hlen
      cases rs with
      | nil =>
        have hl0 : len = 0 := by simpa using hlen
        subst hl0
        rw [Sem.run_bind, run_convert_runes_string w src dst e _ _ _ (sliceB_spec hS).1 (intB_spec hE) (strB_spec hD)]
        cases A with
        | none => rfl
        | some ad => rw [run_runesToString w ad 0 cap [] (by simp [loadCells, loadCellsFrom])]; rfl
      | cons r rs =>
        obtain ⟨rfl, hF⟩ := hA (by simp)
        rw [Sem.run_bind, run_convert_runes_string w src dst e _ _ _ (sliceB_spec hS).1 (intB_spec hE) (strB_spec hD)]
        rw [run_runesToString w ⟨b, o, none⟩ len cap (r :: rs) ?_, encs_eq]
        · rfl
        · have hcell : ∀ j, j < len → w.cell? (Addr.add ⟨b, o, none⟩ j) = some (.int .i32 ((r :: rs).getD j 0)) := fun j hj => by
            have hlt : j < (r :: rs).length := by rw [← hlen]; exact hj
            have he : ((r :: rs).map rcell)[j]? = some (rcell (r :: rs)[j]) := by rw [List.getElem?_map, List.getElem?_eq_getElem hlt]; rfl
            have h3 := (hc j _ 0 _ he rfl).1
            have h4 := (hr j _ 0 _ he rfl).inv_v.1
            rw [add_plain', List.getD_eq_getElem?_getD, List.getElem?_eq_getElem hlt]
            simp only [Nat.mul_one, Nat.add_zero] at h3
            rw [h3, h4]; rfl
          rw [run_loadCells w ⟨b, o, none⟩ len _ hcell]
          congr 1
          rw [range_map_take (Value.int .i32) (r :: rs) len (by omega), List.take_of_length_le (by omega)]) hrest

/-! #### calls of function values -/
theorem SOps.callFn {f : FuncId} {cap : List DV} {xo : Operand} {xs : Array Operand} {ats : Array TypeId} {ds : List DV} {Rr : DV → DHeap → Prop} (hx : st.val xo = some (.fn f cap)) (hf : GCall C.P C.E f (ds ++ cap) [] Rr) (hxs : st.vals xs.toList = some ds)
    (hrest : ∀ d H', Rr d H' → SOps C ops rest ⟨st.n, (t, d) :: st.slots, H' ++ st.heap⟩ R)
    (hg : st.wants ops g = some true := by rfl) (ht : Nat.blt t st.n = true := by rfl) :
    SOps C ops (⟨some t, .call { callee := .value xo, args := xs, argTypes := ats }, ty, pos, aft, g⟩ :: rest) st R := by
  refine SOps.op (R1 := fun st' => ∃ d H', Rr d H' ∧ st' = ⟨st.n, (t, d) :: st.slots, H' ++ st.heap⟩) hg ?_ (fun st' ⟨d, H', h1, h2⟩ => h2 ▸ hrest d H' h1)
  intro base ok a w F hs K Q hK
  have h1 := hs.val hx
  generalize hv : a.eval xo = v at h1
  obtain ⟨k1, k2⟩ := hs.vals xs.toList ds hxs
  cases h1 with
  | @fn f us ds' hl hr =>
    refine upon_call (H := []) (G := st.heap) (vs := xs.map a.eval ++ us) hf rfl ht rfl hs (by simp [← k1, hl]) (fun j x d hj hd => ?_) (fun d H' a' w' hR hsim => hK _ _ _ ⟨d, H', hR, rfl⟩ hsim) ?_
    · rw [Array.getElem?_append] at hj
      split at hj
      · rename_i hlt
        rw [eval_args] at hj
        obtain ⟨y, hy, rfl⟩ := Option.map_eq_some_iff.1 hj
        rw [List.getElem?_append_left (by rw [← k1]; simpa using hlt)] at hd
        exact k2 j y d hy hd
      · rename_i hlt
        rw [List.getElem?_append_right (by rw [← k1]; simpa using hlt)] at hd
        have e1 : (xs.map a.eval).size = ds.length := by rw [← k1]; simp
        rw [e1] at hj
        exact hr _ x d hj hd
    · simp [execOp, resolve, hv, Deferred.ofValue, invoke, run_callFunc hf.1]
end
end Go.GH
