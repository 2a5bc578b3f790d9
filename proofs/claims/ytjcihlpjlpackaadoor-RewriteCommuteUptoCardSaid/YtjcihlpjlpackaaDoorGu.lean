/-
  Own slices that may be empty, handed to calls and back. No conditions.
-/
import Derived.Test.YtjcihlpjlpackaaDoorGt
import Derived.Scope
set_option linter.unusedVariables false
set_option linter.unusedSimpArgs false
namespace Go.GH
open Go Go.RowKit
section
variable {α : Type} {C : Ctx} {E : Env} {base : Base} {F : Nat → Prop} {st : St} {a : Act} {w : World} {ops : Array Oper} {rest : List Oper} {R : St → Prop}
  {t : Tmp} {ty : TypeId} {pos : String} {aft : Array Edge} {g : Option (Nat × Bool)}
/-- A call that is handed own blocks, wherever they stand. -/
theorem SOps.callH {f : FuncId} {xs : Array Operand} {ats : Array TypeId} {ds : List DV} (H1 H H2 : DHeap) {Rr : DV → DHeap → Prop} (hf : GCall C.P C.E f ds H Rr) (hxs : st.vals xs.toList = some ds)
    (hH : st.heap = H1 ++ (H ++ H2)) (hrest : ∀ d H', Rr d H' → SOps C ops rest ⟨st.n, (t, d) :: st.slots, H1 ++ (H' ++ H2)⟩ R)
    (hg : st.wants ops g = some true := by rfl) (ht : Nat.blt t st.n = true := by rfl) :
    SOps C ops (⟨some t, .call { callee := .value (.func f), args := xs, argTypes := ats }, ty, pos, aft, g⟩ :: rest) st R := by
  have hv : ∀ (l : List Operand) (ds : List DV), st.vals l = some ds → (⟨st.n, st.slots, (H1 ++ H2) ++ H⟩ : St).vals l = some ds := fun l => by
    induction l with
    | nil => exact fun ds h => h
    | cons x l ih =>
      intro ds h
      simp only [St.vals] at h ⊢
      split at h
      · rename_i d ds' h1 h2
        have e1 : (⟨st.n, st.slots, (H1 ++ H2) ++ H⟩ : St).val x = some d := by cases x <;> exact h1
        rw [e1, ih ds' h2]; exact h
      · cases h
  have hgw : ∀ g, st.wants ops g = some true → (⟨st.n, st.slots, (H1 ++ H2) ++ H⟩ : St).wants ops g = some true := fun g h => h
  have hperm : ∀ H : DHeap, (H1 ++ (H ++ H2)).Perm ((H1 ++ H2) ++ H) := fun H => by
    rw [List.append_assoc]
    exact List.Perm.append_left _ List.perm_append_comm
  refine SOps.weaken (st' := ⟨st.n, st.slots, (H1 ++ H2) ++ H⟩) ⟨rfl, fun t d h => .inl h, H1 ++ (H ++ H2), (hperm H).symm, by rw [hH]; exact List.Sublist.refl _⟩ ?_
  refine SOps.callR (st := ⟨st.n, st.slots, (H1 ++ H2) ++ H⟩) H (H1 ++ H2) hf (hv _ _ hxs) rfl (fun d H' h => ?_) (hgw _ hg) ht
  exact SOps.weaken (st' := ⟨st.n, (t, d) :: st.slots, H1 ++ (H' ++ H2)⟩) ⟨rfl, fun t d h => .inl h, (H1 ++ H2) ++ H', hperm H', List.Sublist.refl _⟩ (hrest d H' h)
def accI (sz b : Nat) : List (List DV) → DV
  | [] => .isl false sz []
  | e :: es => .sl b sz 0 (es.length + 1)
theorem accI_len {sz b : Nat} : ∀ {es es' : List (List DV)}, es.length = es'.length → accI sz b es = accI sz b es'
  | [], [], _ => rfl
  | [], _ :: _, h => by simp at h
  | _ :: _, [], h => by simp at h
  | _ :: es, _ :: es', h => by simp only [List.length_cons] at h; simp only [accI, h]
theorem nil_isl {w : World} {F : Nat → Prop} {v : Value} {sz : Nat} (hv : Rep w F v (.v (.slice none 0 0))) : Rep w F v (.isl false sz []) := by
  rw [hv.inv_v.1]
  exact .isl (b := 0) (o := 0) (fun _ _ => undef) rfl (by omega) (by simp [lenB]) (fun h => by cases h) (fun h => absurd rfl h) (fun i e h => by simp at h) (fun i e j d h => by simp at h) (fun i e j d h => by simp at h)
theorem sl_isl {w : World} {F : Nat → Prop} {v : Value} {b sz : Nat} (hv : Rep w F v (.sl b sz 0 0)) : Rep w F v (.isl false sz []) := by
  cases hv with
  | sl h1 h2 h3 h4 => exact .isl (b := 0) (o := 0) (fun _ _ => undef) rfl (by omega) (by simp [lenB]) (fun h => by cases h) (fun h => absurd rfl h) (fun i e h => by simp at h) (fun i e j d h => by simp at h) (fun i e j d h => by simp at h)
theorem SOps.accDI {l : List Oper} {sz b : Nat} {es : List (List DV)} (hd : st.get t = some (accD sz b es)) (h : SOps C ops l ⟨st.n, (t, accI sz b es) :: st.slots, st.heap⟩ R) : SOps C ops l st R := by
  intro base ok a w ⟨F, hs⟩
  refine h base ok a w ⟨F, SimF.relabel hs hd (fun hv => ?_)⟩
  cases es with
  | nil => exact nil_isl hv
  | cons x es => exact hv
/-- An own row, as a slice that may be empty. -/
theorem SOps.slI {l : List Oper} (H1 H2 : DHeap) {b elem sz len : Nat} {es : List (List DV)} (hd : st.get t = some (.sl b sz 0 len)) (hl : len = es.length) (hh : st.heap = H1 ++ ((b, .row elem sz es) :: H2))
    (h : SOps C ops l ⟨st.n, (t, accI sz b es) :: st.slots, H1 ++ (accH elem sz b es ++ H2)⟩ R) : SOps C ops l st R := by
  subst hl
  intro base ok a w ⟨F, hs⟩
  cases es with
  | nil =>
    have hs2 : SimF C.E base F ⟨st.n, st.slots, H1 ++ H2⟩ a w := hs.weaken ⟨rfl, fun u e hu => .inl hu, H1 ++ H2, .refl _, by rw [hh]; exact List.Sublist.append (List.Sublist.refl _) (List.sublist_cons_self ..)⟩
    exact h base ok a w ⟨F, SimF.relabel (st := ⟨st.n, st.slots, H1 ++ H2⟩) hs2 hd (fun hv => sl_isl hv)⟩
  | cons x es =>
    have hs2 : SimF C.E base F ⟨st.n, st.slots, H1 ++ (accH elem sz b (x :: es) ++ H2)⟩ a w := by
      have : H1 ++ (accH elem sz b (x :: es) ++ H2) = st.heap := by rw [hh]; rfl
      rw [this]; exact hs
    exact h base ok a w ⟨F, SimF.relabel (st := ⟨st.n, st.slots, H1 ++ (accH elem sz b (x :: es) ++ H2)⟩) hs2 hd (fun hv => hv)⟩
theorem SOps.freezeAccI {l : List Oper} (H1 H2 : DHeap) {e sz b : Nat} {es : List (List DV)} (hp : C.pu = true) (hd : st.get t = some (accI sz b es)) (hh : st.heap = H1 ++ (accH e sz b es ++ H2))
    (h : SOps C ops l ⟨st.n, (t, .isl false sz es) :: st.slots, H1 ++ H2⟩ R) : SOps C ops l st R := by
  cases es with
  | nil =>
    intro base ok a w ⟨F, hs⟩
    have e1 : st.heap = H1 ++ H2 := by rw [hh]; rfl
    have hs2 : SimF C.E base F ⟨st.n, st.slots, H1 ++ H2⟩ a w := e1 ▸ hs
    exact h base ok a w ⟨F, SimF.relabel (st := ⟨st.n, st.slots, H1 ++ H2⟩) hs2 hd (fun hv => hv)⟩
  | cons x l' =>
    have hi : st.heap[H1.length]? = some (b, .row e sz (x :: l')) := by rw [hh]; simp [accH]
    have e1 : st.heap.eraseIdx H1.length = H1 ++ H2 := by
      rw [hh, List.eraseIdx_append_of_length_le (by simp)]; simp [accH]
    refine SOps.freezeS (t := t) H1.length hp hi hd rfl ?_
    rw [e1]; exact h
theorem SCode.nilIsl {c : Code} {Q : Exit → St → Prop} {sz : Nat} (hd : st.get t = some (.v (.slice none 0 0))) (h : SCode C c ⟨st.n, (t, .isl false sz []) :: st.slots, st.heap⟩ Q) : SCode C c st Q := by
  intro base ok a w ⟨F, hs⟩
  exact h base ok a w ⟨F, SimF.relabel hs hd (fun hv => nil_isl hv)⟩
theorem SCode.slIsl {c : Code} {Q : Exit → St → Prop} {b sz len : Nat} (hd : st.get t = some (.sl b sz 0 len)) (hl : len = 0) (h : SCode C c ⟨st.n, (t, .isl false sz []) :: st.slots, st.heap⟩ Q) : SCode C c st Q := by
  subst hl
  intro base ok a w ⟨F, hs⟩
  exact h base ok a w ⟨F, SimF.relabel hs hd (fun hv => sl_isl hv)⟩
/-- A scope that no jump leaves by a label. -/
def scopeQ (Q : Exit → St → Prop) : Exit → St → Prop
  | .goto _, _ => False
  | e, st => Q e st
theorem SCode.scope {c : Code} {Q : Exit → St → Prop} (h : SCode C c st (scopeQ Q)) : SCode C (.scope c) st Q := fun base ok a w hs =>
  wp_scope_straight (wp_mono (h base ok a w hs) (fun e a' w' ⟨st', q, s⟩ => by
    cases e with
    | goto l => exact q
    | _ => exact ⟨st', q, s⟩))
theorem SCode.label {l : Nat} {Q : Exit → St → Prop} (h : Q .normal st) : SCode C (.label l) st Q := fun base ok a w hs => wp_label ⟨st, h, hs⟩
theorem rep_aggNil {w : World} {F : Nat → Prop} {v : Value} {ds : List DV} {sz : Nat} (i : Nat) (h : Rep w F v (.agg ds)) (hi : ds[i]? = some (.v (.slice none 0 0))) : Rep w F v (.agg (ds.set i (.isl false sz []))) := by
  cases h with
  | agg hl hr =>
    refine .agg (by simpa using hl) (fun j x d hx hd => ?_)
    rw [List.getElem?_set] at hd
    split at hd
    · rename_i e
      subst e
      split at hd
      · obtain rfl := Option.some.inj hd
        exact nil_isl (hr _ x _ hx hi)
      · cases hd
    · exact hr j x d hx hd
/-- What a slot holds, told otherwise. -/
theorem SOps.relab {l : List Oper} {d d' : DV} (hd : st.get t = some d) (hr : ∀ (w : World) (F : Nat → Prop) (v : Value), Rep w F v d → Rep w F v d') (h : SOps C ops l ⟨st.n, (t, d') :: st.slots, st.heap⟩ R) : SOps C ops l st R := by
  intro base ok a w ⟨F, hs⟩
  exact h base ok a w ⟨F, SimF.relabel hs hd (fun hv => hr w F _ hv)⟩
/-- A slice beside nil: if it is nil, it is a slice of nothing. -/
theorem SOps.eqNilS {T T2 te : TypeId} {xo yo : Operand} {nn : Bool} {sz : Nat} {es : List (List DV)} (hT : C.P.underlying T = some (.slice te)) (hx : st.val xo = some (.isl nn sz es)) (hy : st.val yo = some (.v (.slice none 0 0)))
    (hrest : ∀ c : Bool, (c = true → es = []) → SOps C ops rest (st.put t (.v (.bool c))) R)
    (hg : st.wants ops g = some true := by rfl) (ht : Nat.blt t st.n = true := by rfl) : SOps C ops (⟨some t, .binOp .eql T xo yo T2, ty, pos, aft, g⟩ :: rest) st R := by
  refine SOps.op (R1 := fun st' => ∃ c : Bool, (c = true → es = []) ∧ st' = st.put t (.v (.bool c))) hg ?_ (fun st' ⟨c, h1, h2⟩ => h2 ▸ hrest c h1)
  intro base ok a w F hs K Q hK
  have h1 := hs.val hx
  have h2 := (hs.val hy).inv_v.1
  generalize hv : a.eval xo = v at h1
  cases h1 with
  | @isl A len cap nn sz es b o xs hlen hcap hB hnn hA hsz hc hr =>
    have hrun : (execOp a.eval ⟨some t, .binOp .eql T xo yo T2, ty, pos, aft, g⟩).run C.P w = .ok (.value (.bool A.isNone)) w := by
      have key : ∀ (d : Nat) (q : Option Addr), (Op.equalIn (d + 1) T (.slice q len cap) (.slice none 0 0)).run C.P w = .ok q.isNone w := fun d q => by
        cases q <;> simp [Op.equalIn, run_underlying hT]
      simp only [execOp, hv, h2]
      exact run_binNext (by simp only [eqGuard, binOp, Op.equal, Op.maxDepth, Sem.run_bind]; simp [key 9999 A])
    unfold Oper.wp
    rw [hrun, Oper.upon_value]
    refine hK _ _ _ ⟨A.isNone, fun h => ?_, rfl⟩ ⟨F, hs.put (by simpa using ht) (.v trivial)⟩
    cases es with
    | nil => rfl
    | cons x l => have := (hA (by simp)).1; rw [this] at h; cases h
end
end Go.GH
