/-
  Regions whose order the model leaves open, over abstract states: each order leads to the same state where each operation's result hangs on what was before it alone. No conditions.
-/
import Derived.Test.YtjcihlpjlpackaaDoorGk
set_option linter.unusedVariables false
set_option linter.unusedSimpArgs false
namespace Go.GH
open Go Go.RowKit

def onlyNormal (K : Act → World → Prop) : Exit → Act → World → Prop := fun e a w => e = .normal ∧ K a w
theorem Oper.wp_only {P : Program} {o : Oper} {a : Act} {w : World} {K K' : Act → World → Prop} {Q : Exit → Act → World → Prop} (h : o.wp P a w K (onlyNormal K')) : o.wp P a w K Q := by
  unfold Oper.wp at *
  generalize (execOp a.eval o).run P w = r at *
  cases r with
  | ok n w' =>
    cases n <;> simp only [Oper.upon] at h ⊢ <;>
      first
        | exact h
        | exact Calls.mono h (fun e w'' he => by
            cases e with
            | returned v => exact he
            | panicked c => exact absurd he.1 (by simp)
            | outgrown => obtain ⟨_, _, h1, _⟩ := he; cases h1)
        | exact h.elim
  | halt x w' => cases x <;> simp only [Oper.upon] at h ⊢ <;> first | exact h.elim | exact absurd h.1 (by simp)

/-- One operation, in any order's place. -/
theorem SOps.one {C : Ctx} {ops : Array Oper} {o : Oper} {st : St} {R : St → Prop} (h : SOps C ops [o] st R) {base : Base} (ok : C.ok base) {a : Act} {w : World} (hs : Sim C.E base st a w) {K : Act → World → Prop} {Q : Exit → Act → World → Prop}
    (hK : ∀ st' a' w', R st' → Sim C.E base st' a' w' → K a' w') : if Region.wanted o (yielded ops a.tmps) then o.wp C.P a w K Q ∨ (o.asks C.P a w ∧ LetsOut Q) else K (a.put o.dst undef) w := by
  have := h base ok a w hs (onlyNormal K) (fun st' a' w' r s => ⟨rfl, hK st' a' w' r s⟩)
  unfold wpList at this
  split
  · rename_i hw
    rw [if_pos hw] at this
    rcases this with h1 | ⟨_, _, _, h1, _⟩
    · refine .inl (Oper.wp_only (K' := K) ?_)
      have h2 : wpList C.P ops (onlyNormal K) [] = K := by funext a w; simp [wpList, onlyNormal]
      rw [h2] at h1
      exact h1
    · cases h1
  · rename_i hw
    rw [if_neg hw] at this
    exact this.2

def afterB (o : Oper) (j : Nat) : Bool := o.after.toList.any (fun e => Region.binds .any e && Nat.beq e.on j)
/-- Each operation waits for earlier ones alone. -/
def ordB (l : List Oper) : Bool := (l.zipIdx).all (fun p => p.1.after.all (fun e => !Region.binds .any e || Nat.blt e.on p.2))

theorem SCode.drawAny {C : Ctx} {id : Nat} {l : List Oper} {st : St} {Q : Exit → St → Prop} (hm : C.P.follows .mixedOrders = true) (ho : ordB l = true) (Inv : (Nat → Bool) → St → Prop) (h0 : Inv (fun _ => false) st)
    (hstep : ∀ L st i o, l[i]? = some o → L i = false → Inv L st → (∀ j, afterB o j = true → L j = true) → (∀ k o', l[k]? = some o' → afterB o' i = true → L k = false) → (∀ (k : Nat) o' j, l[k]? = some o' → L k = true → afterB o' j = true → L j = true) →
      SOps C l.toArray [o] st (fun st' => Inv (fun k => if k = i then true else L k) st'))
    (hend : ∀ L st', (∀ i, i < l.length → L i = true) → Inv L st' → ∃ s2 : St, s2.Le st' ∧ Q .normal s2) : SCode C (.region id l.toArray true) st Q := by
  intro base ok a w hs
  refine wp_region_any hm ?_
  have hord : ∀ (i : Nat) o, l[i]? = some o → ∀ e ∈ o.after.toList, Region.binds .any e = true → e.on < i := fun i o hi e he hb => by
    have h1 := List.all_eq_true.1 ho (o, i) (by rw [List.mem_iff_getElem?]; exact ⟨i, by simp [List.getElem?_zipIdx, hi]⟩)
    have h2 := Array.all_eq_true_iff_forall_mem.1 h1 e (by simpa using he)
    simp [hb] at h2
    exact h2
  have key : ∀ fuel (listed : Array Bool) a w, listed.size = l.length → (∀ (k : Nat) o j, l[k]? = some o → listed.getD k false = true → afterB o j = true → listed.getD j false = true) →
      (∃ st', Inv (fun k => listed.getD k false) st' ∧ Sim C.E base st' a w) → (listed.toList.filter (! ·)).length ≤ fuel →
      wpAny C.P .any l.toArray (fun e a' w' => ∃ st', Q e st' ∧ Sim C.E base st' a' w') fuel listed a w := by
    have hready : ∀ (listed : Array Bool), listed.size = l.length → ∀ i, i ∈ Region.ready .any l.toArray listed ↔ ∃ o, l[i]? = some o ∧ listed.getD i false = false ∧ ∀ j, afterB o j = true → listed.getD j false = true := by
      intro listed hl i
      simp only [Region.ready, List.mem_filter, List.mem_range, List.size_toArray, Bool.and_eq_true, Bool.not_eq_true', List.getElem?_toArray]
      constructor
      · rintro ⟨h1, h2, h3⟩
        rw [List.getElem?_eq_getElem h1] at h3
        refine ⟨l[i], List.getElem?_eq_getElem h1, ?_, fun j hj => ?_⟩
        · rw [← h2]; simp [Array.getD, hl, h1]
        · unfold afterB at hj
          obtain ⟨e, he, hb⟩ := List.any_eq_true.1 hj
          rw [Bool.and_eq_true] at hb
          have h4 := Array.all_eq_true_iff_forall_mem.1 (show (l[i]).after.all (fun e => !Region.binds .any e || listed.getD e.on false) = true from h3) e (by simpa using he)
          rw [hb.1] at h4
          have := Nat.eq_of_beq_eq_true hb.2
          subst this
          simpa using h4
      · rintro ⟨o, h1, h2, h3⟩
        have hlt := (List.getElem?_eq_some_iff.1 h1).1
        refine ⟨hlt, ?_, ?_⟩
        · rw [← h2]; simp [Array.getD, hl, hlt]
        · rw [h1]
          simp only [Option.map_some, Option.getD_some]
          refine Array.all_eq_true_iff_forall_mem.2 (fun e he => ?_)
          cases hb : Region.binds .any e with
          | false => rfl
          | true =>
            have := h3 e.on (List.any_eq_true.2 ⟨e, by simpa using he, by simp [hb]⟩)
            simpa using this
    have hall : ∀ (listed : Array Bool), listed.size = l.length → Region.ready .any l.toArray listed = [] → ∀ i, i < l.length → listed.getD i false = true := by
      intro listed hl hr i
      induction i using Nat.strongRecOn with
      | ind i ih =>
        intro hi
        cases hb : listed.getD i false with
        | true => rfl
        | false =>
          have : i ∈ Region.ready .any l.toArray listed := (hready listed hl i).2 ⟨l[i], List.getElem?_eq_getElem hi, hb, fun j hj => by
            unfold afterB at hj
            obtain ⟨e, he, hb⟩ := List.any_eq_true.1 hj
            rw [Bool.and_eq_true] at hb
            have h1 := Nat.eq_of_beq_eq_true hb.2
            subst h1
            have h2 := hord i _ (List.getElem?_eq_getElem hi) e (by simpa using he) hb.1
            exact ih _ h2 (by omega)⟩
          rw [hr] at this
          cases this
    intro fuel
    induction fuel with
    | zero =>
      intro listed a w hl hc ⟨st', h1, h2⟩ hf
      have hno : ∀ i, i < l.length → listed.getD i false = true := fun i hi => by
        cases hb : listed.getD i false with
        | true => rfl
        | false =>
          have hlt : i < listed.size := hl ▸ hi
          have hb' : listed[i] = false := by simpa [Array.getD, hlt] using hb
          have : (false : Bool) ∈ listed.toList.filter (! ·) := List.mem_filter.2 ⟨by rw [← hb']; simp, rfl⟩
          rw [List.eq_nil_of_length_eq_zero (Nat.le_zero.1 hf)] at this
          cases this
      refine ⟨?_, ?_⟩
      case refine_2 =>
        obtain ⟨s2, hl2, hq⟩ := hend _ st' hno h1
        obtain ⟨F', h2⟩ := h2
        exact ⟨s2, hq, F', h2.weaken hl2⟩
      cases hr : Region.ready .any l.toArray listed with
      | nil => rfl
      | cons i r =>
        obtain ⟨o, h3, h4, _⟩ := (hready listed hl i).1 (by rw [hr]; exact List.mem_cons_self ..)
        rw [hno i (List.getElem?_eq_some_iff.1 h3).1] at h4
        cases h4
    | succ fuel ih =>
      intro listed a w hl hc ⟨st', h1, h2⟩ hf
      refine ⟨fun hr => by
        obtain ⟨s2, hl2, hq⟩ := hend _ st' (hall listed hl hr) h1
        obtain ⟨F', h2⟩ := h2
        exact ⟨s2, hq, F', h2.weaken hl2⟩, fun i hi => ?_⟩
      obtain ⟨o, h3, h4, h5⟩ := (hready listed hl i).1 hi
      have hlt := (List.getElem?_eq_some_iff.1 h3).1
      have hsz : i < listed.size := hl ▸ hlt
      have hset : ∀ k, (listed.setIfInBounds i true).getD k false = if k = i then true else listed.getD k false := fun k => by
        simp only [Array.getD_eq_getD_getElem?, Array.getElem?_setIfInBounds]
        by_cases hki : k = i
        · subst hki; simp [hsz]
        · rw [if_neg (fun e => hki e.symm), if_neg hki]
      unfold wpOp
      simp only [List.getElem?_toArray, h3]
      refine SOps.one (hstep _ st' i o h3 h4 h1 h5 (fun k o' hk hka => ?_) hc) ok h2 (fun st2 a2 w2 r s => ih _ a2 w2 (by simpa using hl) (fun k o' j hk hkl hka => ?_) ⟨st2, by simpa only [hset] using r, s⟩ ?_)
      · cases hb : listed.getD k false with
        | false => rfl
        | true =>
          have := hc k o' i hk hb hka
          rw [h4] at this
          cases this
      · rw [hset] at hkl ⊢
        by_cases hji : j = i
        · rw [if_pos hji]
        · rw [if_neg hji]
          by_cases hki : k = i
          · subst hki
            rw [h3] at hk
            obtain rfl := Option.some.inj hk
            exact h5 j hka
          · rw [if_neg hki] at hkl
            exact hc k o' j hk hkl hka
      · have hb' : listed[i] = false := by simpa [Array.getD, hsz] using h4
        have e1 : listed.toList = listed.toList.take i ++ false :: listed.toList.drop (i + 1) := by
          rw [← hb']
          have : listed[i] = listed.toList[i]'(by simpa using hsz) := by simp
          rw [this, List.getElem_cons_drop, List.take_append_drop]
        have e2 : (listed.setIfInBounds i true).toList = listed.toList.take i ++ true :: listed.toList.drop (i + 1) := by
          rw [Array.toList_setIfInBounds, List.set_eq_take_append_cons_drop, if_pos (by simpa using hsz)]
        rw [e1] at hf
        rw [e2]
        simp only [List.filter_append, List.filter_cons, List.length_append] at hf ⊢
        simp at hf ⊢
        omega
  have hs' : Sim C.E base st a { w with drawn := w.drawn + 1 } := by
    obtain ⟨F, hs⟩ := hs
    exact ⟨F, hs.world (Step.drew _ w)⟩
  refine key l.toArray.size _ a _ (by simp) (fun k o j _ hk => ?_) ⟨st, ?_, hs'⟩ ?_
  · simp [Array.getD_eq_getD_getElem?, Array.getElem?_replicate] at hk
    split at hk <;> simp at hk
  · have : (fun k => (Array.replicate l.toArray.size false).getD k false) = fun _ => false := by
      funext k
      simp [Array.getD_eq_getD_getElem?, Array.getElem?_replicate]
      split <;> rfl
    rw [this]
    exact h0
  · simp

/-! ### where no operation turns the own memory -/
def pick2 (L : Nat → Bool) : Nat → List (Nat × DV) → List (Nat × DV) → List (Nat × DV)
  | _, [], s => s
  | i, p :: D, s => if L i then p :: pick2 L (i + 1) D s else pick2 L (i + 1) D s
def needOf (D : List (Nat × DV)) (s : List (Nat × DV)) : List (Nat ⊕ Nat) → List (Nat × DV)
  | [] => []
  | .inl j :: r => match D[j]? with
    | some p => p :: needOf D s r
    | none => needOf D s r
  | .inr t :: r => match getL s t with
    | some d => (t, d) :: needOf D s r
    | none => needOf D s r
def nthB (l : List Oper) (i : Nat) (f : Oper → Bool) : Bool := match l[i]? with
  | some o => f o
  | none => false
/-- Where what an operation reads comes from, and that nobody else writes there meanwhile. -/
def srcB (l : List Oper) (ts : List Nat) (i : Nat) (o : Oper) : Nat ⊕ Nat → Bool
  | .inl j => afterB o j && Nat.blt j ts.length
  | .inr t => (ts.zipIdx).all (fun p => !Nat.beq p.1 t || Nat.beq p.2 i || nthB l p.2 (fun o' => afterB o' i))
def drawB (l : List Oper) (ts : List Nat) (srcs : List (List (Nat ⊕ Nat))) : Bool :=
  ordB l && Nat.beq l.length ts.length && (l.zipIdx).all (fun p => match srcs[p.2]? with
    | some ss => ss.all (srcB l ts p.2 p.1)
    | none => true)
def distB : List Nat → Bool
  | [] => true
  | t :: ts => ts.all (fun u => !Nat.beq t u) && distB ts

inductive OpsOk (C : Ctx) (ops : Array Oper) (n : Nat) (H : DHeap) : List Oper → List (List (Nat × DV)) → List (Nat × DV) → Prop
  | nil : OpsOk C ops n H [] [] []
  | cons {o : Oper} {os : List Oper} {nd : List (Nat × DV)} {nds : List (List (Nat × DV))} {t : Nat} {d : DV} {D : List (Nat × DV)}
      (h : ∀ rest, SOps C ops [o] ⟨n, nd ++ rest, H⟩ (fun st' => st' = ⟨n, (t, d) :: (nd ++ rest), H⟩)) (k : OpsOk C ops n H os nds D) : OpsOk C ops n H (o :: os) (nd :: nds) ((t, d) :: D)

theorem OpsOk.at {C : Ctx} {ops : Array Oper} {n : Nat} {H : DHeap} {os : List Oper} {nds : List (List (Nat × DV))} {D : List (Nat × DV)} (h : OpsOk C ops n H os nds D) : ∀ (i : Nat) o, os[i]? = some o →
    ∃ nd p, nds[i]? = some nd ∧ D[i]? = some p ∧ ∀ rest, SOps C ops [o] ⟨n, nd ++ rest, H⟩ (fun st' => st' = ⟨n, p :: (nd ++ rest), H⟩) := by
  induction h with
  | nil => intro i o hi; simp at hi
  | cons h k ih =>
    intro i o hi
    cases i with
    | zero => simp at hi; subst hi; exact ⟨_, _, rfl, rfl, h⟩
    | succ i => obtain ⟨nd, p, h1, h2, h3⟩ := ih i o (by simpa using hi); exact ⟨nd, p, by simpa using h1, by simpa using h2, h3⟩

theorem getL_cons (p : Nat × DV) (l : List (Nat × DV)) (t : Nat) : getL (p :: l) t = if p.1 = t then some p.2 else getL l t := by
  obtain ⟨u, d⟩ := p
  simp only [getL]
  by_cases h : u = t
  · subst h; simp
  · rw [beq_ne (Ne.symm h), if_neg h]

theorem pick2_none {L : Nat → Bool} {t : Nat} : ∀ (D : List (Nat × DV)) (i : Nat) (s : List (Nat × DV)), (∀ k p, D[k]? = some p → p.1 = t → L (i + k) = false) → getL (pick2 L i D s) t = getL s t
  | [], _, _, _ => rfl
  | p :: D, i, s, h => by
    have ih := pick2_none D (i + 1) s (fun k q hk hq => by have := h (k + 1) q (by simpa using hk) hq; rwa [show i + 1 + k = i + (k + 1) from by omega])
    simp only [pick2]
    split
    · rename_i hl
      rw [getL_cons, if_neg (fun e => by have := h 0 p rfl e; rw [Nat.add_zero, hl] at this; cases this)]
      exact ih
    · exact ih
theorem distB_spec : ∀ (ts : List Nat), distB ts = true → ts.Nodup
  | [], _ => List.nodup_nil
  | t :: ts, h => by
    simp only [distB, Bool.and_eq_true, List.all_eq_true] at h
    refine List.nodup_cons.2 ⟨fun hm => ?_, distB_spec ts h.2⟩
    have := h.1 t hm
    simp at this
theorem pick2_some {L : Nat → Bool} : ∀ (D : List (Nat × DV)) (i j : Nat) (s : List (Nat × DV)) (p : Nat × DV), (D.map (·.1)).Nodup → D[j]? = some p → L (i + j) = true → getL (pick2 L i D s) p.1 = some p.2
  | [], _, _, _, _, _, h, _ => by simp at h
  | q :: D, i, 0, s, p, _, h, hl => by
    simp at h
    subst h
    simp only [pick2]
    rw [Nat.add_zero] at hl
    rw [if_pos hl, getL_cons, if_pos rfl]
  | q :: D, i, j + 1, s, p, hd, h, hl => by
    simp only [List.map_cons, List.nodup_cons] at hd
    have ih := pick2_some D (i + 1) j s p hd.2 (by simpa using h) (by rwa [show i + 1 + j = i + (j + 1) from by omega])
    simp only [pick2]
    split
    · rw [getL_cons, if_neg (fun e => hd.1 (by rw [e]; exact List.mem_map.2 ⟨p, List.mem_of_getElem? (by simpa using h), rfl⟩))]
      exact ih
    · exact ih

theorem SCode.drawPure {C : Ctx} {id : Nat} {l : List Oper} {n : Nat} {s : List (Nat × DV)} {H : DHeap} {Q : Exit → St → Prop} (hm : C.P.follows .mixedOrders = true) (D : List (Nat × DV)) (ts : List Nat) (srcs : List (List (Nat ⊕ Nat))) (nds : List (List (Nat × DV)))
    (hts : D.map (·.1) = ts) (hB : drawB l ts srcs = true) (hd : distB ts = true) (hnd : srcs.map (needOf D s) = nds) (hops : OpsOk C l.toArray n H l nds D) (hQ : Q .normal ⟨n, D ++ s, H⟩) : SCode C (.region id l.toArray true) ⟨n, s, H⟩ Q := by
  simp only [drawB, Bool.and_eq_true, List.all_eq_true] at hB
  obtain ⟨⟨hord, hlen⟩, hsrc⟩ := hB
  have hlen := Nat.eq_of_beq_eq_true hlen
  have hnodup : (D.map (·.1)).Nodup := hts ▸ distB_spec ts hd
  have hDl : D.length = l.length := by rw [hlen, ← hts]; simp
  refine SCode.drawAny hm hord (fun L st' => (⟨n, pick2 L 0 D s, H⟩ : St).Le st') ?_ ?_ ?_
  · have : pick2 (fun _ => false) 0 D s = s := by
      have : ∀ (D : List (Nat × DV)) i, pick2 (fun _ => false) i D s = s := fun D => by
        induction D with
        | nil => intro i; rfl
        | cons p D ih => intro i; simp [pick2, ih]
      exact this D 0
    rw [this]
    exact ⟨rfl, fun t d h => .inl h, H, .refl _, .refl _⟩
  · intro L st' i o hi hLi hle haft hbef _
    obtain ⟨nd, p, h1, h2, h3⟩ := hops.at i o hi
    refine SOps.weaken hle ?_
    have hneed : ∀ t d, getL nd t = some d → getL (pick2 L 0 D s) t = some d := by
      rw [← hnd] at h1
      obtain ⟨ss, hss, e⟩ := Option.map_eq_some_iff.1 (by simpa using h1)
      have hchk := hsrc (o, i) (by rw [List.mem_iff_getElem?]; exact ⟨i, by simp [List.getElem?_zipIdx, hi]⟩)
      simp only [hss, List.all_eq_true] at hchk
      subst e
      have key : ∀ (ss : List (Nat ⊕ Nat)), (∀ x ∈ ss, srcB l ts i o x = true) → ∀ t d, getL (needOf D s ss) t = some d → getL (pick2 L 0 D s) t = some d := by
        intro ss
        induction ss with
        | nil => intro _ t d h; simp [needOf, getL] at h
        | cons x ss ih =>
          intro hx t d h
          have ih' := ih (fun y hy => hx y (List.mem_cons_of_mem _ hy)) t d
          have hx0 := hx x (List.mem_cons_self ..)
          cases x with
          | inl j =>
            simp only [srcB, Bool.and_eq_true] at hx0
            simp only [needOf] at h
            split at h
            · rename_i q hq
              rw [getL_cons] at h
              split at h
              · rename_i e
                subst e
                obtain rfl := Option.some.inj h
                exact pick2_some D 0 j s q hnodup hq (by simpa using haft j hx0.1)
              · exact ih' h
            · exact ih' h
          | inr u =>
            simp only [srcB, List.all_eq_true] at hx0
            simp only [needOf] at h
            split at h
            · rename_i q hq
              rw [getL_cons] at h
              split at h
              · rename_i e
                simp only at e
                subst e
                obtain rfl := Option.some.inj h
                rw [pick2_none D 0 s (fun k p hk hp => ?_)]
                · exact hq
                · have h4 := hx0 (p.1, k) (by rw [List.mem_iff_getElem?]; exact ⟨k, by rw [← hts]; simp [List.getElem?_zipIdx, hk]⟩)
                  simp only [hp, Nat.beq_refl, Bool.not_true, Bool.false_or, Bool.or_eq_true] at h4
                  rw [Nat.zero_add]
                  rcases h4 with h4 | h4
                  · rw [Nat.eq_of_beq_eq_true h4]; exact hLi
                  · unfold nthB at h4
                    split at h4
                    · rename_i o' ho'
                      exact hbef k o' ho' h4
                    · cases h4
              · exact ih' h
            · exact ih' h
      exact key ss hchk
    have hnl : ∀ t, getL (nd ++ pick2 L 0 D s) t = getL (pick2 L 0 D s) t := by
      intro t
      have : ∀ (nd : List (Nat × DV)), (∀ d, getL nd t = some d → getL (pick2 L 0 D s) t = some d) → getL (nd ++ pick2 L 0 D s) t = getL (pick2 L 0 D s) t := by
        intro nd
        induction nd with
        | nil => intro _; rfl
        | cons q nd ih =>
          intro h
          rw [List.cons_append, getL_cons]
          split
          · rename_i e
            exact (h q.2 (by rw [getL_cons, if_pos e])).symm
          · rename_i e
            exact ih (fun d hd => h d (by rw [getL_cons, if_neg e]; exact hd))
      exact this nd (hneed t)
    refine SOps.weaken (st' := ⟨n, nd ++ pick2 L 0 D s, H⟩) ⟨rfl, fun t d ht => .inl ((hnl t).symm.trans ht), H, .refl _, .refl _⟩ ((h3 (pick2 L 0 D s)).mono ?_)
    rintro st2 rfl
    refine ⟨rfl, fun t d ht => .inl ?_, H, .refl _, .refl _⟩
    show getL (p :: (nd ++ pick2 L 0 D s)) t = some d
    rw [getL_cons, hnl]
    have ht : getL (pick2 (fun k => if k = i then true else L k) 0 D s) t = some d := ht
    by_cases hpt : p.1 = t
    · rw [if_pos hpt]
      subst hpt
      rw [pick2_some D 0 i s p hnodup h2 (by simp)] at ht
      exact ht
    · rw [if_neg hpt, ← ht]
      have : ∀ (D : List (Nat × DV)) (b : Nat), (∀ k q, D[k]? = some q → b + k = i → q.1 ≠ t) → getL (pick2 L b D s) t = getL (pick2 (fun k => if k = i then true else L k) b D s) t := by
        intro D
        induction D with
        | nil => intro b _; rfl
        | cons q D ih =>
          intro b h
          have ih' := ih (b + 1) (fun k q' hk hb => h (k + 1) q' (by simpa using hk) (by omega))
          simp only [pick2]
          by_cases hbi : b = i
          · have hq := h 0 q rfl (by omega)
            simp only [if_pos hbi, if_true]
            rw [getL_cons, if_neg hq]
            split
            · rw [getL_cons, if_neg hq]; exact ih'
            · exact ih'
          · simp only [if_neg hbi]
            split
            · rw [getL_cons, getL_cons]
              split
              · rfl
              · exact ih'
            · exact ih'
      exact this D 0 (fun k q hk hb => by
        have : k = i := by omega
        subst this
        rw [h2] at hk
        obtain rfl := Option.some.inj hk
        exact hpt)
  · intro L st' hall hle
    have : ∀ (D : List (Nat × DV)) (b : Nat), b + D.length ≤ l.length → pick2 L b D s = D ++ s := by
      intro D
      induction D with
      | nil => intro b _; rfl
      | cons q D ih =>
        intro b h
        simp only [List.length_cons] at h
        simp only [pick2, hall b (by omega), if_true, ih (b + 1) (by omega), List.cons_append]
    rw [this D 0 (by omega)] at hle
    exact ⟨_, hle, hQ⟩
end Go.GH
