/-
  Regions of open order in which some operations turn the own memory (those in a chain), and rules for rows of one's own. No conditions.
-/
import Derived.Test.YtjcihlpjlpackaaDoorGr
set_option linter.unusedVariables false
set_option linter.unusedSimpArgs false
namespace Go.GH
open Go Go.RowKit
abbrev ORes := Option (Nat × DV)
def pickO (L : Nat → Bool) : Nat → List ORes → List (Nat × DV) → List (Nat × DV)
  | _, [], s => s
  | i, none :: D, s => pickO L (i + 1) D s
  | i, some p :: D, s => if L i then p :: pickO L (i + 1) D s else pickO L (i + 1) D s
def needO (D : List ORes) (s : List (Nat × DV)) : List (Nat ⊕ Nat) → List (Nat × DV)
  | [] => []
  | .inl j :: r => match D[j]? with
    | some (some p) => p :: needO D s r
    | _ => needO D s r
  | .inr t :: r => match getL s t with
    | some d => (t, d) :: needO D s r
    | none => needO D s r
def srcO (l : List Oper) (ts : List (Option Nat)) (i : Nat) (o : Oper) : Nat ⊕ Nat → Bool
  | .inl j => afterB o j
  | .inr t => (ts.zipIdx).all (fun p => !(p.1 == some t) || Nat.beq p.2 i || nthB l p.2 (fun o' => afterB o' i))
def distO : List (Option Nat) → Bool
  | [] => true
  | none :: ts => distO ts
  | some t :: ts => ts.all (fun u => !(u == some t)) && distO ts
def resO (D : List ORes) : List (Nat × DV) := D.filterMap id
theorem pickO_none {L : Nat → Bool} {t : Nat} : ∀ (D : List ORes) (i : Nat) (s : List (Nat × DV)), (∀ k p, D[k]? = some (some p) → p.1 = t → L (i + k) = false) → getL (pickO L i D s) t = getL s t
  | [], _, _, _ => rfl
  | q :: D, i, s, h => by
    have ih := pickO_none D (i + 1) s (fun k q hk hq => by have := h (k + 1) q (by simpa using hk) hq; rwa [show i + 1 + k = i + (k + 1) from by omega])
    cases q with
    | none => exact ih
    | some p =>
      simp only [pickO]
      split
      · rename_i hl
        rw [getL_cons, if_neg (fun e => by have := h 0 p rfl e; rw [Nat.add_zero, hl] at this; cases this)]
        exact ih
      · exact ih
theorem distO_none {t : Nat} : ∀ {D : List ORes}, ((D.map (fun x => x.map (·.1))).all (fun u => !(u == some t))) = true → ∀ (k : Nat) p, D[k]? = some (some p) → p.1 ≠ t := by
  intro D h k p hk e
  have := List.all_eq_true.1 h (some p.1) (List.mem_map.2 ⟨some p, List.mem_of_getElem? hk, rfl⟩)
  simp [e] at this
theorem pickO_some {L : Nat → Bool} : ∀ (D : List ORes) (i j : Nat) (s : List (Nat × DV)) (p : Nat × DV), distO (D.map (fun x => x.map (·.1))) = true → D[j]? = some (some p) → L (i + j) = true → getL (pickO L i D s) p.1 = some p.2
  | [], _, _, _, _, _, h, _ => by simp at h
  | q :: D, i, 0, s, p, _, h, hl => by
    simp at h
    subst h
    simp only [pickO]
    rw [Nat.add_zero] at hl
    rw [if_pos hl, getL_cons, if_pos rfl]
  | q :: D, i, j + 1, s, p, hd, h, hl => by
    have hj : D[j]? = some (some p) := by simpa using h
    have hl' : L (i + 1 + j) = true := by rwa [show i + 1 + j = i + (j + 1) from by omega]
    cases q with
    | none => exact pickO_some D (i + 1) j s p (by simpa [distO] using hd) hj hl'
    | some q =>
      simp only [List.map_cons, Option.map_some, distO, Bool.and_eq_true] at hd
      have ih := pickO_some D (i + 1) j s p hd.2 hj hl'
      simp only [pickO]
      split
      · rw [getL_cons, if_neg (fun e => distO_none hd.1 j p hj e.symm)]
        exact ih
      · exact ih
theorem pickO_all {L : Nat → Bool} {s : List (Nat × DV)} : ∀ (D : List ORes) (b : Nat), (∀ k, b ≤ k → k < b + D.length → L k = true) → pickO L b D s = resO D ++ s
  | [], _, _ => rfl
  | q :: D, b, h => by
    have ih := pickO_all (s := s) D (b + 1) (fun k h1 h2 => h k (by omega) (by simp only [List.length_cons]; omega))
    cases q with
    | none => simpa [pickO, resO] using ih
    | some q => simp only [pickO, h b (Nat.le_refl _) (by simp), if_true, ih, resO, List.filterMap_cons, id, List.cons_append]
theorem pickO_false {s : List (Nat × DV)} : ∀ (D : List ORes) (i : Nat), pickO (fun _ => false) i D s = s
  | [], _ => rfl
  | none :: D, i => pickO_false D (i + 1)
  | some _ :: D, i => by simp [pickO, pickO_false D (i + 1)]
theorem pickO_set {L : Nat → Bool} {s : List (Nat × DV)} {t : Nat} {i : Nat} : ∀ (D D' : List ORes) (b : Nat), D.length = D'.length → (∀ k, b + k ≠ i → L (b + k) = true → D'[k]? = D[k]?) → (∀ k p, D'[k]? = some (some p) → b + k = i → p.1 ≠ t) → (∀ (k : Nat) p, D[k]? = some (some p) → b + k = i → p.1 ≠ t) →
    getL (pickO L b D s) t = getL (pickO (fun k => if k = i then true else L k) b D' s) t
  | [], [], _, _, _, _, _ => rfl
  | [], _ :: _, _, h, _, _, _ => by simp at h
  | _ :: _, [], _, h, _, _, _ => by simp at h
  | q :: D, q' :: D', b, hl, h1, h2, h3 => by
    have ih := pickO_set (L := L) (s := s) (t := t) (i := i) D D' (b + 1) (by simpa using hl) (fun k hk hL => by
      have := h1 (k + 1) (by omega) (by rwa [show b + (k + 1) = b + 1 + k from by omega])
      simpa using this) (fun k p hk hb => h2 (k + 1) p (by simpa using hk) (by omega)) (fun k p hk hb => h3 (k + 1) p (by simpa using hk) (by omega))
    by_cases hbi : b = i
    · have e1 : getL (pickO L b (q :: D) s) t = getL (pickO L (b + 1) D s) t := by
        cases q with
        | none => rfl
        | some p =>
          simp only [pickO]
          split
          · rw [getL_cons, if_neg (h3 0 p rfl (by omega))]
          · rfl
      have e2 : getL (pickO (fun k => if k = i then true else L k) b (q' :: D') s) t = getL (pickO (fun k => if k = i then true else L k) (b + 1) D' s) t := by
        cases q' with
        | none => rfl
        | some p =>
          simp only [pickO, if_pos hbi, if_true]
          rw [getL_cons, if_neg (h2 0 p rfl (by omega))]
      rw [e1, e2, ih]
    · by_cases hL : L b = true
      · have e : q' = q := by simpa using h1 0 (by omega) (by simpa using hL)
        subst e
        cases q' with
        | none => exact ih
        | some p =>
          simp only [pickO, if_neg hbi, hL, if_true]
          rw [getL_cons, getL_cons, ih]
      · have hL' : L b = false := by simpa using hL
        have e1 : pickO L b (q :: D) s = pickO L (b + 1) D s := by cases q <;> simp [pickO, hL']
        have e2 : pickO (fun k => if k = i then true else L k) b (q' :: D') s = pickO (fun k => if k = i then true else L k) (b + 1) D' s := by cases q' <;> simp [pickO, hbi, hL']
        rw [e1, e2, ih]

/-- How many of the chain are done. -/
def cntL (L : Nat → Bool) (T : List Nat) : Nat := (T.filter L).length
theorem cnt_prefix {L : Nat → Bool} : ∀ (T : List Nat), (∀ (j : Nat) x y, T[j]? = some x → T[j + 1]? = some y → L y = true → L x = true) → ∀ (j x : Nat), T[j]? = some x → (L x = true ↔ j < cntL L T)
  | [], _, _, _, h => by simp at h
  | a :: T, hc, j, x, hj => by
    have ih := cnt_prefix T (fun j x y h1 h2 h3 => hc (j + 1) x y (by simpa using h1) (by simpa using h2) h3)
    by_cases ha : L a = true
    · have e : cntL L (a :: T) = cntL L T + 1 := by simp [cntL, ha]
      cases j with
      | zero => simp at hj; subst hj; rw [e]; exact ⟨fun _ => by omega, fun _ => ha⟩
      | succ j => rw [ih j x (by simpa using hj), e]; omega
    · have hall : ∀ (j : Nat) x, (a :: T)[j]? = some x → ¬ L x = true := by
        intro j
        induction j with
        | zero => intro x hx; simp at hx; subst hx; exact ha
        | succ j ihj =>
          intro x hx h
          have hlt := (List.getElem?_eq_some_iff.1 hx).1
          exact ihj _ (List.getElem?_eq_getElem (by omega)) (hc j _ x (List.getElem?_eq_getElem (by omega)) hx h)
      have e : cntL L (a :: T) = 0 := by
        unfold cntL
        rw [List.filter_eq_nil_iff.2 (fun x hx => by obtain ⟨j, hj⟩ := List.mem_iff_getElem?.1 hx; exact hall j x hj)]
        rfl
      rw [e]
      exact ⟨fun h => absurd h (hall j x hj), fun h => by omega⟩
theorem cnt_set {L : Nat → Bool} {i : Nat} (hi : L i = false) : ∀ (T : List Nat), T.Nodup → cntL (fun k => if k = i then true else L k) T = cntL L T + if i ∈ T then 1 else 0
  | [], _ => rfl
  | a :: T, h => by
    have hd := List.nodup_cons.1 h
    have ih := cnt_set hi T hd.2
    unfold cntL at ih ⊢
    by_cases ha : a = i
    · subst ha
      have : (if a ∈ T then 1 else 0) = 0 := if_neg hd.1
      rw [this] at ih
      rw [List.filter_cons_of_pos (by simp), List.filter_cons_of_neg (by simp [hi]), List.length_cons, ih, if_pos (List.mem_cons_self ..)]
    · have e : (i ∈ a :: T) ↔ i ∈ T := by simp [Ne.symm ha]
      simp only [List.filter_cons, if_neg ha]
      by_cases hL : L a = true
      · simp only [hL, if_true, List.length_cons, ih, e]; omega
      · simp only [hL, e]; exact ih
inductive StgOk (C : Ctx) (ops : Array Oper) (n : Nat) (Hs : Nat → Nat → DHeap) (o : Oper) (nd : Nat → List (Nat × DV)) (r : Nat → ORes) (tl al : Bool) : List Nat → Prop
  | nil : StgOk C ops n Hs o nd r tl al []
  | cons {c : Nat} {cs : List Nat} (h : ∀ b rest, SOps C ops [o] ⟨n, nd b ++ rest, Hs b c⟩ (fun st' => ∃ b', (al = false → b' = b) ∧ st' = ⟨n, (r b').toList ++ (nd b ++ rest), Hs b' (c + tl.toNat)⟩)) (k : StgOk C ops n Hs o nd r tl al cs) : StgOk C ops n Hs o nd r tl al (c :: cs)
theorem StgOk.at {C : Ctx} {ops : Array Oper} {n : Nat} {Hs : Nat → Nat → DHeap} {o : Oper} {nd : Nat → List (Nat × DV)} {r : Nat → ORes} {tl al : Bool} {cs : List Nat} (h : StgOk C ops n Hs o nd r tl al cs) {c : Nat} (hc : c ∈ cs) : ∀ b rest, SOps C ops [o] ⟨n, nd b ++ rest, Hs b c⟩ (fun st' => ∃ b', (al = false → b' = b) ∧ st' = ⟨n, (r b').toList ++ (nd b ++ rest), Hs b' (c + tl.toNat)⟩) := by
  induction h with
  | nil => cases hc
  | cons h k ih =>
    rcases List.mem_cons.1 hc with e | hc
    · subst e; exact h
    · exact ih hc
/-- What each operation does, at each stage at which its turn may come. -/
inductive MixOk (C : Ctx) (ops : Array Oper) (n : Nat) (Hs : Nat → Nat → DHeap) : List Oper → List (Nat → List (Nat × DV)) → List (Nat → ORes) → List (Bool × Bool × List Nat) → Prop
  | nil : MixOk C ops n Hs [] [] [] []
  | cons {o : Oper} {os : List Oper} {nd : Nat → List (Nat × DV)} {nds : List (Nat → List (Nat × DV))} {r : Nat → ORes} {D : List (Nat → ORes)} {tl al : Bool} {cs : List Nat} {K : List (Bool × Bool × List Nat)}
      (h : StgOk C ops n Hs o nd r tl al cs) (k : MixOk C ops n Hs os nds D K) : MixOk C ops n Hs (o :: os) (nd :: nds) (r :: D) ((tl, al, cs) :: K)
theorem MixOk.at {C : Ctx} {ops : Array Oper} {n : Nat} {Hs : Nat → Nat → DHeap} {os : List Oper} {nds : List (Nat → List (Nat × DV))} {D : List (Nat → ORes)} {K : List (Bool × Bool × List Nat)} (h : MixOk C ops n Hs os nds D K) : ∀ (i : Nat) o, os[i]? = some o →
    ∃ nd r tl al cs, nds[i]? = some nd ∧ D[i]? = some r ∧ K[i]? = some (tl, al, cs) ∧ StgOk C ops n Hs o nd r tl al cs := by
  induction h with
  | nil => intro i o hi; simp at hi
  | cons h k ih =>
    intro i o hi
    cases i with
    | zero => simp at hi; subst hi; exact ⟨_, _, _, _, _, rfl, rfl, rfl, h⟩
    | succ i => obtain ⟨nd, r, tl, al, cs, h1, h2, h3, h4⟩ := ih i o (by simpa using hi); exact ⟨nd, r, tl, al, cs, by simpa using h1, by simpa using h2, by simpa using h3, h4⟩
def memB (l : List Nat) (x : Nat) : Bool := l.any (fun y => Nat.beq y x)
theorem memB_iff {l : List Nat} {x : Nat} : memB l x = true ↔ x ∈ l := by
  unfold memB
  rw [List.any_eq_true]
  exact ⟨fun ⟨y, h, e⟩ => Nat.eq_of_beq_eq_true e ▸ h, fun h => ⟨x, h, by simp⟩⟩
/-- The chain is one, and the stages are all that may come. -/
def mixB (l : List Oper) (ts : List (Option Nat)) (srcs : List (List (Nat ⊕ Nat))) (T : List Nat) (K : List (Bool × Bool × List Nat)) (f : Nat) : Bool :=
  ordB l && distO ts && distB T && T.all (fun x => Nat.blt x l.length) && (T.zip (T.drop 1)).all (fun p => memB (reqF l f p.2) p.1) &&
  (l.zipIdx).all (fun p => match srcs[p.2]? with
    | some ss => ss.all (srcO l ts p.2 p.1)
    | none => true) &&
  (List.range l.length).all (fun i => match K[i]? with
    | some (tl, _, cs) => (tl == memB T i) && (List.range (T.length + 1)).all (fun c => memB cs c || (T.zipIdx).any (fun p => (Nat.blt p.2 c && (memB (reqF l f p.1) i || Nat.beq p.1 i)) || (!Nat.blt p.2 c && memB (reqF l f i) p.1)))
    | none => false)

theorem SCode.drawMix {C : Ctx} {id : Nat} {l : List Oper} {n : Nat} {s : List (Nat × DV)} {H : DHeap} {Q : Exit → St → Prop} (f : Nat) (T : List Nat) (hm : C.P.follows .mixedOrders = true) (D : List (Nat → ORes)) (ts : List (Option Nat)) (srcs : List (List (Nat ⊕ Nat))) (nds : List (Nat → List (Nat × DV))) (Hs : Nat → Nat → DHeap) (K : List (Bool × Bool × List Nat))
    (hB : mixB l ts srcs T K f = true) (hts : ∀ b, D.map (fun r => (r b).map (·.1)) = ts) (hlen : D.length = l.length) (hnd : ∀ b, nds.map (fun x => x b) = srcs.map (needO (D.map (fun r => r b)) s)) (hH : ∀ b, Hs b 0 = H)
    (hcoh : ∀ (j a : Nat) tl cs (r : Nat → ORes), K[a]? = some (tl, true, cs) → D[j]? = some r → (∀ b b', r b = r b') ∨ j = a ∨ ∃ o, l[j]? = some o ∧ afterB o a = true)
    (hops : MixOk C l.toArray n Hs l nds D K) (hQ : ∀ b, Q .normal ⟨n, resO (D.map (fun r => r b)) ++ s, Hs b T.length⟩) : SCode C (.region id l.toArray true) ⟨n, s, H⟩ Q := by
  simp only [mixB, Bool.and_eq_true, List.all_eq_true] at hB
  obtain ⟨⟨⟨⟨⟨⟨hord, hdist⟩, hdT⟩, hTl⟩, hchain⟩, hsrc⟩, hstg⟩ := hB
  have hdB : ∀ b, distO ((D.map (fun r => r b)).map (fun x => x.map (·.1))) = true := fun b => by
    have := hts b
    rw [List.map_map, show ((fun x : ORes => x.map (·.1)) ∘ fun r : Nat → ORes => r b) = (fun r => (r b).map (·.1)) from rfl, this]; exact hdist
  have hTn : T.Nodup := distB_spec T hdT
  refine SCode.drawAny hm hord (fun L st' => ∃ b, (⟨n, pickO L 0 (D.map (fun r => r b)) s, Hs b (cntL L T)⟩ : St).Le st') ?_ ?_ ?_
  · refine ⟨0, ?_⟩
    rw [pickO_false, show cntL (fun _ => false) T = 0 by simp [cntL], hH]
    exact ⟨rfl, fun t d h => .inl h, H, .refl _, .refl _⟩
  · intro L st' i o hi hLi hinv haft hbef hcl
    obtain ⟨b, hle⟩ := hinv
    have hil := (List.getElem?_eq_some_iff.1 hi).1
    obtain ⟨nd, r, tl, al, cs, h1, h2, h3, h4⟩ := hops.at i o hi
    have hreq : ∀ x ∈ reqF l f i, L x = true := fun x hx => by
      cases f with
      | zero => simp [reqF] at hx
      | succ f =>
        simp only [reqF, hi] at hx
        rcases List.mem_append.1 hx with hx | hx
        · exact haft x (by simpa using (List.mem_filter.1 hx).2)
        · obtain ⟨js, hjs, hjx⟩ := List.mem_flatten.1 hx
          obtain ⟨y, hy, rfl⟩ := List.mem_map.1 hjs
          exact reqF_spec hcl f y (haft y (by simpa using (List.mem_filter.1 hy).2)) x hjx
    have hpre := cnt_prefix T (fun j x y hx hy hLy => by
      have := hchain (x, y) (by
        rw [List.mem_iff_getElem?]
        refine ⟨j, ?_⟩
        rw [List.getElem?_zip_eq_some]
        exact ⟨hx, by rw [List.getElem?_drop, Nat.add_comm]; exact hy⟩)
      exact reqF_spec hcl f y hLy x (memB_iff.1 this))
    have hst := hstg i (List.mem_range.2 hil)
    simp only [h3, Bool.and_eq_true, List.all_eq_true] at hst
    obtain ⟨htl, hst⟩ := hst
    have hcT : cntL L T ≤ T.length := List.length_filter_le _ _
    have hc : cntL L T ∈ cs := by
      have := hst (cntL L T) (List.mem_range.2 (by omega))
      simp only [Bool.or_eq_true] at this
      rcases this with h | h
      · exact memB_iff.1 h
      · obtain ⟨p, hp, h⟩ := List.any_eq_true.1 h
        obtain ⟨j, hj⟩ := List.mem_iff_getElem?.1 hp
        rw [List.getElem?_zipIdx] at hj
        obtain ⟨x, hx, e⟩ := Option.map_eq_some_iff.1 hj
        subst e
        simp only [Nat.zero_add, Bool.or_eq_true, Bool.and_eq_true] at h
        rcases h with ⟨h5, h6⟩ | ⟨h5, h6⟩
        · have hlt : j < cntL L T := by simpa using h5
          have hLx := (hpre j x hx).2 hlt
          rcases h6 with h6 | h6
          · rw [reqF_spec hcl f x hLx i (memB_iff.1 h6)] at hLi; cases hLi
          · rw [Nat.eq_of_beq_eq_true h6, hLi] at hLx; cases hLx
        · have hLx := hreq x (memB_iff.1 h6)
          have := (hpre j x hx).1 hLx
          rw [show Nat.blt j (cntL L T) = true from Nat.ble_eq_true_of_le this] at h5
          cases h5
    refine SOps.weaken hle ?_
    have hneed : ∀ t d, getL (nd b) t = some d → getL (pickO L 0 (D.map (fun r => r b)) s) t = some d := by
      have hn := congrArg (fun x => x[i]?) (hnd b)
      simp only [List.getElem?_map, h1, Option.map_some] at hn
      obtain ⟨ss, hss, e⟩ := Option.map_eq_some_iff.1 hn.symm
      have hchk := hsrc (o, i) (by rw [List.mem_iff_getElem?]; exact ⟨i, by simp [List.getElem?_zipIdx, hi]⟩)
      simp only [hss, List.all_eq_true] at hchk
      rw [← e]
      have key : ∀ (ss : List (Nat ⊕ Nat)), (∀ x ∈ ss, srcO l ts i o x = true) → ∀ t d, getL (needO (D.map (fun r => r b)) s ss) t = some d → getL (pickO L 0 (D.map (fun r => r b)) s) t = some d := by
        intro ss
        induction ss with
        | nil => intro _ t d h; simp [needO, getL] at h
        | cons x ss ih =>
          intro hx t d h
          have ih' := ih (fun y hy => hx y (List.mem_cons_of_mem _ hy)) t d
          have hx0 := hx x (List.mem_cons_self ..)
          cases x with
          | inl j =>
            simp only [srcO] at hx0
            simp only [needO] at h
            split at h
            · rename_i q hq
              rw [getL_cons] at h
              split at h
              · rename_i e
                subst e
                obtain rfl := Option.some.inj h
                exact pickO_some _ 0 j s q (hdB b) hq (by simpa using haft j hx0)
              · exact ih' h
            · exact ih' h
          | inr u =>
            simp only [srcO, List.all_eq_true] at hx0
            simp only [needO] at h
            split at h
            · rename_i q hq
              rw [getL_cons] at h
              split at h
              · rename_i e
                simp only at e
                subst e
                obtain rfl := Option.some.inj h
                rw [pickO_none _ 0 s (fun k p hk hp => ?_)]
                · exact hq
                · have h4 := hx0 (some p.1, k) (by
                    rw [List.mem_iff_getElem?]
                    refine ⟨k, ?_⟩
                    rw [← hts b, List.getElem?_zipIdx]
                    simp only [List.getElem?_map] at hk ⊢
                    cases hD : D[k]? with
                    | none => rw [hD] at hk; simp at hk
                    | some rr => rw [hD] at hk; simp at hk; simp [hk])
                  simp only [hp, BEq.rfl, Bool.not_true, Bool.false_or, Bool.or_eq_true] at h4
                  rw [Nat.zero_add]
                  rcases h4 with h4 | h4
                  · rw [Nat.eq_of_beq_eq_true h4]; exact hLi
                  · unfold nthB at h4
                    split at h4
                    · rename_i o' ho'
                      exact hbef k o' ho' h4
                    · cases h4
              · exact ih' h
            · exact ih' h
      exact key ss hchk
    have hnl : ∀ t, getL (nd b ++ pickO L 0 (D.map (fun r => r b)) s) t = getL (pickO L 0 (D.map (fun r => r b)) s) t := by
      intro t
      have : ∀ (nd : List (Nat × DV)), (∀ d, getL nd t = some d → getL (pickO L 0 (D.map (fun r => r b)) s) t = some d) → getL (nd ++ pickO L 0 (D.map (fun r => r b)) s) t = getL (pickO L 0 (D.map (fun r => r b)) s) t := by
        intro nd
        induction nd with
        | nil => intro _; rfl
        | cons q nd ih =>
          intro h
          rw [List.cons_append, getL_cons]
          split
          · rename_i e
            exact (h q.2 (by rw [getL_cons, if_pos e])).symm
          · rename_i e
            exact ih (fun d hd => h d (by rw [getL_cons, if_neg e]; exact hd))
      exact this (nd b) (hneed t)
    refine SOps.weaken (st' := ⟨n, nd b ++ pickO L 0 (D.map (fun r => r b)) s, Hs b (cntL L T)⟩) ⟨rfl, fun t d ht => .inl ((hnl t).symm.trans ht), _, .refl _, .refl _⟩ ((h4.at hc b (pickO L 0 (D.map (fun r => r b)) s)).mono ?_)
    rintro st2 ⟨b', hb', rfl⟩
    have hcnt : cntL (fun k => if k = i then true else L k) T = cntL L T + tl.toNat := by
      rw [cnt_set hLi T hTn]
      have : tl = memB T i := by simpa using htl
      subst this
      by_cases hmem : i ∈ T
      · rw [if_pos hmem, memB_iff.2 hmem]; rfl
      · rw [if_neg hmem, show memB T i = false by cases h : memB T i with | false => rfl | true => exact absurd (memB_iff.1 h) hmem]; rfl
    refine ⟨b', rfl, fun t d ht => .inl ?_, _, by rw [hcnt], .refl _⟩
    show getL ((r b').toList ++ (nd b ++ pickO L 0 (D.map (fun r => r b)) s)) t = some d
    have ht : getL (pickO (fun k => if k = i then true else L k) 0 (D.map (fun r => r b')) s) t = some d := ht
    have hDi : ∀ b, (D.map (fun r => r b))[i]? = some (r b) := fun b => by simp [h2]
    have hcase : (∃ p, r b' = some p ∧ p.1 = t) ∨ (∀ p, r b' = some p → p.1 ≠ t) := by
      cases hr : r b' with
      | none => exact .inr (fun p h => by cases h)
      | some p =>
        by_cases e : p.1 = t
        · exact .inl ⟨p, rfl, e⟩
        · exact .inr (fun q h => by cases h; exact e)
    rcases hcase with ⟨p, hp, e⟩ | hne
    · subst e
      rw [hp]
      simp only [Option.toList_some, List.singleton_append]
      rw [getL_cons, if_pos rfl]
      rw [pickO_some _ 0 i s p (hdB b') (by rw [hDi, hp]) (by simp)] at ht
      exact ht
    · have e1 : getL ((r b').toList ++ (nd b ++ pickO L 0 (D.map (fun r => r b)) s)) t = getL (nd b ++ pickO L 0 (D.map (fun r => r b)) s) t := by
        cases hr : r b' with
        | none => rfl
        | some p => simp only [Option.toList_some, List.singleton_append]; rw [getL_cons, if_neg (hne p hr)]
      rw [e1, hnl, ← ht]
      refine pickO_set _ _ 0 (by simp) (fun k hk hLk => ?_) (fun k p hk hki => ?_) (fun k p hk hki => ?_)
      · rw [Nat.zero_add] at hk hLk
        simp only [List.getElem?_map]
        cases hDk : D[k]? with
        | none => rfl
        | some rr =>
          simp only [Option.map_some]
          congr 1
          cases al with
          | false => rw [hb' rfl]
          | true =>
            rcases hcoh k i tl cs rr h3 hDk with h | h | ⟨o', ho', h⟩
            · exact h b' b
            · exact absurd h hk
            · rw [hcl k o' i ho' hLk h] at hLi; cases hLi
      · have : k = i := by omega
        subst this
        rw [hDi] at hk
        exact hne p (Option.some.inj hk)
      · have : k = i := by omega
        subst this
        have hb1 := hts b
        have hb2 := hts b'
        have := congrArg (fun x => x[k]?) (hb1.trans hb2.symm)
        simp only [List.getElem?_map, h2, Option.map_some, Option.some.injEq] at this
        rw [hDi] at hk
        rw [Option.some.inj hk] at this
        simp only [Option.map_some] at this
        obtain ⟨q, hq, e⟩ := Option.map_eq_some_iff.1 this.symm
        rw [← e]
        exact hne q hq
  · intro L st' hall hinv
    obtain ⟨b, hle⟩ := hinv
    have hcT : cntL L T = T.length := by
      unfold cntL
      rw [List.filter_eq_self.2 (fun x hx => hall x (by simpa using hTl x hx))]
    rw [pickO_all _ 0 (fun k _ hk => hall k (by simp at hk; omega)), hcT] at hle
    exact ⟨_, hle, hQ b⟩
theorem cohNone {l : List Oper} {D : List (Nat → ORes)} {K : List (Bool × Bool × List Nat)} (h : K.all (fun k => !k.2.1) = true) (j a : Nat) (tl : Bool) (cs : List Nat) (r : Nat → ORes) (hK : K[a]? = some (tl, true, cs)) (_ : D[j]? = some r) :
    (∀ b b', r b = r b') ∨ j = a ∨ ∃ o, l[j]? = some o ∧ afterB o a = true := by
  have := List.all_eq_true.1 h _ (List.mem_of_getElem? hK)
  cases this
theorem cohOne {l : List Oper} {D : List (Nat → ORes)} {K : List (Bool × Bool × List Nat)} (a0 : Nat) (h : (K.zipIdx).all (fun k => !k.1.2.1 || Nat.beq k.2 a0) = true) (hD : ∀ (j : Nat) r, D[j]? = some r → (∀ b b', r b = r b') ∨ j = a0 ∨ ∃ o, l[j]? = some o ∧ afterB o a0 = true) (j a : Nat) (tl : Bool) (cs : List Nat) (r : Nat → ORes) (hK : K[a]? = some (tl, true, cs)) (hj : D[j]? = some r) :
    (∀ b b', r b = r b') ∨ j = a ∨ ∃ o, l[j]? = some o ∧ afterB o a = true := by
  have := List.all_eq_true.1 h ((tl, true, cs), a) (by rw [List.mem_iff_getElem?]; exact ⟨a, by simp [List.getElem?_zipIdx, hK]⟩)
  simp only [Bool.not_true, Bool.false_or] at this
  obtain rfl := Nat.eq_of_beq_eq_true this
  exact hD j r hj
end Go.GH
