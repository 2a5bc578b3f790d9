/-
  Part 7 of the texts behind the walks of this claim: an own layer over the kit's wp, plain laws, and walks. No conditions.
-/
import Derived.Test.YtjcihlpjlpackaaDoorMc6
set_option linter.unusedVariables false
set_option linter.unusedSimpArgs false
set_option linter.deprecated false
namespace Go.GH
open Go

abbrev Ids := Nat → Nat
/-- A chain: its operations, and what its memory is after so many of them. -/
structure Chn where
  T : List Nat
  Y : List Nat → Nat → DHeap
def Chn.X (x : Chn) (b : Ids) (c : Nat) : DHeap := x.Y (x.T.map b) c
def Chn.at (L : Nat → Bool) (b : Ids) (x : Chn) : DHeap := x.X b (cntL L x.T)
def chnH (L : Nat → Bool) (b : Ids) (xs : List Chn) : DHeap := (xs.map (Chn.at L b)).flatten
inductive NeedG (D : List (Ids → ORes)) (s : List (Nat × DV)) (b : Ids) : List (Nat ⊕ Nat) → List (Nat × DV) → Prop
  | nil : NeedG D s b [] []
  | inl {j : Nat} {ss : List (Nat ⊕ Nat)} {nd : List (Nat × DV)} {r : Ids → ORes} (k t : Nat) (d : DV) (hk : k + j + 1 = D.length) (h : D[k]? = some r) (h2 : r b = some (t, d)) (q : NeedG D s b ss nd) : NeedG D s b (.inl j :: ss) ((t, d) :: nd)
  | inr {t : Nat} {ss : List (Nat ⊕ Nat)} {nd : List (Nat × DV)} (d : DV) (h : getL s t = some d) (q : NeedG D s b ss nd) : NeedG D s b (.inr t :: ss) ((t, d) :: nd)
/-- What each operation does. 'none': it reads alone; 'some (m, c)': it is number c of chain m. -/
inductive GOk (C : Ctx) (ops : Array Oper) (n : Nat) (base : DHeap) (s : List (Nat × DV)) (xs : List Chn) : List (Ids → ORes) → List Oper → List (List (Nat ⊕ Nat)) → List (Option (Nat × Nat)) → List (List Nat) → List (Ids → ORes) → Prop
  | nil {D : List (Ids → ORes)} : GOk C ops n base s xs D [] [] [] [] []
  | pure {D E : List (Ids → ORes)} {o : Oper} {os : List Oper} {ss : List (Nat ⊕ Nat)} {sss : List (List (Nat ⊕ Nat))} {cls : List (Option (Nat × Nat))} {Ss : List (List Nat)} (S : List Nat) (g : List Nat → ORes) {nd : Ids → List (Nat × DV)} (hj : inlB D.length ss = true) (hn : ∀ b, NeedG D s b ss (nd b))
      (h : ∀ b rest ext, SOps C ops [o] ⟨n, nd b ++ rest, base ++ ext⟩ (fun st' => st' = ⟨n, (g (S.map b)).toList ++ (nd b ++ rest), base ++ ext⟩)) (k : GOk C ops n base s xs ((fun b => g (S.map b)) :: D) os sss cls Ss E) : GOk C ops n base s xs D (o :: os) (ss :: sss) (none :: cls) (S :: Ss) ((fun b => g (S.map b)) :: E)
  | act {D E : List (Ids → ORes)} {o : Oper} {os : List Oper} {ss : List (Nat ⊕ Nat)} {sss : List (List (Nat ⊕ Nat))} {cls : List (Option (Nat × Nat))} {Ss : List (List Nat)} {m c : Nat} {x : Chn} (S : List Nat) (g : List Nat → ORes) {nd : Ids → List (Nat × DV)} (hx : xs[m]? = some x) (hc : x.T[c]? = some D.length) (hj : inlB D.length ss = true) (hn : ∀ b, NeedG D s b ss (nd b))
      (h : ∀ b rest ext, SOps C ops [o] ⟨n, nd b ++ rest, base ++ (x.X b c ++ ext)⟩ (fun st' => ∃ b', (∀ k, k ≠ D.length → b' k = b k) ∧ (⟨n, (g (S.map b')).toList ++ (nd b ++ rest), base ++ (x.X b' (c + 1) ++ ext)⟩ : St).Le st')) (k : GOk C ops n base s xs ((fun b => g (S.map b)) :: D) os sss cls Ss E) :
      GOk C ops n base s xs D (o :: os) (ss :: sss) (some (m, c) :: cls) (S :: Ss) ((fun b => g (S.map b)) :: E)
theorem needO_more {D E : List ORes} {s : List (Nat × DV)} : ∀ {ss : List (Nat ⊕ Nat)}, inlB D.length ss = true → needO (D ++ E) s ss = needO D s ss
  | [], _ => rfl
  | .inl j :: r, h => by
    simp only [inlB, List.all_cons, Bool.and_eq_true] at h
    have hj := Nat.le_of_ble_eq_true h.1
    simp only [needO, List.getElem?_append_left (show j < D.length from hj), needO_more (E := E) (s := s) (ss := r) h.2]
  | .inr t :: r, h => by
    simp only [inlB, List.all_cons, Bool.and_eq_true] at h
    simp only [needO, needO_more (E := E) (s := s) (ss := r) h.2]
theorem NeedG.eq {D : List (Ids → ORes)} {s : List (Nat × DV)} {b : Ids} : ∀ {ss : List (Nat ⊕ Nat)} {nd : List (Nat × DV)}, NeedG D s b ss nd → needO (D.reverse.map (fun r => r b)) s ss = nd
  | _, _, .nil => rfl
  | _, _, .inl (j := j) (r := r) k t d hk h h2 q => by
    have e : (D.reverse.map (fun r => r b))[j]? = some (some (t, d)) := by
      rw [List.getElem?_map, List.getElem?_reverse (by omega), show D.length - 1 - j = k by omega, h]
      simp [h2]
    simp only [needO, e, q.eq]
  | _, _, .inr d h q => by simp only [needO, h, q.eq]
/-- Operation i: its sources, its class, what it does. -/
theorem GOk.at {C : Ctx} {ops : Array Oper} {n : Nat} {base : DHeap} {s : List (Nat × DV)} {xs : List Chn} : ∀ {D E : List (Ids → ORes)} {os : List Oper} {sss : List (List (Nat ⊕ Nat))} {cls : List (Option (Nat × Nat))} {Ss : List (List Nat)}, GOk C ops n base s xs D os sss cls Ss E → ∀ (i : Nat) o, os[i]? = some o →
    ∃ (ss : List (Nat ⊕ Nat)) (cl : Option (Nat × Nat)) (r : Ids → ORes) (nd : Ids → List (Nat × DV)), sss[i]? = some ss ∧ cls[i]? = some cl ∧ E[i]? = some r ∧ (∀ b, needO ((D.reverse ++ E).map (fun r => r b)) s ss = nd b) ∧
      (cl = none → ∀ b rest ext, SOps C ops [o] ⟨n, nd b ++ rest, base ++ ext⟩ (fun st' => st' = ⟨n, (r b).toList ++ (nd b ++ rest), base ++ ext⟩)) ∧
      (∀ m c, cl = some (m, c) → ∃ x, xs[m]? = some x ∧ x.T[c]? = some (D.length + i) ∧ ∀ b rest ext, SOps C ops [o] ⟨n, nd b ++ rest, base ++ (x.X b c ++ ext)⟩ (fun st' => ∃ b', (∀ k, k ≠ D.length + i → b' k = b k) ∧ (⟨n, (r b').toList ++ (nd b ++ rest), base ++ (x.X b' (c + 1) ++ ext)⟩ : St).Le st'))
  | _, _, _, _, _, _, .nil, i, o, hi => by simp at hi
  | D, _, _, _, _, _, .pure (E := E) (ss := ss) S g (nd := nd) hj hn h k, 0, o, hi => by
    simp only [List.getElem?_cons_zero, Option.some.injEq] at hi
    subst hi
    refine ⟨ss, none, fun b => g (S.map b), nd, rfl, rfl, rfl, fun b => ?_, fun _ => h, fun m c e => by cases e⟩
    rw [List.map_append, needO_more (by simpa using hj)]
    exact (hn b).eq
  | D, _, _, _, _, _, .act (E := E) (ss := ss) (m := m) (c := c) (x := x) S g (nd := nd) hx hc hj hn h k, 0, o, hi => by
    simp only [List.getElem?_cons_zero, Option.some.injEq] at hi
    subst hi
    refine ⟨ss, some (m, c), fun b => g (S.map b), nd, rfl, rfl, rfl, fun b => ?_, (fun e => by cases e), fun m' c' e => ?_⟩
    · rw [List.map_append, needO_more (by simpa using hj)]
      exact (hn b).eq
    · simp only [Option.some.injEq, Prod.mk.injEq] at e
      obtain ⟨rfl, rfl⟩ := e
      exact ⟨x, hx, by simpa using hc, h⟩
  | D, _, _, _, _, _, .pure (E := E) S g hj hn h k, i + 1, o, hi => by
    obtain ⟨ss, cl, r', nd, h1, h2, h3, h4, h5, h6⟩ := k.at i o (by simpa using hi)
    refine ⟨ss, cl, r', nd, by simpa using h1, by simpa using h2, by simpa using h3, ?_, h5, ?_⟩
    · simpa using h4
    · simpa [Nat.add_assoc, Nat.add_comm 1 i] using h6
  | D, _, _, _, _, _, .act (E := E) S g hx hc hj hn h k, i + 1, o, hi => by
    obtain ⟨ss, cl, r', nd, h1, h2, h3, h4, h5, h6⟩ := k.at i o (by simpa using hi)
    refine ⟨ss, cl, r', nd, by simpa using h1, by simpa using h2, by simpa using h3, ?_, h5, ?_⟩
    · simpa using h4
    · simpa [Nat.add_assoc, Nat.add_comm 1 i] using h6
/-- The chains are chains; an operation is of at most one of them; what an operation yields hangs on names of such as it waits for. -/
def genB (l : List Oper) (ts : List (Option Nat)) (srcs : List (List (Nat ⊕ Nat))) (Ts : List (List Nat)) (cls : List (Option (Nat × Nat))) (Ss : List (List Nat)) (f : Nat) : Bool :=
  ordB l && distO ts && (Ts.all (fun T => distB T && T.all (fun x => Nat.blt x l.length) && (T.zip (T.drop 1)).all (fun p => memB (reqF l f p.2) p.1))) &&
  (l.zipIdx).all (fun p => match srcs[p.2]? with
    | some ss => ss.all (srcO l ts p.2 p.1)
    | none => true) &&
  (List.range l.length).all (fun i => match cls[i]? with
    | some (some (m, _)) => (Ts.zipIdx).all (fun p => Nat.beq p.2 m || !memB p.1 i)
    | some none => Ts.all (fun T => !memB T i)
    | none => false) &&
  (l.zipIdx).all (fun p => match Ss[p.2]? with
    | some S => S.all (fun k => Nat.beq k p.2 || afterB p.1 k)
    | none => false)
theorem chnH_congr {L L' : Nat → Bool} {b b' : Ids} : ∀ {xs : List Chn}, (∀ x ∈ xs, Chn.at L b x = Chn.at L' b' x) → chnH L b xs = chnH L' b' xs := fun {xs} h => by
  unfold chnH
  rw [List.map_congr_left h]
theorem chnH_out {L : Nat → Bool} {b : Ids} : ∀ {xs : List Chn} {m : Nat} {x : Chn}, xs[m]? = some x → (chnH L b xs).Perm (Chn.at L b x ++ chnH L b (xs.eraseIdx m))
  | [], _, _, h => by simp at h
  | y :: xs, 0, x, h => by
    simp only [List.getElem?_cons_zero, Option.some.injEq] at h
    subst h
    exact .refl _
  | y :: xs, m + 1, x, h => by
    have := chnH_out (L := L) (b := b) (xs := xs) (m := m) (by simpa using h)
    show (Chn.at L b y ++ chnH L b xs).Perm (Chn.at L b x ++ (Chn.at L b y ++ chnH L b (xs.eraseIdx m)))
    refine (this.append_left _).trans ?_
    rw [← List.append_assoc, ← List.append_assoc]
    exact List.Perm.append_right _ List.perm_append_comm
theorem mem_eraseIdx_ne {α : Type} {xs : List α} {m : Nat} {y : α} (h : y ∈ xs.eraseIdx m) : ∃ j, j ≠ m ∧ xs[j]? = some y := by
  rw [List.mem_eraseIdx_iff_getElem?] at h
  exact h
theorem GOk.dep {C : Ctx} {ops : Array Oper} {n : Nat} {base : DHeap} {s : List (Nat × DV)} {xs : List Chn} {D E : List (Ids → ORes)} {os : List Oper} {sss : List (List (Nat ⊕ Nat))} {cls : List (Option (Nat × Nat))} {Ss : List (List Nat)} (h : GOk C ops n base s xs D os sss cls Ss E) :
    E.length = os.length ∧ ∀ (j : Nat) r S, E[j]? = some r → Ss[j]? = some S → ∀ b b', (∀ k ∈ S, b k = b' k) → r b = r b' := by
  induction h with
  | nil => exact ⟨rfl, fun j r S h => by simp at h⟩
  | pure S g _ _ _ _ ih =>
    refine ⟨by simp [ih.1], fun j r S' h1 h2 b b' hb => ?_⟩
    cases j with
    | zero =>
      simp only [List.getElem?_cons_zero, Option.some.injEq] at h1 h2
      subst h1; subst h2
      show g (S.map b) = g (S.map b')
      rw [List.map_congr_left hb]
    | succ j => exact ih.2 j r S' (by simpa using h1) (by simpa using h2) b b' hb
  | act S g _ _ _ _ _ _ ih =>
    refine ⟨by simp [ih.1], fun j r S' h1 h2 b b' hb => ?_⟩
    cases j with
    | zero =>
      simp only [List.getElem?_cons_zero, Option.some.injEq] at h1 h2
      subst h1; subst h2
      show g (S.map b) = g (S.map b')
      rw [List.map_congr_left hb]
    | succ j => exact ih.2 j r S' (by simpa using h1) (by simpa using h2) b b' hb
theorem SCode.drawGen {C : Ctx} {id : Nat} {l : List Oper} {n : Nat} {s : List (Nat × DV)} {H : DHeap} {Q : Exit → St → Prop} {D : List (Ids → ORes)} (hm : C.P.follows .mixedOrders = true) (f : Nat) (ts : List (Option Nat)) (srcs : List (List (Nat ⊕ Nat))) (cls : List (Option (Nat × Nat))) (Ss : List (List Nat)) (base : DHeap) (xs : List Chn)
    (hB : genB l ts srcs (xs.map (·.T)) cls Ss f = true) (hH : ∀ b, (base ++ (xs.map (fun x => x.X b 0)).flatten).Perm H)
    (hops : GOk C l.toArray n base s xs [] l srcs cls Ss D) (hts : ∀ b, D.map (fun r => (r b).map (·.1)) = ts)
    (hQ : ∀ b, Q .normal ⟨n, resO (D.map (fun r => r b)) ++ s, base ++ (xs.map (fun x => x.X b x.T.length)).flatten⟩) : SCode C (.region id l.toArray true) ⟨n, s, H⟩ Q := by
  obtain ⟨hDl, hS⟩ := hops.dep
  have hX : ∀ x ∈ xs, ∀ b b', (∀ k ∈ x.T, b k = b' k) → ∀ c, x.X b c = x.X b' c := fun x _ b b' h c => by unfold Chn.X; rw [List.map_congr_left h]
  simp only [genB, Bool.and_eq_true, List.all_eq_true] at hB
  obtain ⟨⟨⟨⟨⟨hord, hdist⟩, hTs⟩, hsrc⟩, hcls⟩, hSs⟩ := hB
  have hdB : ∀ b, distO ((D.map (fun r => r b)).map (fun x => x.map (·.1))) = true := fun b => by
    have := hts b
    rw [List.map_map, show ((fun x : ORes => x.map (·.1)) ∘ fun r : Ids → ORes => r b) = (fun r => (r b).map (·.1)) from rfl, this]; exact hdist
  have hlen : ∀ i o, l[i]? = some o → ∃ r, D[i]? = some r := fun i o hi => by
    obtain ⟨_, _, r, _, _, _, h, _⟩ := hops.at i o hi
    exact ⟨r, h⟩
  have hT : ∀ x ∈ xs, x.T.Nodup ∧ (∀ y ∈ x.T, y < l.length) ∧ ∀ (j : Nat) u v, x.T[j]? = some u → x.T[j + 1]? = some v → u ∈ reqF l f v := fun x hx => by
    have := hTs x.T (List.mem_map.2 ⟨x, hx, rfl⟩)
    obtain ⟨⟨h1, h2⟩, h3⟩ := this
    refine ⟨distB_spec _ h1, fun y hy => by simpa using h2 y hy, fun j u v hu hv => ?_⟩
    have := h3 (u, v) (by
      rw [List.mem_iff_getElem?]
      refine ⟨j, ?_⟩
      rw [List.getElem?_zip_eq_some]
      exact ⟨hu, by rw [List.getElem?_drop, Nat.add_comm]; exact hv⟩)
    exact memB_iff.1 this
  refine SCode.drawAny hm hord (fun L st' => ∃ b, (⟨n, pickO L 0 (D.map (fun r => r b)) s, base ++ chnH L b xs⟩ : St).Le st') ?_ ?_ ?_
  · refine ⟨fun _ => 0, ?_⟩
    rw [pickO_false]
    refine ⟨rfl, fun t d h => .inl h, H, ?_, .refl _⟩
    have e : chnH (fun _ => false) (fun _ => 0) xs = (xs.map (fun x => x.X (fun _ => 0) 0)).flatten := by
      unfold chnH Chn.at
      congr 1
      refine List.map_congr_left (fun x _ => ?_)
      rw [show cntL (fun _ => false) x.T = 0 by simp [cntL]]
    show (base ++ chnH (fun _ => false) (fun _ => 0) xs).Perm H
    rw [e]; exact hH _
  · intro L st' i o hi hLi hinv haft hbef hcl
    obtain ⟨b, hle⟩ := hinv
    have hil := (List.getElem?_eq_some_iff.1 hi).1
    obtain ⟨ss, cl, r, nd, h1, h2, h3, h4, h5, h6⟩ := hops.at i o hi
    have hreq : ∀ x ∈ reqF l f i, L x = true := fun x hx => by
      cases f with
      | zero => simp [reqF] at hx
      | succ f =>
        simp only [reqF, hi] at hx
        rcases List.mem_append.1 hx with hx | hx
        · exact haft x (by simpa using (List.mem_filter.1 hx).2)
        · obtain ⟨js, hjs, hjx⟩ := List.mem_flatten.1 hx
          obtain ⟨y, hy, rfl⟩ := List.mem_map.1 hjs
          exact reqF_spec hcl f y (haft y (by simpa using (List.mem_filter.1 hy).2)) x hjx
    refine SOps.weaken hle ?_
    have hneed : ∀ t d, getL (nd b) t = some d → getL (pickO L 0 (D.map (fun r => r b)) s) t = some d := by
      have hn := h4 b
      simp only [List.reverse_nil, List.nil_append] at hn
      have hchk := hsrc (o, i) (by rw [List.mem_iff_getElem?]; exact ⟨i, by simp [List.getElem?_zipIdx, hi]⟩)
      simp only [h1, List.all_eq_true] at hchk
      rw [← hn]
      have key : ∀ (ss : List (Nat ⊕ Nat)), (∀ x ∈ ss, srcO l ts i o x = true) → ∀ t d, getL (needO (D.map (fun r => r b)) s ss) t = some d → getL (pickO L 0 (D.map (fun r => r b)) s) t = some d := by
        intro ss
        induction ss with
        | nil => intro _ t d h; simp [needO, getL] at h
        | cons x ss ih =>
          intro hx t d h
          have ih' := ih (fun y hy => hx y (List.mem_cons_of_mem _ hy)) t d
          have hx0 := hx x (List.mem_cons_self ..)
          cases x with
          | inl j =>
            simp only [srcO] at hx0
            simp only [needO] at h
            split at h
            · rename_i q hq
              rw [getL_cons] at h
              split at h
              · rename_i e
                subst e
                obtain rfl := Option.some.inj h
                exact pickO_some _ 0 j s q (hdB b) hq (by simpa using haft j hx0)
              · exact ih' h
            · exact ih' h
          | inr u =>
            simp only [srcO, List.all_eq_true] at hx0
            simp only [needO] at h
            split at h
            · rename_i q hq
              rw [getL_cons] at h
              split at h
              · rename_i e
                simp only at e
                subst e
                obtain rfl := Option.some.inj h
                rw [pickO_none _ 0 s (fun k p hk hp => ?_)]
                · exact hq
                · have h4 := hx0 (some p.1, k) (by
                    rw [List.mem_iff_getElem?]
                    refine ⟨k, ?_⟩
                    rw [← hts b, List.getElem?_zipIdx]
                    simp only [List.getElem?_map] at hk ⊢
                    cases hD : D[k]? with
                    | none => rw [hD] at hk; simp at hk
                    | some rr => rw [hD] at hk; simp at hk; simp [hk])
                  simp only [hp, BEq.rfl, Bool.not_true, Bool.false_or, Bool.or_eq_true] at h4
                  rw [Nat.zero_add]
                  rcases h4 with h4 | h4
                  · rw [Nat.eq_of_beq_eq_true h4]; exact hLi
                  · unfold nthB at h4
                    split at h4
                    · rename_i o' ho'
                      exact hbef k o' ho' h4
                    · cases h4
              · exact ih' h
            · exact ih' h
      exact key ss hchk
    have hnl : ∀ t, getL (nd b ++ pickO L 0 (D.map (fun r => r b)) s) t = getL (pickO L 0 (D.map (fun r => r b)) s) t := by
      intro t
      have : ∀ (nd : List (Nat × DV)), (∀ d, getL nd t = some d → getL (pickO L 0 (D.map (fun r => r b)) s) t = some d) → getL (nd ++ pickO L 0 (D.map (fun r => r b)) s) t = getL (pickO L 0 (D.map (fun r => r b)) s) t := by
        intro nd
        induction nd with
        | nil => intro _; rfl
        | cons q nd ih =>
          intro h
          rw [List.cons_append, getL_cons]
          split
          · rename_i e
            exact (h q.2 (by rw [getL_cons, if_pos e])).symm
          · rename_i e
            exact ih (fun d hd => h d (by rw [getL_cons, if_neg e]; exact hd))
      exact this (nd b) (hneed t)
    have hDi : ∀ b, (D.map (fun r => r b))[i]? = some (r b) := fun b => by simp [h3]
    -- what is known of the slots behind the operation
    have hslots : ∀ b', (∀ k, k ≠ i → b' k = b k) → ∀ t d, getL (pickO (fun k => if k = i then true else L k) 0 (D.map (fun r => r b')) s) t = some d → getL ((r b').toList ++ (nd b ++ pickO L 0 (D.map (fun r => r b)) s)) t = some d := by
      intro b' hb' t d ht
      have hcase : (∃ p, r b' = some p ∧ p.1 = t) ∨ (∀ p, r b' = some p → p.1 ≠ t) := by
        cases hr : r b' with
        | none => exact .inr (fun p h => by cases h)
        | some p =>
          by_cases e : p.1 = t
          · exact .inl ⟨p, rfl, e⟩
          · exact .inr (fun q h => by cases h; exact e)
      rcases hcase with ⟨p, hp, e⟩ | hne
      · subst e
        rw [hp]
        simp only [Option.toList_some, List.singleton_append]
        rw [getL_cons, if_pos rfl]
        rw [pickO_some _ 0 i s p (hdB b') (by rw [hDi, hp]) (by simp)] at ht
        exact ht
      · have e1 : getL ((r b').toList ++ (nd b ++ pickO L 0 (D.map (fun r => r b)) s)) t = getL (nd b ++ pickO L 0 (D.map (fun r => r b)) s) t := by
          cases hr : r b' with
          | none => rfl
          | some p => simp only [Option.toList_some, List.singleton_append]; rw [getL_cons, if_neg (hne p hr)]
        rw [e1, hnl, ← ht]
        refine pickO_set _ _ 0 (by simp) (fun k hk hLk => ?_) (fun k p hk hki => ?_) (fun k p hk hki => ?_)
        · rw [Nat.zero_add] at hk hLk
          simp only [List.getElem?_map]
          cases hDk : D[k]? with
          | none => rfl
          | some rr =>
            simp only [Option.map_some]
            congr 1
            have hkl : k < l.length := by
              rcases Nat.lt_or_ge k l.length with h | h
              · exact h
              · exfalso
                have hlt := (List.getElem?_eq_some_iff.1 hDk).1
                omega
            have hSk := hSs (l[k], k) (by rw [List.mem_iff_getElem?]; exact ⟨k, by simp [List.getElem?_zipIdx, hkl]⟩)
            cases hS' : Ss[k]? with
            | none => rw [hS'] at hSk; cases hSk
            | some S =>
              rw [hS'] at hSk
              simp only [List.all_eq_true, Bool.or_eq_true] at hSk
              refine hS k rr S hDk hS' b' b (fun u hu => hb' u (fun e => ?_))
              subst e
              rcases hSk u hu with h7 | h7
              · exact hk (Nat.eq_of_beq_eq_true h7).symm
              · rw [hcl k _ u (List.getElem?_eq_getElem hkl) hLk h7] at hLi; cases hLi
        · have : k = i := by omega
          subst this
          rw [hDi] at hk
          exact hne p (Option.some.inj hk)
        · have : k = i := by omega
          subst this
          have hb1 := hts b
          have hb2 := hts b'
          have := congrArg (fun x => x[k]?) (hb1.trans hb2.symm)
          simp only [List.getElem?_map, h3, Option.map_some, Option.some.injEq] at this
          rw [hDi] at hk
          rw [Option.some.inj hk] at this
          simp only [Option.map_some] at this
          obtain ⟨q, hq, e⟩ := Option.map_eq_some_iff.1 this.symm
          rw [← e]
          exact hne q hq
    have hci := hcls i (List.mem_range.2 hil)
    rw [h2] at hci
    cases cl with
    | none =>
      simp only [List.all_eq_true] at hci
      have hsame : ∀ x ∈ xs, Chn.at (fun k => if k = i then true else L k) b x = Chn.at L b x := fun x hx => by
        unfold Chn.at
        rw [cnt_set hLi x.T (hT x hx).1]
        have := hci x.T (List.mem_map.2 ⟨x, hx, rfl⟩)
        rw [if_neg (fun hm => by rw [memB_iff.2 hm] at this; cases this), Nat.add_zero]
      refine SOps.weaken (st' := ⟨n, nd b ++ pickO L 0 (D.map (fun r => r b)) s, base ++ chnH L b xs⟩) ⟨rfl, fun t d ht => .inl ((hnl t).symm.trans ht), _, .refl _, .refl _⟩ ((h5 rfl b (pickO L 0 (D.map (fun r => r b)) s) (chnH L b xs)).mono ?_)
      rintro st2 rfl
      exact ⟨b, rfl, fun t d ht => .inl (hslots b (fun _ _ => rfl) t d ht), _, by rw [chnH_congr hsame], .refl _⟩
    | some mc =>
      obtain ⟨m, c⟩ := mc
      obtain ⟨x, hx, hc, hstep⟩ := h6 m c rfl
      simp only [List.length_nil, Nat.zero_add] at hc hstep
      simp only [List.all_eq_true] at hci
      have hxm := List.mem_of_getElem? hx
      obtain ⟨t1, t2, t3⟩ := hT x hxm
      have hpre := cnt_prefix (L := L) x.T (fun j u v hu hv hLv => reqF_spec hcl f v hLv u (t3 j u v hu hv))
      have hcnt : cntL L x.T = c := by
        have h7 := hpre c i hc
        have h8 : ¬ c < cntL L x.T := fun h => by rw [h7.2 h] at hLi; cases hLi
        rcases Nat.eq_zero_or_pos c with h0 | h0
        · omega
        · have hlt := (List.getElem?_eq_some_iff.1 hc).1
          have h9 := t3 (c - 1) _ i (List.getElem?_eq_getElem (by omega)) (by rw [show c - 1 + 1 = c by omega]; exact hc)
          have := (hpre (c - 1) _ (List.getElem?_eq_getElem (by omega))).1 (hreq _ h9)
          omega
      have hmem : i ∈ x.T := List.mem_of_getElem? hc
      have hnot : ∀ j y, j ≠ m → xs[j]? = some y → i ∉ y.T := fun j y hj hy hm => by
        have := hci (y.T, j) (by
          rw [List.mem_iff_getElem?]
          exact ⟨j, by rw [List.getElem?_zipIdx, List.getElem?_map, hy]; simp⟩)
        simp only [Bool.or_eq_true] at this
        rcases this with h | h
        · exact hj (Nat.eq_of_beq_eq_true h)
        · rw [memB_iff.2 hm] at h; cases h
      have hat : Chn.at L b x = x.X b c := by unfold Chn.at; rw [hcnt]
      have hp := chnH_out (L := L) (b := b) hx
      rw [hat] at hp
      refine SOps.weaken (st' := ⟨n, nd b ++ pickO L 0 (D.map (fun r => r b)) s, base ++ (x.X b c ++ chnH L b (xs.eraseIdx m))⟩) ⟨rfl, fun t d ht => .inl ((hnl t).symm.trans ht), _, List.Perm.append_left _ hp.symm, .refl _⟩ ((hstep b (pickO L 0 (D.map (fun r => r b)) s) (chnH L b (xs.eraseIdx m))).mono ?_)
      rintro st2 ⟨b', hb', hle2⟩
      refine ⟨b', hle2.n, fun t d ht => ?_, ?_⟩
      · exact hle2.slots t d (hslots b' hb' t d ht)
      · obtain ⟨l2, p1, p2⟩ := hle2.heap
        refine ⟨l2, ?_, p2⟩
        refine List.Perm.trans ?_ p1
        have hp' := chnH_out (L := fun k => if k = i then true else L k) (b := b') hx
        have hat' : Chn.at (fun k => if k = i then true else L k) b' x = x.X b' (c + 1) := by
          unfold Chn.at
          rw [cnt_set hLi x.T t1, if_pos hmem, hcnt]
        have hrest : chnH (fun k => if k = i then true else L k) b' (xs.eraseIdx m) = chnH L b (xs.eraseIdx m) := chnH_congr (fun y hy => by
          obtain ⟨j, hj, hyj⟩ := mem_eraseIdx_ne hy
          have hni := hnot j y hj hyj
          have hym := List.mem_of_getElem? hyj
          unfold Chn.at
          rw [cnt_set hLi y.T (hT y hym).1, if_neg hni, Nat.add_zero]
          exact hX y hym b' b (fun k hk => hb' k (fun e => hni (e ▸ hk))) _)
        rw [hat', hrest] at hp'
        exact List.Perm.append_left _ hp'
  · intro L st' hall hinv
    obtain ⟨b, hle⟩ := hinv
    have e : chnH L b xs = (xs.map (fun x => x.X b x.T.length)).flatten := by
      unfold chnH Chn.at
      congr 1
      refine List.map_congr_left (fun x hx => ?_)
      have : cntL L x.T = x.T.length := by
        unfold cntL
        rw [List.filter_eq_self.2 (fun y hy => hall y ((hT x hx).2.1 y hy))]
      rw [this]
    rw [pickO_all _ 0 (fun k _ hk => hall k (by simp at hk; omega)), e] at hle
    exact ⟨_, hle, hQ b⟩
theorem SCode.drawG {C : Ctx} {id : Nat} {l : List Oper} {n : Nat} {s : List (Nat × DV)} {H : DHeap} {Q : Exit → St → Prop} {D : List (Ids → ORes)} (f : Nat) (ts : List (Option Nat)) (srcs : List (List (Nat ⊕ Nat))) (Ts : List (List Nat)) (cls : List (Option (Nat × Nat))) (Ss : List (List Nat)) (base : DHeap) (xs : List Chn) (hm : C.P.follows .mixedOrders = true)
    (hB : genB l ts srcs Ts cls Ss f = true) (hT : xs.map (·.T) = Ts) (hH : ∀ b, (base ++ (xs.map (fun x => x.X b 0)).flatten).Perm H)
    (hops : GOk C l.toArray n base s xs [] l srcs cls Ss D) (hts : ∀ b, D.map (fun r => (r b).map (·.1)) = ts)
    (hQ : ∀ b, Q .normal ⟨n, resO (D.map (fun r => r b)) ++ s, base ++ (xs.map (fun x => x.X b x.T.length)).flatten⟩) : SCode C (.region id l.toArray true) ⟨n, s, H⟩ Q :=
  SCode.drawGen hm f ts srcs cls Ss base xs (by rw [hT]; exact hB) hH hops hts hQ
theorem GOk.rd {C : Ctx} {ops : Array Oper} {n : Nat} {base : DHeap} {s : List (Nat × DV)} {xs : List Chn} {D E : List (Ids → ORes)} {o : Oper} {os : List Oper} {ss : List (Nat ⊕ Nat)} {sss : List (List (Nat ⊕ Nat))} {cls : List (Option (Nat × Nat))} {Ss : List (List Nat)} (t : Nat) (d : DV) {nd : Ids → List (Nat × DV)} (hj : inlB D.length ss = true) (hn : ∀ b, NeedG D s b ss (nd b))
    (h : ∀ b rest ext, SOps C ops [o] ⟨n, nd b ++ rest, base ++ ext⟩ (fun st' => st' = ⟨n, (t, d) :: (nd b ++ rest), base ++ ext⟩)) (k : GOk C ops n base s xs ((fun _ => some (t, d)) :: D) os sss cls Ss E) :
    GOk C ops n base s xs D (o :: os) (ss :: sss) (none :: cls) ([] :: Ss) ((fun _ => some (t, d)) :: E) :=
  GOk.pure [] (fun _ => some (t, d)) hj hn h k
end Go.GH
namespace Go.GH
open Go Go.Proofs
variable {E : Env}
theorem SCode.reSlot {C : Ctx} {c : Code} {st : St} {Q : Exit → St → Prop} {t : Nat} {d d' : DV} (hd : st.get t = some d) (e : d = d') (h : SCode C c ⟨st.n, (t, d') :: st.slots, st.heap⟩ Q) : SCode C c st Q := by
  subst e
  refine SCode.weaken (st' := ⟨st.n, (t, d) :: st.slots, st.heap⟩) ⟨rfl, fun t' d2 h2 => .inl ?_, _, .refl _, .refl _⟩ h
  have h3 : getL ((t, d) :: st.slots) t' = some d2 := h2
  rw [getL_cons] at h3
  split at h3
  · rename_i e
    subst e
    rw [← h3]; exact hd
  · exact h3
theorem app_err {a : List Letter} {r : Rule} {s : ByteArray} (h : ¬ (applyR a r s).2 = 0) : (applyR a r s).1 = ⟨#[]⟩ := by
  unfold applyR resX at h ⊢
  split
  · rename_i h1
    rw [if_pos h1] at h
    split
    · rfl
    · rename_i h2; rw [if_neg h2] at h; exact absurd rfl h
  · rfl
theorem l7Replaces (hV : VS E) (hA : AW7 E) (a : List Letter) (r : Rule) (s : ByteArray) (hr : SmR r) (hs : s.size ≤ 1048576) : GCall Tryd.prog E 6 [DLs a, .agg (encR r), .v (.string s)] [] (fun d H => d = .v (.bool true) ∧ H = []) := by
  refine GCall.body (C := ⟨Tryd.prog, E, true⟩) Tryd.func6 rfl (fun _ => rfl) (by kernel_rfl) rfl ?_
  refine SCode.seqR ?_
  refine SOps.boxAM rfl rfl ?_
  refine SOps.assign rfl ?_
  refine SOps.nil ?_
  refine SCode.seq ?_
  refine SCode.seqR ?_
  refine SOps.move rfl ?_
  refine SOps.loadPinA rfl aggB_25_6 (Nat.le_of_ble_eq_true rfl) ?_
  refine SOps.move rfl ?_
  refine SOps.callP (lSmall _ _ _) rfl ?_
  rintro _ rfl
  refine SOps.un rfl rfl ?_
  refine SOps.nil ?_
  refine SCode.cond rfl (fun hc1 => ?_) (fun hc1 => ?_)
  · try simp only [decide_eq_true_eq, decide_eq_false_iff_not, Bool.not_eq_true', Bool.not_eq_false', beq_iff_eq, bne_iff_ne, ne_eq, beq_eq_false_iff_ne, bne_eq_false_iff_eq, Int.not_lt, Int.not_le, Nat.not_lt, Nat.not_le, Int.ofNat_lt, Int.ofNat_le, Bool.not_eq_eq_eq_not, Bool.not_true, Bool.not_false] at hc1
    refine SCode.seqR ?_
    refine SOps.callP hA rfl ?_
    rintro _ rfl
    refine SOps.assign rfl ?_
    refine SOps.nil ?_
    refine SCode.ret ?_
    exact ⟨_, Res.one (.tmp rfl), rfl, rfl⟩
  · try simp only [decide_eq_true_eq, decide_eq_false_iff_not, Bool.not_eq_true', Bool.not_eq_false', beq_iff_eq, bne_iff_ne, ne_eq, beq_eq_false_iff_ne, bne_eq_false_iff_eq, Int.not_lt, Int.not_le, Nat.not_lt, Nat.not_le, Int.ofNat_lt, Int.ofNat_le, Bool.not_eq_eq_eq_not, Bool.not_true, Bool.not_false] at hc1
    refine SCode.skip ?_
    show SCode _ _ _ _
    refine SCode.seqR ?_
    refine SOps.move rfl ?_
    refine SOps.loadPinA rfl aggB_25_6 (Nat.le_of_ble_eq_true rfl) ?_
    refine SOps.move rfl ?_
    refine SOps.callP (rApply hV _ _ _ (by assumption) (by assumption)) rfl ?_
    rintro _ rfl
    refine SOps.move rfl ?_
    refine SOps.extract rfl rfl ?_
    refine SOps.extract rfl rfl ?_
    refine SOps.assign rfl ?_
    refine SOps.assign rfl ?_
    refine SOps.nil ?_
    refine SCode.seq ?_
    refine SCode.seqR ?_
    refine SOps.move rfl ?_
    refine SOps.bin rfl rfl rfl ?_
    refine SOps.nil ?_
    refine SCode.cond rfl (fun hc2 => ?_) (fun hc2 => ?_)
    · try simp only [decide_eq_true_eq, decide_eq_false_iff_not, Bool.not_eq_true', Bool.not_eq_false', beq_iff_eq, bne_iff_ne, ne_eq, beq_eq_false_iff_ne, bne_eq_false_iff_eq, Int.not_lt, Int.not_le, Nat.not_lt, Nat.not_le, Int.ofNat_lt, Int.ofNat_le, Bool.not_eq_eq_eq_not, Bool.not_true, Bool.not_false] at hc2
      refine SCode.seqR ?_
      have hcn : ¬ (applyR a r s).2 = 0 := by simp_all
      refine SOps.callP hA rfl ?_
      rintro _ rfl
      refine SOps.move rfl ?_
      refine SOps.move rfl ?_
      refine SOps.bin rfl rfl rfl ?_
      refine SOps.reSlot (t := 35) rfl (show _ = DV.v (.bool true) from congrArg (fun b => DV.v (.bool b)) (by rw [app_err hcn]; first | exact decide_eq_true rfl | exact beq_self_eq_true _)) ?_
      refine SOps.pick rfl rfl ?_
      refine SOps.assign rfl ?_
      refine SOps.nil ?_
      refine SCode.ret ?_
      exact ⟨_, Res.one (.tmp rfl), rfl, rfl⟩
    · try simp only [decide_eq_true_eq, decide_eq_false_iff_not, Bool.not_eq_true', Bool.not_eq_false', beq_iff_eq, bne_iff_ne, ne_eq, beq_eq_false_iff_ne, bne_eq_false_iff_eq, Int.not_lt, Int.not_le, Nat.not_lt, Nat.not_le, Int.ofNat_lt, Int.ofNat_le, Bool.not_eq_eq_eq_not, Bool.not_true, Bool.not_false] at hc2
      refine SCode.skip ?_
      show SCode _ _ _ _
      refine SCode.seq ?_
      apply SCode.drawAuto mixed_ [37, 38, 39, 40, 41, 42, 43, 9, 10, 11] [[.inr 2], [.inl 0], [.inr 7], [.inl 2], [.inr 4], [.inl 4], [.inl 5], [.inl 1], [.inl 3], [.inl 6]]
      · kernel_rfl
      · kernel_rfl
      · apply DOk.cons 37 
        · rfl
        · exact (NeedIs.inr _ rfl NeedIs.nil)
        · intro rest
          refine SOps.move rfl ?_
          exact SOps.nil rfl
        apply DOk.cons 38 
        · rfl
        · exact (NeedIs.inl 0 _ _ rfl rfl NeedIs.nil)
        · intro rest
          refine SOps.runesF rfl rfl strB_9 sliceB_35_21_1 intB_21_i32 ?_
          exact SOps.nil rfl
        apply DOk.cons 39 
        · rfl
        · exact (NeedIs.inr _ rfl NeedIs.nil)
        · intro rest
          refine SOps.move rfl ?_
          exact SOps.nil rfl
        apply DOk.cons 40 
        · rfl
        · exact (NeedIs.inl 0 _ _ rfl rfl NeedIs.nil)
        · intro rest
          refine SOps.runesF rfl rfl strB_9 sliceB_35_21_1 intB_21_i32 ?_
          exact SOps.nil rfl
        apply DOk.cons 41 
        · rfl
        · exact (NeedIs.inr _ rfl NeedIs.nil)
        · intro rest
          refine SOps.fieldPin rfl fieldB_25_1_1 ?_
          exact SOps.nil rfl
        apply DOk.cons 42 
        · rfl
        · exact (NeedIs.inl 0 _ _ rfl rfl NeedIs.nil)
        · intro rest
          refine SOps.loadPin rfl flatB_9 ?_
          exact SOps.nil rfl
        apply DOk.cons 43 
        · rfl
        · exact (NeedIs.inl 0 _ _ rfl rfl NeedIs.nil)
        · intro rest
          refine SOps.runesF rfl rfl strB_9 sliceB_35_21_1 intB_21_i32 ?_
          exact SOps.nil rfl
        apply DOk.cons 9 
        · rfl
        · exact (NeedIs.inl 5 _ _ rfl rfl NeedIs.nil)
        · intro rest
          refine SOps.assign rfl ?_
          exact SOps.nil rfl
        apply DOk.cons 10 
        · rfl
        · exact (NeedIs.inl 4 _ _ rfl rfl NeedIs.nil)
        · intro rest
          refine SOps.assign rfl ?_
          exact SOps.nil rfl
        apply DOk.cons 11 
        · rfl
        · exact (NeedIs.inl 2 _ _ rfl rfl NeedIs.nil)
        · intro rest
          refine SOps.assign rfl ?_
          exact SOps.nil rfl
        exact DOk.nil
      · rfl
      · show SCode _ _ _ _
        refine SCode.seqR ?_
        have hcz : (applyR a r s).2 = 0 := by simp_all
        obtain ⟨hok, hpc0⟩ := PieceOK.start hcz
        obtain ⟨hso, hsi⟩ := pieces_site (a := a) (r := r) (s := s)
        obtain ⟨h4, h40, hu8⟩ := okR_to hok
        have hto : encs (runes r.«to») = r.«to» := encs_runes hu8
        have hvr : validR a r = true := by have h := hok; simp only [okR, Bool.and_eq_true] at h; exact h.1
        have hz := resX_size a r s (sitesR a r s)
        have hrv := runes_len (applyR a r s).1
        have hru := runes_len s
        have hzv : (applyR a r s).1.size ≤ 1048576 := hz
        have hsl : (sitesR a r s).length ≤ 1048577 := by unfold sitesR; split <;> first | exact Nat.le_trans (filter_len _ _) (by omega) | exact Nat.zero_le _
        refine SOps.move rfl ?_
        refine SOps.loadPinA rfl aggB_25_6 (Nat.le_of_ble_eq_true rfl) ?_
        refine SOps.move rfl ?_
        refine SOps.callP (rSites hV a r s hr hs) rfl ?_
        rintro _ rfl
        refine SOps.assign rfl ?_
        refine SOps.nil ?_
        refine SCode.seqR ?_
        refine SOps.assign rfl ?_
        refine SOps.assign rfl ?_
        refine SOps.nil ?_
        refine SCode.seq ?_
        refine SCode.seqR ?_
        refine SOps.assign rfl ?_
        refine SOps.nil ?_
        refine SCode.block ?_
        refine SCode.loop3 (fun (k : Nat) (p : Nat) (q : Nat) => (⟨164, [(0, DLs a), (4, .ipin (encR r)), (9, DRunes (runes s)), (10, .isl false 1 ((runes (applyR a r s).1).map rcell)), (11, .isl false 1 ((runes r.«to»).map rcell)), (12, DNats (sitesR a r s)), (13, .v (.int .i64 ((p : Nat) : Int))), (14, .v (.int .i64 ((q : Nat) : Int))), (15, .v (.int .i64 ((k : Nat) : Int)))], []⟩ : St)) (fun (k : Nat) (p : Nat) (q : Nat) => k ≤ (sitesR a r s).length ∧ PieceOK r (runes s) (runes (applyR a r s).1) (sitesR a r s) p q k) (fun (k : Nat) (p : Nat) (q : Nat) => (sitesR a r s).length + 1 - k) (0) (0) (0) (by exact ⟨Nat.zero_le _, hpc0⟩) (St.Le.of ⟨(by first | rfl | (show some _ = some _; simp)), (by first | rfl | (show some _ = some _; simp)), (by first | rfl | (show some _ = some _; simp)), (by first | rfl | (show some _ = some _; simp)), (by first | rfl | (show some _ = some _; simp)), (by first | rfl | (show some _ = some _; simp)), (by first | rfl | (show some _ = some _; simp)), (by first | rfl | (show some _ = some _; simp)), (by first | rfl | (show some _ = some _; simp)), trivial⟩ rfl (by first | rfl | (simp))) ?_
        rintro k p q ⟨hk, hpc⟩
        have hqu := hpc.qle
        have hpv := hpc.ple
        refine SCode.seq ?_
        refine SCode.seqR ?_
        refine SOps.move rfl ?_
        refine SOps.move rfl ?_
        refine SOps.lenM rfl sliceB_30_3_1 ?_
        refine SOps.bin rfl rfl rfl ?_
        refine SOps.nil ?_
        refine SCode.cond rfl (fun hc3 => ?_) (fun hc3 => ?_)
        · try simp only [decide_eq_true_eq, decide_eq_false_iff_not, Bool.not_eq_true', Bool.not_eq_false', beq_iff_eq, bne_iff_ne, ne_eq, beq_eq_false_iff_ne, bne_eq_false_iff_eq, Int.not_lt, Int.not_le, Nat.not_lt, Nat.not_le, Int.ofNat_lt, Int.ofNat_le, Bool.not_eq_eq_eq_not, Bool.not_true, Bool.not_false] at hc3
          refine SCode.skip ?_
          show SCode _ _ _ _
          refine SCode.seq ?_
          refine SCode.block ?_
          refine SCode.seqR ?_
          refine SOps.move rfl ?_
          refine SOps.lenM rfl sliceB_35_21_1 ?_
          refine SOps.assign rfl ?_
          refine SOps.nil ?_
          refine SCode.seq ?_
          refine SCode.seqR ?_
          refine SOps.move rfl ?_
          refine SOps.move rfl ?_
          refine SOps.lenM rfl sliceB_30_3_1 ?_
          refine SOps.bin rfl rfl rfl ?_
          refine SOps.nil ?_
          refine SCode.cond rfl (fun hc4 => ?_) (fun hc4 => ?_)
          · try simp only [decide_eq_true_eq, decide_eq_false_iff_not, Bool.not_eq_true', Bool.not_eq_false', beq_iff_eq, bne_iff_ne, ne_eq, beq_eq_false_iff_ne, bne_eq_false_iff_eq, Int.not_lt, Int.not_le, Nat.not_lt, Nat.not_le, Int.ofNat_lt, Int.ofNat_le, Bool.not_eq_eq_eq_not, Bool.not_true, Bool.not_false] at hc4
            have hka : k < (sitesR a r s).length := by omega
            obtain ⟨n1, n2, n3, n4, n5, n6, n7⟩ := hpc.next hso hsi hka
            obtain ⟨e, he⟩ : ∃ e, (sitesR a r s)[k] = e := ⟨_, rfl⟩
            rw [he] at n1 n2 n3 n4 n5 n6 n7
            have hpe : p + (e - q) ≤ (runes (applyR a r s).1).length := by omega
            refine SCode.region ?_
            refine SOps.move rfl ?_
            refine SOps.move rfl ?_
            refine SOps.indexM (k) rfl rfl sliceB_30_3_1 (by first | omega | (simp only [lenB]; omega)) (by first | omega | (simp only [lenB]; omega)) ?_
            refine SOps.loadPin rfl flatB_3 ?_
            refine SOps.reSlot (t := 63) rfl (show _ = DV.v (.int .i64 ((e : Nat) : Int)) from congrArg (fun z => DV.v (.int .i64 z)) (by rw [he])) ?_
            refine SOps.assign rfl ?_
            refine SOps.nil ?_
            show SCode _ _ _ _
            refine SCode.seq ?_
            refine SCode.seq ?_
            apply SCode.drawAuto mixed_ [64, 65, 66, 67, 68, 69, 70, 71, 72, 73, 74, 75, 76, 77, 78, 79, 80, 81, 82, 83, 84, 85, 86, 87, 88, 89, 90, 91, 92, 93, 94, 95, 96, 97, 98, 99] [[.inr 16], [.inr 14], [.inl 0, .inl 1], [.inl 2], [.inl 3, .inr 16], [.inl 3, .inr 9], [.inl 3, .inl 5], [.inl 3, .inl 4, .inl 6], [.inl 3, .inl 7], [.inl 8], [.inl 9, .inr 13], [.inl 9, .inr 16], [.inl 9, .inl 10, .inl 11], [.inl 9, .inr 14], [.inl 9, .inl 12, .inl 13], [.inl 9, .inr 10], [.inl 9, .inl 15], [.inl 9, .inl 14, .inl 16], [.inl 9, .inl 17], [.inl 18], [.inl 19, .inr 9], [.inl 19, .inr 14], [.inl 19, .inr 16], [.inl 19, .inl 20, .inl 21, .inl 22], [.inl 19, .inl 23], [.inl 19, .inr 10], [.inl 19, .inr 13], [.inl 19, .inr 13], [.inl 19, .inr 16], [.inl 19, .inl 27, .inl 28], [.inl 19, .inr 14], [.inl 19, .inl 29, .inl 30], [.inl 19, .inl 25, .inl 26, .inl 31], [.inl 19, .inl 32], [.inl 19, .inl 24, .inl 33], [.inl 19, .inl 34]]
            · kernel_rfl
            · kernel_rfl
            · apply DOk.cons 64 
              · rfl
              · exact (NeedIs.inr _ rfl NeedIs.nil)
              · intro rest
                refine SOps.move rfl ?_
                exact SOps.nil rfl
              apply DOk.cons 65 
              · rfl
              · exact (NeedIs.inr _ rfl NeedIs.nil)
              · intro rest
                refine SOps.move rfl ?_
                exact SOps.nil rfl
              apply DOk.cons 66 (.v (.bool false))
              · rfl
              · exact (NeedIs.inl 1 _ _ rfl rfl (NeedIs.inl 0 _ _ rfl rfl NeedIs.nil))
              · intro rest
                refine SOps.bin rfl rfl rfl ?_
                exact SOps.nil (congrArg (fun b => St.put _ 66 (.v (.bool b))) (decide_eq_false (by omega)))
              apply DOk.cons 67 
              · rfl
              · exact (NeedIs.inl 0 _ _ rfl rfl NeedIs.nil)
              · intro rest
                refine SOps.move rfl ?_
                exact SOps.nil rfl
              apply DOk.cons 68 
              · rfl
              · exact (NeedIs.inl 0 _ _ rfl rfl (NeedIs.inr _ rfl NeedIs.nil))
              · intro rest
                refine SOps.move rfl ?_
                exact SOps.nil rfl
              apply DOk.cons 69 
              · rfl
              · exact (NeedIs.inl 1 _ _ rfl rfl (NeedIs.inr _ rfl NeedIs.nil))
              · intro rest
                refine SOps.move rfl ?_
                exact SOps.nil rfl
              apply DOk.cons 70 
              · rfl
              · exact (NeedIs.inl 2 _ _ rfl rfl (NeedIs.inl 0 _ _ rfl rfl NeedIs.nil))
              · intro rest
                refine SOps.lenM rfl sliceB_35_21_1 ?_
                exact SOps.nil rfl
              apply DOk.cons 71 (.v (.bool false))
              · rfl
              · exact (NeedIs.inl 3 _ _ rfl rfl (NeedIs.inl 2 _ _ rfl rfl (NeedIs.inl 0 _ _ rfl rfl NeedIs.nil)))
              · intro rest
                refine SOps.bin rfl rfl rfl ?_
                exact SOps.nil (congrArg (fun b => St.put _ 71 (.v (.bool b))) (decide_eq_false (by omega)))
              apply DOk.cons 72 
              · rfl
              · exact (NeedIs.inl 4 _ _ rfl rfl (NeedIs.inl 0 _ _ rfl rfl NeedIs.nil))
              · intro rest
                refine SOps.pick rfl rfl ?_
                exact SOps.nil rfl
              apply DOk.cons 73 
              · rfl
              · exact (NeedIs.inl 0 _ _ rfl rfl NeedIs.nil)
              · intro rest
                refine SOps.move rfl ?_
                exact SOps.nil rfl
              apply DOk.cons 74 
              · rfl
              · exact (NeedIs.inl 0 _ _ rfl rfl (NeedIs.inr _ rfl NeedIs.nil))
              · intro rest
                refine SOps.move rfl ?_
                exact SOps.nil rfl
              apply DOk.cons 75 
              · rfl
              · exact (NeedIs.inl 1 _ _ rfl rfl (NeedIs.inr _ rfl NeedIs.nil))
              · intro rest
                refine SOps.move rfl ?_
                exact SOps.nil rfl
              apply DOk.cons 76 
              · rfl
              · exact (NeedIs.inl 2 _ _ rfl rfl (NeedIs.inl 1 _ _ rfl rfl (NeedIs.inl 0 _ _ rfl rfl NeedIs.nil)))
              · intro rest
                refine SOps.addI rfl rfl (by first | omega | (simp only [lenB]; omega)) (by first | omega | (simp only [lenB]; omega)) ?_
                exact SOps.nil rfl
              apply DOk.cons 77 
              · rfl
              · exact (NeedIs.inl 3 _ _ rfl rfl (NeedIs.inr _ rfl NeedIs.nil))
              · intro rest
                refine SOps.move rfl ?_
                exact SOps.nil rfl
              apply DOk.cons 78 
              · rfl
              · exact (NeedIs.inl 4 _ _ rfl rfl (NeedIs.inl 1 _ _ rfl rfl (NeedIs.inl 0 _ _ rfl rfl NeedIs.nil)))
              · intro rest
                refine SOps.subI rfl rfl (by first | omega | (simp only [lenB]; omega)) (by first | omega | (simp only [lenB]; omega)) ?_
                exact SOps.nil rfl
              apply DOk.cons 79 
              · rfl
              · exact (NeedIs.inl 5 _ _ rfl rfl (NeedIs.inr _ rfl NeedIs.nil))
              · intro rest
                refine SOps.move rfl ?_
                exact SOps.nil rfl
              apply DOk.cons 80 
              · rfl
              · exact (NeedIs.inl 6 _ _ rfl rfl (NeedIs.inl 0 _ _ rfl rfl NeedIs.nil))
              · intro rest
                refine SOps.lenM rfl sliceB_35_21_1 ?_
                exact SOps.nil rfl
              apply DOk.cons 81 (.v (.bool false))
              · rfl
              · exact (NeedIs.inl 7 _ _ rfl rfl (NeedIs.inl 2 _ _ rfl rfl (NeedIs.inl 0 _ _ rfl rfl NeedIs.nil)))
              · intro rest
                refine SOps.bin rfl rfl rfl ?_
                exact SOps.nil (congrArg (fun b => St.put _ 81 (.v (.bool b))) (decide_eq_false (by omega)))
              apply DOk.cons 82 
              · rfl
              · exact (NeedIs.inl 8 _ _ rfl rfl (NeedIs.inl 0 _ _ rfl rfl NeedIs.nil))
              · intro rest
                refine SOps.pick rfl rfl ?_
                exact SOps.nil rfl
              apply DOk.cons 83 
              · rfl
              · exact (NeedIs.inl 0 _ _ rfl rfl NeedIs.nil)
              · intro rest
                refine SOps.move rfl ?_
                exact SOps.nil rfl
              apply DOk.cons 84 
              · rfl
              · exact (NeedIs.inl 0 _ _ rfl rfl (NeedIs.inr _ rfl NeedIs.nil))
              · intro rest
                refine SOps.move rfl ?_
                exact SOps.nil rfl
              apply DOk.cons 85 
              · rfl
              · exact (NeedIs.inl 1 _ _ rfl rfl (NeedIs.inr _ rfl NeedIs.nil))
              · intro rest
                refine SOps.move rfl ?_
                exact SOps.nil rfl
              apply DOk.cons 86 
              · rfl
              · exact (NeedIs.inl 2 _ _ rfl rfl (NeedIs.inr _ rfl NeedIs.nil))
              · intro rest
                refine SOps.move rfl ?_
                exact SOps.nil rfl
              apply DOk.cons 87 
              · rfl
              · exact (NeedIs.inl 3 _ _ rfl rfl (NeedIs.inl 2 _ _ rfl rfl (NeedIs.inl 1 _ _ rfl rfl (NeedIs.inl 0 _ _ rfl rfl NeedIs.nil))))
              · intro rest
                refine SOps.sliceM (n1 := 0) (q) (e) sliceB_35_21_1 rfl (.at (q) rfl (by first | omega | (simp only [lenB]; omega))) (.at (e) rfl (by first | omega | (simp only [lenB]; omega))) (by first | omega | (simp only [lenB]; omega)) (by first | omega | (simp only [lenB]; omega)) ?_
                exact SOps.nil rfl
              apply DOk.cons 88 
              · rfl
              · exact (NeedIs.inl 4 _ _ rfl rfl (NeedIs.inl 0 _ _ rfl rfl NeedIs.nil))
              · intro rest
                refine SOps.convRunesStr rfl sliceB_35_21_1 intB_21_i32 strB_9 (by simp [lenB] <;> (first | omega | (simp only [lenB]; omega))) ?_
                exact SOps.nil rfl
              apply DOk.cons 89 
              · rfl
              · exact (NeedIs.inl 5 _ _ rfl rfl (NeedIs.inr _ rfl NeedIs.nil))
              · intro rest
                refine SOps.move rfl ?_
                exact SOps.nil rfl
              apply DOk.cons 90 
              · rfl
              · exact (NeedIs.inl 6 _ _ rfl rfl (NeedIs.inr _ rfl NeedIs.nil))
              · intro rest
                refine SOps.move rfl ?_
                exact SOps.nil rfl
              apply DOk.cons 91 
              · rfl
              · exact (NeedIs.inl 7 _ _ rfl rfl (NeedIs.inr _ rfl NeedIs.nil))
              · intro rest
                refine SOps.move rfl ?_
                exact SOps.nil rfl
              apply DOk.cons 92 
              · rfl
              · exact (NeedIs.inl 8 _ _ rfl rfl (NeedIs.inr _ rfl NeedIs.nil))
              · intro rest
                refine SOps.move rfl ?_
                exact SOps.nil rfl
              apply DOk.cons 93 
              · rfl
              · exact (NeedIs.inl 9 _ _ rfl rfl (NeedIs.inl 1 _ _ rfl rfl (NeedIs.inl 0 _ _ rfl rfl NeedIs.nil)))
              · intro rest
                refine SOps.addI rfl rfl (by first | omega | (simp only [lenB]; omega)) (by first | omega | (simp only [lenB]; omega)) ?_
                exact SOps.nil rfl
              apply DOk.cons 94 
              · rfl
              · exact (NeedIs.inl 10 _ _ rfl rfl (NeedIs.inr _ rfl NeedIs.nil))
              · intro rest
                refine SOps.move rfl ?_
                exact SOps.nil rfl
              apply DOk.cons 95 
              · rfl
              · exact (NeedIs.inl 11 _ _ rfl rfl (NeedIs.inl 1 _ _ rfl rfl (NeedIs.inl 0 _ _ rfl rfl NeedIs.nil)))
              · intro rest
                refine SOps.subI rfl rfl (by first | omega | (simp only [lenB]; omega)) (by first | omega | (simp only [lenB]; omega)) ?_
                exact SOps.nil rfl
              apply DOk.cons 96 
              · rfl
              · exact (NeedIs.inl 12 _ _ rfl rfl (NeedIs.inl 6 _ _ rfl rfl (NeedIs.inl 5 _ _ rfl rfl (NeedIs.inl 0 _ _ rfl rfl NeedIs.nil))))
              · intro rest
                refine SOps.sliceM (n1 := 0) (p) ((p + (e - q))) sliceB_35_21_1 rfl (.at (p) rfl (by first | omega | (simp only [lenB]; omega))) (.at ((p + (e - q))) rfl (by first | omega | (simp only [lenB]; omega))) (by first | omega | (simp only [lenB]; omega)) (by first | omega | (simp only [lenB]; omega)) ?_
                exact SOps.nil rfl
              apply DOk.cons 97 
              · rfl
              · exact (NeedIs.inl 13 _ _ rfl rfl (NeedIs.inl 0 _ _ rfl rfl NeedIs.nil))
              · intro rest
                refine SOps.convRunesStr rfl sliceB_35_21_1 intB_21_i32 strB_9 (by simp [lenB] <;> (first | omega | (simp only [lenB]; omega))) ?_
                exact SOps.nil rfl
              apply DOk.cons 98 (.v (.bool false))
              · rfl
              · exact (NeedIs.inl 14 _ _ rfl rfl (NeedIs.inl 9 _ _ rfl rfl (NeedIs.inl 0 _ _ rfl rfl NeedIs.nil)))
              · intro rest
                refine SOps.bin rfl rfl rfl ?_
                exact SOps.nil (congrArg (fun b => St.put _ 98 (.v (.bool b))) (by rw [n4, show p + (e - q) - p = e - q by omega]; simp))
              apply DOk.cons 99 
              · rfl
              · exact (NeedIs.inl 15 _ _ rfl rfl (NeedIs.inl 0 _ _ rfl rfl NeedIs.nil))
              · intro rest
                refine SOps.pick rfl rfl ?_
                exact SOps.nil rfl
              exact DOk.nil
            · rfl
            · show SCode _ _ _ _
              refine SCode.cond rfl (fun h => by cases h) (fun _ => ?_)
              refine SCode.skip ?_
              show SCode _ _ _ _
              refine SCode.seqR ?_
              refine SOps.move rfl ?_
              refine SOps.move rfl ?_
              refine SOps.addI rfl rfl (by first | omega | (simp only [lenB]; omega)) (by first | omega | (simp only [lenB]; omega)) ?_
              refine SOps.move rfl ?_
              refine SOps.subI rfl rfl (by first | omega | (simp only [lenB]; omega)) (by first | omega | (simp only [lenB]; omega)) ?_
              refine SOps.move rfl ?_
              refine SOps.assign rfl ?_
              refine SOps.assign rfl ?_
              refine SOps.nil ?_
              refine SCode.seq ?_
              refine SCode.seqR ?_
              refine SOps.reSlot (t := 13) rfl (show _ = DV.v (.int .i64 (((p + (e - q)) : Nat) : Int)) from congrArg (fun z => DV.v (.int .i64 z)) (by omega)) ?_
              refine SOps.move rfl ?_
              refine SOps.move rfl ?_
              refine SOps.lenM rfl sliceB_30_3_1 ?_
              refine SOps.bin rfl rfl rfl ?_
              refine SOps.nil ?_
              refine SCode.cond rfl (fun hc5 => ?_) (fun hc5 => ?_)
              · try simp only [decide_eq_true_eq, decide_eq_false_iff_not, Bool.not_eq_true', Bool.not_eq_false', beq_iff_eq, bne_iff_ne, ne_eq, beq_eq_false_iff_ne, bne_eq_false_iff_eq, Int.not_lt, Int.not_le, Nat.not_lt, Nat.not_le, Int.ofNat_lt, Int.ofNat_le, Bool.not_eq_eq_eq_not, Bool.not_true, Bool.not_false] at hc5
                exfalso; omega
              · try simp only [decide_eq_true_eq, decide_eq_false_iff_not, Bool.not_eq_true', Bool.not_eq_false', beq_iff_eq, bne_iff_ne, ne_eq, beq_eq_false_iff_ne, bne_eq_false_iff_eq, Int.not_lt, Int.not_le, Nat.not_lt, Nat.not_le, Int.ofNat_lt, Int.ofNat_le, Bool.not_eq_eq_eq_not, Bool.not_true, Bool.not_false] at hc5
                refine SCode.skip ?_
                show SCode _ _ _ _
                refine SCode.seq ?_
                refine SCode.seq ?_
                apply SCode.drawAuto mixed_ [110, 111, 112, 113, 114, 115, 116, 117, 118, 119, 120, 121, 122, 123, 124, 125, 126, 127, 128, 129] [[.inr 13], [.inr 11], [.inl 1], [.inl 0, .inl 2], [.inr 10], [.inl 4], [.inl 3, .inl 5], [.inl 6], [.inl 7, .inr 10], [.inl 7, .inr 13], [.inl 7, .inr 13], [.inl 7, .inr 11], [.inl 7, .inl 11], [.inl 7, .inl 10, .inl 12], [.inl 7, .inl 8, .inl 9, .inl 13], [.inl 7, .inl 14], [.inl 7, .inr 4], [.inl 7, .inl 16], [.inl 7, .inl 15, .inl 17], [.inl 7, .inl 18]]
                · kernel_rfl
                · kernel_rfl
                · apply DOk.cons 110 
                  · rfl
                  · exact (NeedIs.inr _ rfl NeedIs.nil)
                  · intro rest
                    refine SOps.move rfl ?_
                    exact SOps.nil rfl
                  apply DOk.cons 111 
                  · rfl
                  · exact (NeedIs.inr _ rfl NeedIs.nil)
                  · intro rest
                    refine SOps.move rfl ?_
                    exact SOps.nil rfl
                  apply DOk.cons 112 
                  · rfl
                  · exact (NeedIs.inl 0 _ _ rfl rfl NeedIs.nil)
                  · intro rest
                    refine SOps.lenM rfl sliceB_35_21_1 ?_
                    exact SOps.nil rfl
                  apply DOk.cons 113 
                  · rfl
                  · exact (NeedIs.inl 2 _ _ rfl rfl (NeedIs.inl 0 _ _ rfl rfl NeedIs.nil))
                  · intro rest
                    refine SOps.addI rfl rfl (by first | omega | (simp only [lenB]; omega)) (by first | omega | (simp only [lenB]; omega)) ?_
                    exact SOps.nil rfl
                  apply DOk.cons 114 
                  · rfl
                  · exact (NeedIs.inr _ rfl NeedIs.nil)
                  · intro rest
                    refine SOps.move rfl ?_
                    exact SOps.nil rfl
                  apply DOk.cons 115 
                  · rfl
                  · exact (NeedIs.inl 0 _ _ rfl rfl NeedIs.nil)
                  · intro rest
                    refine SOps.lenM rfl sliceB_35_21_1 ?_
                    exact SOps.nil rfl
                  apply DOk.cons 116 (.v (.bool false))
                  · rfl
                  · exact (NeedIs.inl 2 _ _ rfl rfl (NeedIs.inl 0 _ _ rfl rfl NeedIs.nil))
                  · intro rest
                    refine SOps.bin rfl rfl rfl ?_
                    exact SOps.nil (congrArg (fun b => St.put _ 116 (.v (.bool b))) (decide_eq_false (by omega)))
                  apply DOk.cons 117 
                  · rfl
                  · exact (NeedIs.inl 0 _ _ rfl rfl NeedIs.nil)
                  · intro rest
                    refine SOps.move rfl ?_
                    exact SOps.nil rfl
                  apply DOk.cons 118 
                  · rfl
                  · exact (NeedIs.inl 0 _ _ rfl rfl (NeedIs.inr _ rfl NeedIs.nil))
                  · intro rest
                    refine SOps.move rfl ?_
                    exact SOps.nil rfl
                  apply DOk.cons 119 
                  · rfl
                  · exact (NeedIs.inl 1 _ _ rfl rfl (NeedIs.inr _ rfl NeedIs.nil))
                  · intro rest
                    refine SOps.move rfl ?_
                    exact SOps.nil rfl
                  apply DOk.cons 120 
                  · rfl
                  · exact (NeedIs.inl 2 _ _ rfl rfl (NeedIs.inr _ rfl NeedIs.nil))
                  · intro rest
                    refine SOps.move rfl ?_
                    exact SOps.nil rfl
                  apply DOk.cons 121 
                  · rfl
                  · exact (NeedIs.inl 3 _ _ rfl rfl (NeedIs.inr _ rfl NeedIs.nil))
                  · intro rest
                    refine SOps.move rfl ?_
                    exact SOps.nil rfl
                  apply DOk.cons 122 
                  · rfl
                  · exact (NeedIs.inl 4 _ _ rfl rfl (NeedIs.inl 0 _ _ rfl rfl NeedIs.nil))
                  · intro rest
                    refine SOps.lenM rfl sliceB_35_21_1 ?_
                    exact SOps.nil rfl
                  apply DOk.cons 123 
                  · rfl
                  · exact (NeedIs.inl 5 _ _ rfl rfl (NeedIs.inl 2 _ _ rfl rfl (NeedIs.inl 0 _ _ rfl rfl NeedIs.nil)))
                  · intro rest
                    refine SOps.addI rfl rfl (by first | omega | (simp only [lenB]; omega)) (by first | omega | (simp only [lenB]; omega)) ?_
                    exact SOps.nil rfl
                  apply DOk.cons 124 
                  · rfl
                  · exact (NeedIs.inl 6 _ _ rfl rfl (NeedIs.inl 5 _ _ rfl rfl (NeedIs.inl 4 _ _ rfl rfl (NeedIs.inl 0 _ _ rfl rfl NeedIs.nil))))
                  · intro rest
                    refine SOps.sliceM (n1 := 0) ((p + (e - q))) ((p + (e - q) + (runes r.«to»).length)) sliceB_35_21_1 rfl (.at ((p + (e - q))) rfl (by first | omega | (simp only [lenB]; omega))) (.at ((p + (e - q) + (runes r.«to»).length)) rfl (by first | omega | (simp only [lenB]; omega))) (by first | omega | (simp only [lenB]; omega)) (by first | omega | (simp only [lenB]; omega)) ?_
                    exact SOps.nil rfl
                  apply DOk.cons 125 
                  · rfl
                  · exact (NeedIs.inl 7 _ _ rfl rfl (NeedIs.inl 0 _ _ rfl rfl NeedIs.nil))
                  · intro rest
                    refine SOps.convRunesStr rfl sliceB_35_21_1 intB_21_i32 strB_9 (by simp [lenB] <;> (first | omega | (simp only [lenB]; omega))) ?_
                    exact SOps.nil rfl
                  apply DOk.cons 126 
                  · rfl
                  · exact (NeedIs.inl 8 _ _ rfl rfl (NeedIs.inr _ rfl NeedIs.nil))
                  · intro rest
                    refine SOps.fieldPin rfl fieldB_25_1_1 ?_
                    exact SOps.nil rfl
                  apply DOk.cons 127 
                  · rfl
                  · exact (NeedIs.inl 9 _ _ rfl rfl (NeedIs.inl 0 _ _ rfl rfl NeedIs.nil))
                  · intro rest
                    refine SOps.loadPin rfl flatB_9 ?_
                    exact SOps.nil rfl
                  apply DOk.cons 128 (.v (.bool false))
                  · rfl
                  · exact (NeedIs.inl 10 _ _ rfl rfl (NeedIs.inl 2 _ _ rfl rfl (NeedIs.inl 0 _ _ rfl rfl NeedIs.nil)))
                  · intro rest
                    refine SOps.bin rfl rfl rfl ?_
                    exact SOps.nil (congrArg (fun b => St.put _ 128 (.v (.bool b))) (by rw [show p + (e - q) + (runes r.«to»).length - (p + (e - q)) = (runes r.«to»).length by omega, n5, hto]; simp))
                  apply DOk.cons 129 
                  · rfl
                  · exact (NeedIs.inl 11 _ _ rfl rfl (NeedIs.inl 0 _ _ rfl rfl NeedIs.nil))
                  · intro rest
                    refine SOps.pick rfl rfl ?_
                    exact SOps.nil rfl
                  exact DOk.nil
                · rfl
                · show SCode _ _ _ _
                  refine SCode.cond rfl (fun h => by cases h) (fun _ => ?_)
                  refine SCode.skip ?_
                  show SCode _ _ _ _
                  refine SCode.seqR ?_
                  refine SOps.move rfl ?_
                  refine SOps.move rfl ?_
                  refine SOps.lenM rfl sliceB_35_21_1 ?_
                  refine SOps.addI rfl rfl (by first | omega | (simp only [lenB]; omega)) (by first | omega | (simp only [lenB]; omega)) ?_
                  refine SOps.assign rfl ?_
                  refine SOps.nil ?_
                  refine SCode.seqR ?_
                  refine SOps.reSlot (t := 13) rfl (show _ = DV.v (.int .i64 (((p + (e - q) + (runes r.«to»).length) : Nat) : Int)) from congrArg (fun z => DV.v (.int .i64 z)) (by omega)) ?_
                  refine SOps.fieldPin rfl fieldB_25_0_0 ?_
                  refine SOps.loadPin rfl flatB_21 ?_
                  refine SOps.bin rfl rfl rfl ?_
                  refine SOps.nil ?_
                  refine SCode.cond rfl (fun hc6 => ?_) (fun hc6 => ?_)
                  · try simp only [decide_eq_true_eq, decide_eq_false_iff_not, Bool.not_eq_true', Bool.not_eq_false', beq_iff_eq, bne_iff_ne, ne_eq, beq_eq_false_iff_ne, bne_eq_false_iff_eq, Int.not_lt, Int.not_le, Nat.not_lt, Nat.not_le, Int.ofNat_lt, Int.ofNat_le, Bool.not_eq_eq_eq_not, Bool.not_true, Bool.not_false] at hc6
                    have h0 : ¬ r.fr = 0 := hc6
                    refine SCode.seq ?_
                    refine SCode.seq ?_
                    have heu := n6 h0
                    have hel := (List.getElem?_eq_some_iff.1 heu).1
                    have hue : (runes s)[e] = r.fr := (List.getElem?_eq_some_iff.1 heu).2
                    apply SCode.drawAuto mixed_ [137, 138, 139, 140, 141, 142, 143, 144, 145, 146, 147, 148, 149] [[.inr 14], [.inr 9], [.inl 1], [.inl 0, .inl 2], [.inl 3], [.inl 4, .inr 9], [.inl 4, .inr 14], [.inl 4, .inl 5, .inl 6], [.inl 4, .inl 7], [.inl 4, .inr 4], [.inl 4, .inl 9], [.inl 4, .inl 8, .inl 10], [.inl 4, .inl 11]]
                    · kernel_rfl
                    · kernel_rfl
                    · apply DOk.cons 137 
                      · rfl
                      · exact (NeedIs.inr _ rfl NeedIs.nil)
                      · intro rest
                        refine SOps.move rfl ?_
                        exact SOps.nil rfl
                      apply DOk.cons 138 
                      · rfl
                      · exact (NeedIs.inr _ rfl NeedIs.nil)
                      · intro rest
                        refine SOps.move rfl ?_
                        exact SOps.nil rfl
                      apply DOk.cons 139 
                      · rfl
                      · exact (NeedIs.inl 0 _ _ rfl rfl NeedIs.nil)
                      · intro rest
                        refine SOps.lenM rfl sliceB_35_21_1 ?_
                        exact SOps.nil rfl
                      apply DOk.cons 140 (.v (.bool false))
                      · rfl
                      · exact (NeedIs.inl 2 _ _ rfl rfl (NeedIs.inl 0 _ _ rfl rfl NeedIs.nil))
                      · intro rest
                        refine SOps.bin rfl rfl rfl ?_
                        exact SOps.nil (congrArg (fun b => St.put _ 140 (.v (.bool b))) (beq_eq_false_iff_ne.2 (by omega)))
                      apply DOk.cons 141 
                      · rfl
                      · exact (NeedIs.inl 0 _ _ rfl rfl NeedIs.nil)
                      · intro rest
                        refine SOps.move rfl ?_
                        exact SOps.nil rfl
                      apply DOk.cons 142 
                      · rfl
                      · exact (NeedIs.inl 0 _ _ rfl rfl (NeedIs.inr _ rfl NeedIs.nil))
                      · intro rest
                        refine SOps.move rfl ?_
                        exact SOps.nil rfl
                      apply DOk.cons 143 
                      · rfl
                      · exact (NeedIs.inl 1 _ _ rfl rfl (NeedIs.inr _ rfl NeedIs.nil))
                      · intro rest
                        refine SOps.move rfl ?_
                        exact SOps.nil rfl
                      apply DOk.cons 144 
                      · rfl
                      · exact (NeedIs.inl 2 _ _ rfl rfl (NeedIs.inl 1 _ _ rfl rfl (NeedIs.inl 0 _ _ rfl rfl NeedIs.nil)))
                      · intro rest
                        refine SOps.indexM (e) rfl rfl sliceB_35_21_1 (by first | omega | (simp only [lenB]; omega)) (by first | omega | (simp only [lenB]; omega)) ?_
                        exact SOps.nil rfl
                      apply DOk.cons 145 
                      · rfl
                      · exact (NeedIs.inl 3 _ _ rfl rfl (NeedIs.inl 0 _ _ rfl rfl NeedIs.nil))
                      · intro rest
                        refine SOps.loadPin rfl flatB_21 ?_
                        exact SOps.nil rfl
                      apply DOk.cons 146 
                      · rfl
                      · exact (NeedIs.inl 4 _ _ rfl rfl (NeedIs.inr _ rfl NeedIs.nil))
                      · intro rest
                        refine SOps.fieldPin rfl fieldB_25_0_0 ?_
                        exact SOps.nil rfl
                      apply DOk.cons 147 
                      · rfl
                      · exact (NeedIs.inl 5 _ _ rfl rfl (NeedIs.inl 0 _ _ rfl rfl NeedIs.nil))
                      · intro rest
                        refine SOps.loadPin rfl flatB_21 ?_
                        exact SOps.nil rfl
                      apply DOk.cons 148 (.v (.bool false))
                      · rfl
                      · exact (NeedIs.inl 6 _ _ rfl rfl (NeedIs.inl 2 _ _ rfl rfl (NeedIs.inl 0 _ _ rfl rfl NeedIs.nil)))
                      · intro rest
                        refine SOps.bin rfl rfl rfl ?_
                        exact SOps.nil (congrArg (fun b => St.put _ 148 (.v (.bool b))) (by rw [hue]; simp))
                      apply DOk.cons 149 
                      · rfl
                      · exact (NeedIs.inl 7 _ _ rfl rfl (NeedIs.inl 0 _ _ rfl rfl NeedIs.nil))
                      · intro rest
                        refine SOps.pick rfl rfl ?_
                        exact SOps.nil rfl
                      exact DOk.nil
                    · rfl
                    · show SCode _ _ _ _
                      refine SCode.cond rfl (fun h => by cases h) (fun _ => ?_)
                      refine SCode.skip ?_
                      show SCode _ _ _ _
                      refine SCode.region ?_
                      refine SOps.move rfl ?_
                      refine SOps.addI rfl rfl (by first | omega | (simp only [lenB]; omega)) (by first | omega | (simp only [lenB]; omega)) ?_
                      refine SOps.assign rfl ?_
                      refine SOps.nil ?_
                      show SCode _ _ _ _
                      refine SCode.region ?_
                      refine SOps.move rfl ?_
                      refine SOps.addI rfl rfl (by first | omega | (simp only [lenB]; omega)) (by first | omega | (simp only [lenB]; omega)) ?_
                      refine SOps.assign rfl ?_
                      refine SOps.nil ?_
                      first
                        | exact ⟨k + 1, p + (e - q) + (runes r.«to»).length, e + 1, ⟨by omega, by rw [if_neg h0] at n7; exact n7⟩, by omega, St.Le.of ⟨rfl, rfl, rfl, rfl, rfl, rfl, rfl, rfl, rfl, trivial⟩⟩
                        | exact ⟨k + 1, p + (e - q) + (runes r.«to»).length, e, ⟨by omega, by rw [if_pos h0] at n7; exact n7⟩, by omega, St.Le.of ⟨rfl, rfl, rfl, rfl, rfl, rfl, rfl, rfl, rfl, trivial⟩⟩
                  · try simp only [decide_eq_true_eq, decide_eq_false_iff_not, Bool.not_eq_true', Bool.not_eq_false', beq_iff_eq, bne_iff_ne, ne_eq, beq_eq_false_iff_ne, bne_eq_false_iff_eq, Int.not_lt, Int.not_le, Nat.not_lt, Nat.not_le, Int.ofNat_lt, Int.ofNat_le, Bool.not_eq_eq_eq_not, Bool.not_true, Bool.not_false] at hc6
                    have h0 : r.fr = 0 := hc6
                    refine SCode.skip ?_
                    show SCode _ _ _ _
                    refine SCode.region ?_
                    refine SOps.move rfl ?_
                    refine SOps.addI rfl rfl (by first | omega | (simp only [lenB]; omega)) (by first | omega | (simp only [lenB]; omega)) ?_
                    refine SOps.assign rfl ?_
                    refine SOps.nil ?_
                    first
                      | exact ⟨k + 1, p + (e - q) + (runes r.«to»).length, e + 1, ⟨by omega, by rw [if_neg h0] at n7; exact n7⟩, by omega, St.Le.of ⟨rfl, rfl, rfl, rfl, rfl, rfl, rfl, rfl, rfl, trivial⟩⟩
                      | exact ⟨k + 1, p + (e - q) + (runes r.«to»).length, e, ⟨by omega, by rw [if_pos h0] at n7; exact n7⟩, by omega, St.Le.of ⟨rfl, rfl, rfl, rfl, rfl, rfl, rfl, rfl, rfl, trivial⟩⟩
          · try simp only [decide_eq_true_eq, decide_eq_false_iff_not, Bool.not_eq_true', Bool.not_eq_false', beq_iff_eq, bne_iff_ne, ne_eq, beq_eq_false_iff_ne, bne_eq_false_iff_eq, Int.not_lt, Int.not_le, Nat.not_lt, Nat.not_le, Int.ofNat_lt, Int.ofNat_le, Bool.not_eq_eq_eq_not, Bool.not_true, Bool.not_false] at hc4
            obtain ⟨n4, n3⟩ := hpc.last (by omega)
            obtain ⟨e, he⟩ : ∃ e, (runes s).length = e := ⟨_, rfl⟩
            refine SCode.reSlot (t := 16) rfl (show _ = DV.v (.int .i64 (e : Int)) by rw [← he]) ?_
            rw [he] at n3
            have n1 := hpc.qle
            have n2 : e ≤ (runes s).length := by omega
            rw [he] at n1
            have hpe : p + (e - q) ≤ (runes (applyR a r s).1).length := by omega
            replace n4 : ((runes s).drop q).take (e - q) = ((runes (applyR a r s).1).drop p).take (e - q) := by rw [n4]
            refine SCode.skip ?_
            show SCode _ _ _ _
            refine SCode.seq ?_
            refine SCode.seq ?_
            apply SCode.drawAuto mixed_ [64, 65, 66, 67, 68, 69, 70, 71, 72, 73, 74, 75, 76, 77, 78, 79, 80, 81, 82, 83, 84, 85, 86, 87, 88, 89, 90, 91, 92, 93, 94, 95, 96, 97, 98, 99] [[.inr 16], [.inr 14], [.inl 0, .inl 1], [.inl 2], [.inl 3, .inr 16], [.inl 3, .inr 9], [.inl 3, .inl 5], [.inl 3, .inl 4, .inl 6], [.inl 3, .inl 7], [.inl 8], [.inl 9, .inr 13], [.inl 9, .inr 16], [.inl 9, .inl 10, .inl 11], [.inl 9, .inr 14], [.inl 9, .inl 12, .inl 13], [.inl 9, .inr 10], [.inl 9, .inl 15], [.inl 9, .inl 14, .inl 16], [.inl 9, .inl 17], [.inl 18], [.inl 19, .inr 9], [.inl 19, .inr 14], [.inl 19, .inr 16], [.inl 19, .inl 20, .inl 21, .inl 22], [.inl 19, .inl 23], [.inl 19, .inr 10], [.inl 19, .inr 13], [.inl 19, .inr 13], [.inl 19, .inr 16], [.inl 19, .inl 27, .inl 28], [.inl 19, .inr 14], [.inl 19, .inl 29, .inl 30], [.inl 19, .inl 25, .inl 26, .inl 31], [.inl 19, .inl 32], [.inl 19, .inl 24, .inl 33], [.inl 19, .inl 34]]
            · kernel_rfl
            · kernel_rfl
            · apply DOk.cons 64 
              · rfl
              · exact (NeedIs.inr _ rfl NeedIs.nil)
              · intro rest
                refine SOps.move rfl ?_
                exact SOps.nil rfl
              apply DOk.cons 65 
              · rfl
              · exact (NeedIs.inr _ rfl NeedIs.nil)
              · intro rest
                refine SOps.move rfl ?_
                exact SOps.nil rfl
              apply DOk.cons 66 (.v (.bool false))
              · rfl
              · exact (NeedIs.inl 1 _ _ rfl rfl (NeedIs.inl 0 _ _ rfl rfl NeedIs.nil))
              · intro rest
                refine SOps.bin rfl rfl rfl ?_
                exact SOps.nil (congrArg (fun b => St.put _ 66 (.v (.bool b))) (decide_eq_false (by omega)))
              apply DOk.cons 67 
              · rfl
              · exact (NeedIs.inl 0 _ _ rfl rfl NeedIs.nil)
              · intro rest
                refine SOps.move rfl ?_
                exact SOps.nil rfl
              apply DOk.cons 68 
              · rfl
              · exact (NeedIs.inl 0 _ _ rfl rfl (NeedIs.inr _ rfl NeedIs.nil))
              · intro rest
                refine SOps.move rfl ?_
                exact SOps.nil rfl
              apply DOk.cons 69 
              · rfl
              · exact (NeedIs.inl 1 _ _ rfl rfl (NeedIs.inr _ rfl NeedIs.nil))
              · intro rest
                refine SOps.move rfl ?_
                exact SOps.nil rfl
              apply DOk.cons 70 
              · rfl
              · exact (NeedIs.inl 2 _ _ rfl rfl (NeedIs.inl 0 _ _ rfl rfl NeedIs.nil))
              · intro rest
                refine SOps.lenM rfl sliceB_35_21_1 ?_
                exact SOps.nil rfl
              apply DOk.cons 71 (.v (.bool false))
              · rfl
              · exact (NeedIs.inl 3 _ _ rfl rfl (NeedIs.inl 2 _ _ rfl rfl (NeedIs.inl 0 _ _ rfl rfl NeedIs.nil)))
              · intro rest
                refine SOps.bin rfl rfl rfl ?_
                exact SOps.nil (congrArg (fun b => St.put _ 71 (.v (.bool b))) (decide_eq_false (by omega)))
              apply DOk.cons 72 
              · rfl
              · exact (NeedIs.inl 4 _ _ rfl rfl (NeedIs.inl 0 _ _ rfl rfl NeedIs.nil))
              · intro rest
                refine SOps.pick rfl rfl ?_
                exact SOps.nil rfl
              apply DOk.cons 73 
              · rfl
              · exact (NeedIs.inl 0 _ _ rfl rfl NeedIs.nil)
              · intro rest
                refine SOps.move rfl ?_
                exact SOps.nil rfl
              apply DOk.cons 74 
              · rfl
              · exact (NeedIs.inl 0 _ _ rfl rfl (NeedIs.inr _ rfl NeedIs.nil))
              · intro rest
                refine SOps.move rfl ?_
                exact SOps.nil rfl
              apply DOk.cons 75 
              · rfl
              · exact (NeedIs.inl 1 _ _ rfl rfl (NeedIs.inr _ rfl NeedIs.nil))
              · intro rest
                refine SOps.move rfl ?_
                exact SOps.nil rfl
              apply DOk.cons 76 
              · rfl
              · exact (NeedIs.inl 2 _ _ rfl rfl (NeedIs.inl 1 _ _ rfl rfl (NeedIs.inl 0 _ _ rfl rfl NeedIs.nil)))
              · intro rest
                refine SOps.addI rfl rfl (by first | omega | (simp only [lenB]; omega)) (by first | omega | (simp only [lenB]; omega)) ?_
                exact SOps.nil rfl
              apply DOk.cons 77 
              · rfl
              · exact (NeedIs.inl 3 _ _ rfl rfl (NeedIs.inr _ rfl NeedIs.nil))
              · intro rest
                refine SOps.move rfl ?_
                exact SOps.nil rfl
              apply DOk.cons 78 
              · rfl
              · exact (NeedIs.inl 4 _ _ rfl rfl (NeedIs.inl 1 _ _ rfl rfl (NeedIs.inl 0 _ _ rfl rfl NeedIs.nil)))
              · intro rest
                refine SOps.subI rfl rfl (by first | omega | (simp only [lenB]; omega)) (by first | omega | (simp only [lenB]; omega)) ?_
                exact SOps.nil rfl
              apply DOk.cons 79 
              · rfl
              · exact (NeedIs.inl 5 _ _ rfl rfl (NeedIs.inr _ rfl NeedIs.nil))
              · intro rest
                refine SOps.move rfl ?_
                exact SOps.nil rfl
              apply DOk.cons 80 
              · rfl
              · exact (NeedIs.inl 6 _ _ rfl rfl (NeedIs.inl 0 _ _ rfl rfl NeedIs.nil))
              · intro rest
                refine SOps.lenM rfl sliceB_35_21_1 ?_
                exact SOps.nil rfl
              apply DOk.cons 81 (.v (.bool false))
              · rfl
              · exact (NeedIs.inl 7 _ _ rfl rfl (NeedIs.inl 2 _ _ rfl rfl (NeedIs.inl 0 _ _ rfl rfl NeedIs.nil)))
              · intro rest
                refine SOps.bin rfl rfl rfl ?_
                exact SOps.nil (congrArg (fun b => St.put _ 81 (.v (.bool b))) (decide_eq_false (by omega)))
              apply DOk.cons 82 
              · rfl
              · exact (NeedIs.inl 8 _ _ rfl rfl (NeedIs.inl 0 _ _ rfl rfl NeedIs.nil))
              · intro rest
                refine SOps.pick rfl rfl ?_
                exact SOps.nil rfl
              apply DOk.cons 83 
              · rfl
              · exact (NeedIs.inl 0 _ _ rfl rfl NeedIs.nil)
              · intro rest
                refine SOps.move rfl ?_
                exact SOps.nil rfl
              apply DOk.cons 84 
              · rfl
              · exact (NeedIs.inl 0 _ _ rfl rfl (NeedIs.inr _ rfl NeedIs.nil))
              · intro rest
                refine SOps.move rfl ?_
                exact SOps.nil rfl
              apply DOk.cons 85 
              · rfl
              · exact (NeedIs.inl 1 _ _ rfl rfl (NeedIs.inr _ rfl NeedIs.nil))
              · intro rest
                refine SOps.move rfl ?_
                exact SOps.nil rfl
              apply DOk.cons 86 
              · rfl
              · exact (NeedIs.inl 2 _ _ rfl rfl (NeedIs.inr _ rfl NeedIs.nil))
              · intro rest
                refine SOps.move rfl ?_
                exact SOps.nil rfl
              apply DOk.cons 87 
              · rfl
              · exact (NeedIs.inl 3 _ _ rfl rfl (NeedIs.inl 2 _ _ rfl rfl (NeedIs.inl 1 _ _ rfl rfl (NeedIs.inl 0 _ _ rfl rfl NeedIs.nil))))
              · intro rest
                refine SOps.sliceM (n1 := 0) (q) (e) sliceB_35_21_1 rfl (.at (q) rfl (by first | omega | (simp only [lenB]; omega))) (.at (e) rfl (by first | omega | (simp only [lenB]; omega))) (by first | omega | (simp only [lenB]; omega)) (by first | omega | (simp only [lenB]; omega)) ?_
                exact SOps.nil rfl
              apply DOk.cons 88 
              · rfl
              · exact (NeedIs.inl 4 _ _ rfl rfl (NeedIs.inl 0 _ _ rfl rfl NeedIs.nil))
              · intro rest
                refine SOps.convRunesStr rfl sliceB_35_21_1 intB_21_i32 strB_9 (by simp [lenB] <;> (first | omega | (simp only [lenB]; omega))) ?_
                exact SOps.nil rfl
              apply DOk.cons 89 
              · rfl
              · exact (NeedIs.inl 5 _ _ rfl rfl (NeedIs.inr _ rfl NeedIs.nil))
              · intro rest
                refine SOps.move rfl ?_
                exact SOps.nil rfl
              apply DOk.cons 90 
              · rfl
              · exact (NeedIs.inl 6 _ _ rfl rfl (NeedIs.inr _ rfl NeedIs.nil))
              · intro rest
                refine SOps.move rfl ?_
                exact SOps.nil rfl
              apply DOk.cons 91 
              · rfl
              · exact (NeedIs.inl 7 _ _ rfl rfl (NeedIs.inr _ rfl NeedIs.nil))
              · intro rest
                refine SOps.move rfl ?_
                exact SOps.nil rfl
              apply DOk.cons 92 
              · rfl
              · exact (NeedIs.inl 8 _ _ rfl rfl (NeedIs.inr _ rfl NeedIs.nil))
              · intro rest
                refine SOps.move rfl ?_
                exact SOps.nil rfl
              apply DOk.cons 93 
              · rfl
              · exact (NeedIs.inl 9 _ _ rfl rfl (NeedIs.inl 1 _ _ rfl rfl (NeedIs.inl 0 _ _ rfl rfl NeedIs.nil)))
              · intro rest
                refine SOps.addI rfl rfl (by first | omega | (simp only [lenB]; omega)) (by first | omega | (simp only [lenB]; omega)) ?_
                exact SOps.nil rfl
              apply DOk.cons 94 
              · rfl
              · exact (NeedIs.inl 10 _ _ rfl rfl (NeedIs.inr _ rfl NeedIs.nil))
              · intro rest
                refine SOps.move rfl ?_
                exact SOps.nil rfl
              apply DOk.cons 95 
              · rfl
              · exact (NeedIs.inl 11 _ _ rfl rfl (NeedIs.inl 1 _ _ rfl rfl (NeedIs.inl 0 _ _ rfl rfl NeedIs.nil)))
              · intro rest
                refine SOps.subI rfl rfl (by first | omega | (simp only [lenB]; omega)) (by first | omega | (simp only [lenB]; omega)) ?_
                exact SOps.nil rfl
              apply DOk.cons 96 
              · rfl
              · exact (NeedIs.inl 12 _ _ rfl rfl (NeedIs.inl 6 _ _ rfl rfl (NeedIs.inl 5 _ _ rfl rfl (NeedIs.inl 0 _ _ rfl rfl NeedIs.nil))))
              · intro rest
                refine SOps.sliceM (n1 := 0) (p) ((p + (e - q))) sliceB_35_21_1 rfl (.at (p) rfl (by first | omega | (simp only [lenB]; omega))) (.at ((p + (e - q))) rfl (by first | omega | (simp only [lenB]; omega))) (by first | omega | (simp only [lenB]; omega)) (by first | omega | (simp only [lenB]; omega)) ?_
                exact SOps.nil rfl
              apply DOk.cons 97 
              · rfl
              · exact (NeedIs.inl 13 _ _ rfl rfl (NeedIs.inl 0 _ _ rfl rfl NeedIs.nil))
              · intro rest
                refine SOps.convRunesStr rfl sliceB_35_21_1 intB_21_i32 strB_9 (by simp [lenB] <;> (first | omega | (simp only [lenB]; omega))) ?_
                exact SOps.nil rfl
              apply DOk.cons 98 (.v (.bool false))
              · rfl
              · exact (NeedIs.inl 14 _ _ rfl rfl (NeedIs.inl 9 _ _ rfl rfl (NeedIs.inl 0 _ _ rfl rfl NeedIs.nil)))
              · intro rest
                refine SOps.bin rfl rfl rfl ?_
                exact SOps.nil (congrArg (fun b => St.put _ 98 (.v (.bool b))) (by rw [n4, show p + (e - q) - p = e - q by omega]; simp))
              apply DOk.cons 99 
              · rfl
              · exact (NeedIs.inl 15 _ _ rfl rfl (NeedIs.inl 0 _ _ rfl rfl NeedIs.nil))
              · intro rest
                refine SOps.pick rfl rfl ?_
                exact SOps.nil rfl
              exact DOk.nil
            · rfl
            · show SCode _ _ _ _
              refine SCode.cond rfl (fun h => by cases h) (fun _ => ?_)
              refine SCode.skip ?_
              show SCode _ _ _ _
              refine SCode.seqR ?_
              refine SOps.move rfl ?_
              refine SOps.move rfl ?_
              refine SOps.addI rfl rfl (by first | omega | (simp only [lenB]; omega)) (by first | omega | (simp only [lenB]; omega)) ?_
              refine SOps.move rfl ?_
              refine SOps.subI rfl rfl (by first | omega | (simp only [lenB]; omega)) (by first | omega | (simp only [lenB]; omega)) ?_
              refine SOps.move rfl ?_
              refine SOps.assign rfl ?_
              refine SOps.assign rfl ?_
              refine SOps.nil ?_
              refine SCode.seq ?_
              refine SCode.seqR ?_
              refine SOps.reSlot (t := 13) rfl (show _ = DV.v (.int .i64 (((p + (e - q)) : Nat) : Int)) from congrArg (fun z => DV.v (.int .i64 z)) (by omega)) ?_
              refine SOps.move rfl ?_
              refine SOps.move rfl ?_
              refine SOps.lenM rfl sliceB_30_3_1 ?_
              refine SOps.bin rfl rfl rfl ?_
              refine SOps.nil ?_
              refine SCode.cond rfl (fun hc7 => ?_) (fun hc7 => ?_)
              · try simp only [decide_eq_true_eq, decide_eq_false_iff_not, Bool.not_eq_true', Bool.not_eq_false', beq_iff_eq, bne_iff_ne, ne_eq, beq_eq_false_iff_ne, bne_eq_false_iff_eq, Int.not_lt, Int.not_le, Nat.not_lt, Nat.not_le, Int.ofNat_lt, Int.ofNat_le, Bool.not_eq_eq_eq_not, Bool.not_true, Bool.not_false] at hc7
                refine SCode.exit ?_
                show SCode _ _ _ _
                refine SCode.seqR ?_
                refine SOps.callP hA rfl ?_
                rintro _ rfl
                refine SOps.move rfl ?_
                refine SOps.move rfl ?_
                refine SOps.move rfl ?_
                refine SOps.lenM rfl sliceB_35_21_1 ?_
                refine SOps.bin rfl rfl rfl ?_
                refine SOps.reSlot (t := 157) rfl (show _ = DV.v (.bool true) from congrArg (fun b => DV.v (.bool b)) (beq_iff_eq.2 (by omega))) ?_
                refine SOps.pick rfl rfl ?_
                refine SOps.move rfl ?_
                refine SOps.move rfl ?_
                refine SOps.loadPinA rfl aggB_25_6 (Nat.le_of_ble_eq_true rfl) ?_
                refine SOps.callP (rValid hV _ _ hr) rfl ?_
                rintro _ rfl
                refine SOps.reSlot (t := 162) rfl (show _ = DV.v (.bool true) from congrArg (fun b => DV.v (.bool b)) (hvr)) ?_
                refine SOps.pick rfl rfl ?_
                refine SOps.assign rfl ?_
                refine SOps.nil ?_
                refine SCode.ret ?_
                exact ⟨_, Res.one (.tmp rfl), rfl, rfl⟩
              · try simp only [decide_eq_true_eq, decide_eq_false_iff_not, Bool.not_eq_true', Bool.not_eq_false', beq_iff_eq, bne_iff_ne, ne_eq, beq_eq_false_iff_ne, bne_eq_false_iff_eq, Int.not_lt, Int.not_le, Nat.not_lt, Nat.not_le, Int.ofNat_lt, Int.ofNat_le, Bool.not_eq_eq_eq_not, Bool.not_true, Bool.not_false] at hc7
                exfalso; omega
        · try simp only [decide_eq_true_eq, decide_eq_false_iff_not, Bool.not_eq_true', Bool.not_eq_false', beq_iff_eq, bne_iff_ne, ne_eq, beq_eq_false_iff_ne, bne_eq_false_iff_eq, Int.not_lt, Int.not_le, Nat.not_lt, Nat.not_le, Int.ofNat_lt, Int.ofNat_le, Bool.not_eq_eq_eq_not, Bool.not_true, Bool.not_false] at hc3
          exfalso; omega
end Go.GH
