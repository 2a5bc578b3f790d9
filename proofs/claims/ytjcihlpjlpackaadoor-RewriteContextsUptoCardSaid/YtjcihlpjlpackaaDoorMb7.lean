/-
  Part 7 of the texts behind the walks of this claim: an own layer over the kit's wp, plain laws, and walks. No conditions.
-/
import Derived.Test.YtjcihlpjlpackaaDoorMb6
set_option linter.unusedVariables false
set_option linter.unusedSimpArgs false
set_option linter.deprecated false
namespace Go.GH
open Go

abbrev Ids := Nat → Nat
/-- A chain: its operations, and what its memory is after so many of them. -/
structure Chn where
  T : List Nat
  Y : List Nat → Nat → DHeap
def Chn.X (x : Chn) (b : Ids) (c : Nat) : DHeap := x.Y (x.T.map b) c
def Chn.at (L : Nat → Bool) (b : Ids) (x : Chn) : DHeap := x.X b (cntL L x.T)
def chnH (L : Nat → Bool) (b : Ids) (xs : List Chn) : DHeap := (xs.map (Chn.at L b)).flatten
inductive NeedG (D : List (Ids → ORes)) (s : List (Nat × DV)) (b : Ids) : List (Nat ⊕ Nat) → List (Nat × DV) → Prop
  | nil : NeedG D s b [] []
  | inl {j : Nat} {ss : List (Nat ⊕ Nat)} {nd : List (Nat × DV)} {r : Ids → ORes} (k t : Nat) (d : DV) (hk : k + j + 1 = D.length) (h : D[k]? = some r) (h2 : r b = some (t, d)) (q : NeedG D s b ss nd) : NeedG D s b (.inl j :: ss) ((t, d) :: nd)
  | inr {t : Nat} {ss : List (Nat ⊕ Nat)} {nd : List (Nat × DV)} (d : DV) (h : getL s t = some d) (q : NeedG D s b ss nd) : NeedG D s b (.inr t :: ss) ((t, d) :: nd)
/-- What each operation does. 'none': it reads alone; 'some (m, c)': it is number c of chain m. -/
inductive GOk (C : Ctx) (ops : Array Oper) (n : Nat) (base : DHeap) (s : List (Nat × DV)) (xs : List Chn) : List (Ids → ORes) → List Oper → List (List (Nat ⊕ Nat)) → List (Option (Nat × Nat)) → List (List Nat) → List (Ids → ORes) → Prop
  | nil {D : List (Ids → ORes)} : GOk C ops n base s xs D [] [] [] [] []
  | pure {D E : List (Ids → ORes)} {o : Oper} {os : List Oper} {ss : List (Nat ⊕ Nat)} {sss : List (List (Nat ⊕ Nat))} {cls : List (Option (Nat × Nat))} {Ss : List (List Nat)} (S : List Nat) (g : List Nat → ORes) {nd : Ids → List (Nat × DV)} (hj : inlB D.length ss = true) (hn : ∀ b, NeedG D s b ss (nd b))
      (h : ∀ b rest ext, SOps C ops [o] ⟨n, nd b ++ rest, base ++ ext⟩ (fun st' => st' = ⟨n, (g (S.map b)).toList ++ (nd b ++ rest), base ++ ext⟩)) (k : GOk C ops n base s xs ((fun b => g (S.map b)) :: D) os sss cls Ss E) : GOk C ops n base s xs D (o :: os) (ss :: sss) (none :: cls) (S :: Ss) ((fun b => g (S.map b)) :: E)
  | act {D E : List (Ids → ORes)} {o : Oper} {os : List Oper} {ss : List (Nat ⊕ Nat)} {sss : List (List (Nat ⊕ Nat))} {cls : List (Option (Nat × Nat))} {Ss : List (List Nat)} {m c : Nat} {x : Chn} (S : List Nat) (g : List Nat → ORes) {nd : Ids → List (Nat × DV)} (hx : xs[m]? = some x) (hc : x.T[c]? = some D.length) (hj : inlB D.length ss = true) (hn : ∀ b, NeedG D s b ss (nd b))
      (h : ∀ b rest ext, SOps C ops [o] ⟨n, nd b ++ rest, base ++ (x.X b c ++ ext)⟩ (fun st' => ∃ b', (∀ k, k ≠ D.length → b' k = b k) ∧ (⟨n, (g (S.map b')).toList ++ (nd b ++ rest), base ++ (x.X b' (c + 1) ++ ext)⟩ : St).Le st')) (k : GOk C ops n base s xs ((fun b => g (S.map b)) :: D) os sss cls Ss E) :
      GOk C ops n base s xs D (o :: os) (ss :: sss) (some (m, c) :: cls) (S :: Ss) ((fun b => g (S.map b)) :: E)
theorem needO_more {D E : List ORes} {s : List (Nat × DV)} : ∀ {ss : List (Nat ⊕ Nat)}, inlB D.length ss = true → needO (D ++ E) s ss = needO D s ss
  | [], _ => rfl
  | .inl j :: r, h => by
    simp only [inlB, List.all_cons, Bool.and_eq_true] at h
    have hj := Nat.le_of_ble_eq_true h.1
    simp only [needO, List.getElem?_append_left (show j < D.length from hj), needO_more (E := E) (s := s) (ss := r) h.2]
  | .inr t :: r, h => by
    simp only [inlB, List.all_cons, Bool.and_eq_true] at h
    simp only [needO, needO_more (E := E) (s := s) (ss := r) h.2]
theorem NeedG.eq {D : List (Ids → ORes)} {s : List (Nat × DV)} {b : Ids} : ∀ {ss : List (Nat ⊕ Nat)} {nd : List (Nat × DV)}, NeedG D s b ss nd → needO (D.reverse.map (fun r => r b)) s ss = nd
  | _, _, .nil => rfl
  | _, _, .inl (j := j) (r := r) k t d hk h h2 q => by
    have e : (D.reverse.map (fun r => r b))[j]? = some (some (t, d)) := by
      rw [List.getElem?_map, List.getElem?_reverse (by omega), show D.length - 1 - j = k by omega, h]
      simp [h2]
    simp only [needO, e, q.eq]
  | _, _, .inr d h q => by simp only [needO, h, q.eq]
/-- Operation i: its sources, its class, what it does. -/
theorem GOk.at {C : Ctx} {ops : Array Oper} {n : Nat} {base : DHeap} {s : List (Nat × DV)} {xs : List Chn} : ∀ {D E : List (Ids → ORes)} {os : List Oper} {sss : List (List (Nat ⊕ Nat))} {cls : List (Option (Nat × Nat))} {Ss : List (List Nat)}, GOk C ops n base s xs D os sss cls Ss E → ∀ (i : Nat) o, os[i]? = some o →
    ∃ (ss : List (Nat ⊕ Nat)) (cl : Option (Nat × Nat)) (r : Ids → ORes) (nd : Ids → List (Nat × DV)), sss[i]? = some ss ∧ cls[i]? = some cl ∧ E[i]? = some r ∧ (∀ b, needO ((D.reverse ++ E).map (fun r => r b)) s ss = nd b) ∧
      (cl = none → ∀ b rest ext, SOps C ops [o] ⟨n, nd b ++ rest, base ++ ext⟩ (fun st' => st' = ⟨n, (r b).toList ++ (nd b ++ rest), base ++ ext⟩)) ∧
      (∀ m c, cl = some (m, c) → ∃ x, xs[m]? = some x ∧ x.T[c]? = some (D.length + i) ∧ ∀ b rest ext, SOps C ops [o] ⟨n, nd b ++ rest, base ++ (x.X b c ++ ext)⟩ (fun st' => ∃ b', (∀ k, k ≠ D.length + i → b' k = b k) ∧ (⟨n, (r b').toList ++ (nd b ++ rest), base ++ (x.X b' (c + 1) ++ ext)⟩ : St).Le st'))
  | _, _, _, _, _, _, .nil, i, o, hi => by simp at hi
  | D, _, _, _, _, _, .pure (E := E) (ss := ss) S g (nd := nd) hj hn h k, 0, o, hi => by
    simp only [List.getElem?_cons_zero, Option.some.injEq] at hi
    subst hi
    refine ⟨ss, none, fun b => g (S.map b), nd, rfl, rfl, rfl, fun b => ?_, fun _ => h, fun m c e => by cases e⟩
    rw [List.map_append, needO_more (by simpa using hj)]
    exact (hn b).eq
  | D, _, _, _, _, _, .act (E := E) (ss := ss) (m := m) (c := c) (x := x) S g (nd := nd) hx hc hj hn h k, 0, o, hi => by
    simp only [List.getElem?_cons_zero, Option.some.injEq] at hi
    subst hi
    refine ⟨ss, some (m, c), fun b => g (S.map b), nd, rfl, rfl, rfl, fun b => ?_, (fun e => by cases e), fun m' c' e => ?_⟩
    · rw [List.map_append, needO_more (by simpa using hj)]
      exact (hn b).eq
    · simp only [Option.some.injEq, Prod.mk.injEq] at e
      obtain ⟨rfl, rfl⟩ := e
      exact ⟨x, hx, by simpa using hc, h⟩
  | D, _, _, _, _, _, .pure (E := E) S g hj hn h k, i + 1, o, hi => by
    obtain ⟨ss, cl, r', nd, h1, h2, h3, h4, h5, h6⟩ := k.at i o (by simpa using hi)
    refine ⟨ss, cl, r', nd, by simpa using h1, by simpa using h2, by simpa using h3, ?_, h5, ?_⟩
    · simpa using h4
    · simpa [Nat.add_assoc, Nat.add_comm 1 i] using h6
  | D, _, _, _, _, _, .act (E := E) S g hx hc hj hn h k, i + 1, o, hi => by
    obtain ⟨ss, cl, r', nd, h1, h2, h3, h4, h5, h6⟩ := k.at i o (by simpa using hi)
    refine ⟨ss, cl, r', nd, by simpa using h1, by simpa using h2, by simpa using h3, ?_, h5, ?_⟩
    · simpa using h4
    · simpa [Nat.add_assoc, Nat.add_comm 1 i] using h6
/-- The chains are chains; an operation is of at most one of them; what an operation yields hangs on names of such as it waits for. -/
def genB (l : List Oper) (ts : List (Option Nat)) (srcs : List (List (Nat ⊕ Nat))) (Ts : List (List Nat)) (cls : List (Option (Nat × Nat))) (Ss : List (List Nat)) (f : Nat) : Bool :=
  ordB l && distO ts && (Ts.all (fun T => distB T && T.all (fun x => Nat.blt x l.length) && (T.zip (T.drop 1)).all (fun p => memB (reqF l f p.2) p.1))) &&
  (l.zipIdx).all (fun p => match srcs[p.2]? with
    | some ss => ss.all (srcO l ts p.2 p.1)
    | none => true) &&
  (List.range l.length).all (fun i => match cls[i]? with
    | some (some (m, _)) => (Ts.zipIdx).all (fun p => Nat.beq p.2 m || !memB p.1 i)
    | some none => Ts.all (fun T => !memB T i)
    | none => false) &&
  (l.zipIdx).all (fun p => match Ss[p.2]? with
    | some S => S.all (fun k => Nat.beq k p.2 || afterB p.1 k)
    | none => false)
theorem chnH_congr {L L' : Nat → Bool} {b b' : Ids} : ∀ {xs : List Chn}, (∀ x ∈ xs, Chn.at L b x = Chn.at L' b' x) → chnH L b xs = chnH L' b' xs := fun {xs} h => by
  unfold chnH
  rw [List.map_congr_left h]
theorem chnH_out {L : Nat → Bool} {b : Ids} : ∀ {xs : List Chn} {m : Nat} {x : Chn}, xs[m]? = some x → (chnH L b xs).Perm (Chn.at L b x ++ chnH L b (xs.eraseIdx m))
  | [], _, _, h => by simp at h
  | y :: xs, 0, x, h => by
    simp only [List.getElem?_cons_zero, Option.some.injEq] at h
    subst h
    exact .refl _
  | y :: xs, m + 1, x, h => by
    have := chnH_out (L := L) (b := b) (xs := xs) (m := m) (by simpa using h)
    show (Chn.at L b y ++ chnH L b xs).Perm (Chn.at L b x ++ (Chn.at L b y ++ chnH L b (xs.eraseIdx m)))
    refine (this.append_left _).trans ?_
    rw [← List.append_assoc, ← List.append_assoc]
    exact List.Perm.append_right _ List.perm_append_comm
theorem mem_eraseIdx_ne {α : Type} {xs : List α} {m : Nat} {y : α} (h : y ∈ xs.eraseIdx m) : ∃ j, j ≠ m ∧ xs[j]? = some y := by
  rw [List.mem_eraseIdx_iff_getElem?] at h
  exact h
theorem GOk.dep {C : Ctx} {ops : Array Oper} {n : Nat} {base : DHeap} {s : List (Nat × DV)} {xs : List Chn} {D E : List (Ids → ORes)} {os : List Oper} {sss : List (List (Nat ⊕ Nat))} {cls : List (Option (Nat × Nat))} {Ss : List (List Nat)} (h : GOk C ops n base s xs D os sss cls Ss E) :
    E.length = os.length ∧ ∀ (j : Nat) r S, E[j]? = some r → Ss[j]? = some S → ∀ b b', (∀ k ∈ S, b k = b' k) → r b = r b' := by
  induction h with
  | nil => exact ⟨rfl, fun j r S h => by simp at h⟩
  | pure S g _ _ _ _ ih =>
    refine ⟨by simp [ih.1], fun j r S' h1 h2 b b' hb => ?_⟩
    cases j with
    | zero =>
      simp only [List.getElem?_cons_zero, Option.some.injEq] at h1 h2
      subst h1; subst h2
      show g (S.map b) = g (S.map b')
      rw [List.map_congr_left hb]
    | succ j => exact ih.2 j r S' (by simpa using h1) (by simpa using h2) b b' hb
  | act S g _ _ _ _ _ _ ih =>
    refine ⟨by simp [ih.1], fun j r S' h1 h2 b b' hb => ?_⟩
    cases j with
    | zero =>
      simp only [List.getElem?_cons_zero, Option.some.injEq] at h1 h2
      subst h1; subst h2
      show g (S.map b) = g (S.map b')
      rw [List.map_congr_left hb]
    | succ j => exact ih.2 j r S' (by simpa using h1) (by simpa using h2) b b' hb
theorem SCode.drawGen {C : Ctx} {id : Nat} {l : List Oper} {n : Nat} {s : List (Nat × DV)} {H : DHeap} {Q : Exit → St → Prop} {D : List (Ids → ORes)} (hm : C.P.follows .mixedOrders = true) (f : Nat) (ts : List (Option Nat)) (srcs : List (List (Nat ⊕ Nat))) (cls : List (Option (Nat × Nat))) (Ss : List (List Nat)) (base : DHeap) (xs : List Chn)
    (hB : genB l ts srcs (xs.map (·.T)) cls Ss f = true) (hH : ∀ b, (base ++ (xs.map (fun x => x.X b 0)).flatten).Perm H)
    (hops : GOk C l.toArray n base s xs [] l srcs cls Ss D) (hts : ∀ b, D.map (fun r => (r b).map (·.1)) = ts)
    (hQ : ∀ b, Q .normal ⟨n, resO (D.map (fun r => r b)) ++ s, base ++ (xs.map (fun x => x.X b x.T.length)).flatten⟩) : SCode C (.region id l.toArray true) ⟨n, s, H⟩ Q := by
  obtain ⟨hDl, hS⟩ := hops.dep
  have hX : ∀ x ∈ xs, ∀ b b', (∀ k ∈ x.T, b k = b' k) → ∀ c, x.X b c = x.X b' c := fun x _ b b' h c => by unfold Chn.X; rw [List.map_congr_left h]
  simp only [genB, Bool.and_eq_true, List.all_eq_true] at hB
  obtain ⟨⟨⟨⟨⟨hord, hdist⟩, hTs⟩, hsrc⟩, hcls⟩, hSs⟩ := hB
  have hdB : ∀ b, distO ((D.map (fun r => r b)).map (fun x => x.map (·.1))) = true := fun b => by
    have := hts b
    rw [List.map_map, show ((fun x : ORes => x.map (·.1)) ∘ fun r : Ids → ORes => r b) = (fun r => (r b).map (·.1)) from rfl, this]; exact hdist
  have hlen : ∀ i o, l[i]? = some o → ∃ r, D[i]? = some r := fun i o hi => by
    obtain ⟨_, _, r, _, _, _, h, _⟩ := hops.at i o hi
    exact ⟨r, h⟩
  have hT : ∀ x ∈ xs, x.T.Nodup ∧ (∀ y ∈ x.T, y < l.length) ∧ ∀ (j : Nat) u v, x.T[j]? = some u → x.T[j + 1]? = some v → u ∈ reqF l f v := fun x hx => by
    have := hTs x.T (List.mem_map.2 ⟨x, hx, rfl⟩)
    obtain ⟨⟨h1, h2⟩, h3⟩ := this
    refine ⟨distB_spec _ h1, fun y hy => by simpa using h2 y hy, fun j u v hu hv => ?_⟩
    have := h3 (u, v) (by
      rw [List.mem_iff_getElem?]
      refine ⟨j, ?_⟩
      rw [List.getElem?_zip_eq_some]
      exact ⟨hu, by rw [List.getElem?_drop, Nat.add_comm]; exact hv⟩)
    exact memB_iff.1 this
  refine SCode.drawAny hm hord (fun L st' => ∃ b, (⟨n, pickO L 0 (D.map (fun r => r b)) s, base ++ chnH L b xs⟩ : St).Le st') ?_ ?_ ?_
  · refine ⟨fun _ => 0, ?_⟩
    rw [pickO_false]
    refine ⟨rfl, fun t d h => .inl h, H, ?_, .refl _⟩
    have e : chnH (fun _ => false) (fun _ => 0) xs = (xs.map (fun x => x.X (fun _ => 0) 0)).flatten := by
      unfold chnH Chn.at
      congr 1
      refine List.map_congr_left (fun x _ => ?_)
      rw [show cntL (fun _ => false) x.T = 0 by simp [cntL]]
    show (base ++ chnH (fun _ => false) (fun _ => 0) xs).Perm H
    rw [e]; exact hH _
  · intro L st' i o hi hLi hinv haft hbef hcl
    obtain ⟨b, hle⟩ := hinv
    have hil := (List.getElem?_eq_some_iff.1 hi).1
    obtain ⟨ss, cl, r, nd, h1, h2, h3, h4, h5, h6⟩ := hops.at i o hi
    have hreq : ∀ x ∈ reqF l f i, L x = true := fun x hx => by
      cases f with
      | zero => simp [reqF] at hx
      | succ f =>
        simp only [reqF, hi] at hx
        rcases List.mem_append.1 hx with hx | hx
        · exact haft x (by simpa using (List.mem_filter.1 hx).2)
        · obtain ⟨js, hjs, hjx⟩ := List.mem_flatten.1 hx
          obtain ⟨y, hy, rfl⟩ := List.mem_map.1 hjs
          exact reqF_spec hcl f y (haft y (by simpa using (List.mem_filter.1 hy).2)) x hjx
    refine SOps.weaken hle ?_
    have hneed : ∀ t d, getL (nd b) t = some d → getL (pickO L 0 (D.map (fun r => r b)) s) t = some d := by
      have hn := h4 b
      simp only [List.reverse_nil, List.nil_append] at hn
      have hchk := hsrc (o, i) (by rw [List.mem_iff_getElem?]; exact ⟨i, by simp [List.getElem?_zipIdx, hi]⟩)
      simp only [h1, List.all_eq_true] at hchk
      rw [← hn]
      have key : ∀ (ss : List (Nat ⊕ Nat)), (∀ x ∈ ss, srcO l ts i o x = true) → ∀ t d, getL (needO (D.map (fun r => r b)) s ss) t = some d → getL (pickO L 0 (D.map (fun r => r b)) s) t = some d := by
        intro ss
        induction ss with
        | nil => intro _ t d h; simp [needO, getL] at h
        | cons x ss ih =>
          intro hx t d h
          have ih' := ih (fun y hy => hx y (List.mem_cons_of_mem _ hy)) t d
          have hx0 := hx x (List.mem_cons_self ..)
          cases x with
          | inl j =>
            simp only [srcO] at hx0
            simp only [needO] at h
            split at h
            · rename_i q hq
              rw [getL_cons] at h
              split at h
              · rename_i e
                subst e
                obtain rfl := Option.some.inj h
                exact pickO_some _ 0 j s q (hdB b) hq (by simpa using haft j hx0)
              · exact ih' h
            · exact ih' h
          | inr u =>
            simp only [srcO, List.all_eq_true] at hx0
            simp only [needO] at h
            split at h
            · rename_i q hq
              rw [getL_cons] at h
              split at h
              · rename_i e
                simp only at e
                subst e
                obtain rfl := Option.some.inj h
                rw [pickO_none _ 0 s (fun k p hk hp => ?_)]
                · exact hq
                · have h4 := hx0 (some p.1, k) (by
                    rw [List.mem_iff_getElem?]
                    refine ⟨k, ?_⟩
                    rw [← hts b, List.getElem?_zipIdx]
                    simp only [List.getElem?_map] at hk ⊢
                    cases hD : D[k]? with
                    | none => rw [hD] at hk; simp at hk
                    | some rr => rw [hD] at hk; simp at hk; simp [hk])
                  simp only [hp, BEq.rfl, Bool.not_true, Bool.false_or, Bool.or_eq_true] at h4
                  rw [Nat.zero_add]
                  rcases h4 with h4 | h4
                  · rw [Nat.eq_of_beq_eq_true h4]; exact hLi
                  · unfold nthB at h4
                    split at h4
                    · rename_i o' ho'
                      exact hbef k o' ho' h4
                    · cases h4
              · exact ih' h
            · exact ih' h
      exact key ss hchk
    have hnl : ∀ t, getL (nd b ++ pickO L 0 (D.map (fun r => r b)) s) t = getL (pickO L 0 (D.map (fun r => r b)) s) t := by
      intro t
      have : ∀ (nd : List (Nat × DV)), (∀ d, getL nd t = some d → getL (pickO L 0 (D.map (fun r => r b)) s) t = some d) → getL (nd ++ pickO L 0 (D.map (fun r => r b)) s) t = getL (pickO L 0 (D.map (fun r => r b)) s) t := by
        intro nd
        induction nd with
        | nil => intro _; rfl
        | cons q nd ih =>
          intro h
          rw [List.cons_append, getL_cons]
          split
          · rename_i e
            exact (h q.2 (by rw [getL_cons, if_pos e])).symm
          · rename_i e
            exact ih (fun d hd => h d (by rw [getL_cons, if_neg e]; exact hd))
      exact this (nd b) (hneed t)
    have hDi : ∀ b, (D.map (fun r => r b))[i]? = some (r b) := fun b => by simp [h3]
    -- what is known of the slots behind the operation
    have hslots : ∀ b', (∀ k, k ≠ i → b' k = b k) → ∀ t d, getL (pickO (fun k => if k = i then true else L k) 0 (D.map (fun r => r b')) s) t = some d → getL ((r b').toList ++ (nd b ++ pickO L 0 (D.map (fun r => r b)) s)) t = some d := by
      intro b' hb' t d ht
      have hcase : (∃ p, r b' = some p ∧ p.1 = t) ∨ (∀ p, r b' = some p → p.1 ≠ t) := by
        cases hr : r b' with
        | none => exact .inr (fun p h => by cases h)
        | some p =>
          by_cases e : p.1 = t
          · exact .inl ⟨p, rfl, e⟩
          · exact .inr (fun q h => by cases h; exact e)
      rcases hcase with ⟨p, hp, e⟩ | hne
      · subst e
        rw [hp]
        simp only [Option.toList_some, List.singleton_append]
        rw [getL_cons, if_pos rfl]
        rw [pickO_some _ 0 i s p (hdB b') (by rw [hDi, hp]) (by simp)] at ht
        exact ht
      · have e1 : getL ((r b').toList ++ (nd b ++ pickO L 0 (D.map (fun r => r b)) s)) t = getL (nd b ++ pickO L 0 (D.map (fun r => r b)) s) t := by
          cases hr : r b' with
          | none => rfl
          | some p => simp only [Option.toList_some, List.singleton_append]; rw [getL_cons, if_neg (hne p hr)]
        rw [e1, hnl, ← ht]
        refine pickO_set _ _ 0 (by simp) (fun k hk hLk => ?_) (fun k p hk hki => ?_) (fun k p hk hki => ?_)
        · rw [Nat.zero_add] at hk hLk
          simp only [List.getElem?_map]
          cases hDk : D[k]? with
          | none => rfl
          | some rr =>
            simp only [Option.map_some]
            congr 1
            have hkl : k < l.length := by
              rcases Nat.lt_or_ge k l.length with h | h
              · exact h
              · exfalso
                have hlt := (List.getElem?_eq_some_iff.1 hDk).1
                omega
            have hSk := hSs (l[k], k) (by rw [List.mem_iff_getElem?]; exact ⟨k, by simp [List.getElem?_zipIdx, hkl]⟩)
            cases hS' : Ss[k]? with
            | none => rw [hS'] at hSk; cases hSk
            | some S =>
              rw [hS'] at hSk
              simp only [List.all_eq_true, Bool.or_eq_true] at hSk
              refine hS k rr S hDk hS' b' b (fun u hu => hb' u (fun e => ?_))
              subst e
              rcases hSk u hu with h7 | h7
              · exact hk (Nat.eq_of_beq_eq_true h7).symm
              · rw [hcl k _ u (List.getElem?_eq_getElem hkl) hLk h7] at hLi; cases hLi
        · have : k = i := by omega
          subst this
          rw [hDi] at hk
          exact hne p (Option.some.inj hk)
        · have : k = i := by omega
          subst this
          have hb1 := hts b
          have hb2 := hts b'
          have := congrArg (fun x => x[k]?) (hb1.trans hb2.symm)
          simp only [List.getElem?_map, h3, Option.map_some, Option.some.injEq] at this
          rw [hDi] at hk
          rw [Option.some.inj hk] at this
          simp only [Option.map_some] at this
          obtain ⟨q, hq, e⟩ := Option.map_eq_some_iff.1 this.symm
          rw [← e]
          exact hne q hq
    have hci := hcls i (List.mem_range.2 hil)
    rw [h2] at hci
    cases cl with
    | none =>
      simp only [List.all_eq_true] at hci
      have hsame : ∀ x ∈ xs, Chn.at (fun k => if k = i then true else L k) b x = Chn.at L b x := fun x hx => by
        unfold Chn.at
        rw [cnt_set hLi x.T (hT x hx).1]
        have := hci x.T (List.mem_map.2 ⟨x, hx, rfl⟩)
        rw [if_neg (fun hm => by rw [memB_iff.2 hm] at this; cases this), Nat.add_zero]
      refine SOps.weaken (st' := ⟨n, nd b ++ pickO L 0 (D.map (fun r => r b)) s, base ++ chnH L b xs⟩) ⟨rfl, fun t d ht => .inl ((hnl t).symm.trans ht), _, .refl _, .refl _⟩ ((h5 rfl b (pickO L 0 (D.map (fun r => r b)) s) (chnH L b xs)).mono ?_)
      rintro st2 rfl
      exact ⟨b, rfl, fun t d ht => .inl (hslots b (fun _ _ => rfl) t d ht), _, by rw [chnH_congr hsame], .refl _⟩
    | some mc =>
      obtain ⟨m, c⟩ := mc
      obtain ⟨x, hx, hc, hstep⟩ := h6 m c rfl
      simp only [List.length_nil, Nat.zero_add] at hc hstep
      simp only [List.all_eq_true] at hci
      have hxm := List.mem_of_getElem? hx
      obtain ⟨t1, t2, t3⟩ := hT x hxm
      have hpre := cnt_prefix (L := L) x.T (fun j u v hu hv hLv => reqF_spec hcl f v hLv u (t3 j u v hu hv))
      have hcnt : cntL L x.T = c := by
        have h7 := hpre c i hc
        have h8 : ¬ c < cntL L x.T := fun h => by rw [h7.2 h] at hLi; cases hLi
        rcases Nat.eq_zero_or_pos c with h0 | h0
        · omega
        · have hlt := (List.getElem?_eq_some_iff.1 hc).1
          have h9 := t3 (c - 1) _ i (List.getElem?_eq_getElem (by omega)) (by rw [show c - 1 + 1 = c by omega]; exact hc)
          have := (hpre (c - 1) _ (List.getElem?_eq_getElem (by omega))).1 (hreq _ h9)
          omega
      have hmem : i ∈ x.T := List.mem_of_getElem? hc
      have hnot : ∀ j y, j ≠ m → xs[j]? = some y → i ∉ y.T := fun j y hj hy hm => by
        have := hci (y.T, j) (by
          rw [List.mem_iff_getElem?]
          exact ⟨j, by rw [List.getElem?_zipIdx, List.getElem?_map, hy]; simp⟩)
        simp only [Bool.or_eq_true] at this
        rcases this with h | h
        · exact hj (Nat.eq_of_beq_eq_true h)
        · rw [memB_iff.2 hm] at h; cases h
      have hat : Chn.at L b x = x.X b c := by unfold Chn.at; rw [hcnt]
      have hp := chnH_out (L := L) (b := b) hx
      rw [hat] at hp
      refine SOps.weaken (st' := ⟨n, nd b ++ pickO L 0 (D.map (fun r => r b)) s, base ++ (x.X b c ++ chnH L b (xs.eraseIdx m))⟩) ⟨rfl, fun t d ht => .inl ((hnl t).symm.trans ht), _, List.Perm.append_left _ hp.symm, .refl _⟩ ((hstep b (pickO L 0 (D.map (fun r => r b)) s) (chnH L b (xs.eraseIdx m))).mono ?_)
      rintro st2 ⟨b', hb', hle2⟩
      refine ⟨b', hle2.n, fun t d ht => ?_, ?_⟩
      · exact hle2.slots t d (hslots b' hb' t d ht)
      · obtain ⟨l2, p1, p2⟩ := hle2.heap
        refine ⟨l2, ?_, p2⟩
        refine List.Perm.trans ?_ p1
        have hp' := chnH_out (L := fun k => if k = i then true else L k) (b := b') hx
        have hat' : Chn.at (fun k => if k = i then true else L k) b' x = x.X b' (c + 1) := by
          unfold Chn.at
          rw [cnt_set hLi x.T t1, if_pos hmem, hcnt]
        have hrest : chnH (fun k => if k = i then true else L k) b' (xs.eraseIdx m) = chnH L b (xs.eraseIdx m) := chnH_congr (fun y hy => by
          obtain ⟨j, hj, hyj⟩ := mem_eraseIdx_ne hy
          have hni := hnot j y hj hyj
          have hym := List.mem_of_getElem? hyj
          unfold Chn.at
          rw [cnt_set hLi y.T (hT y hym).1, if_neg hni, Nat.add_zero]
          exact hX y hym b' b (fun k hk => hb' k (fun e => hni (e ▸ hk))) _)
        rw [hat', hrest] at hp'
        exact List.Perm.append_left _ hp'
  · intro L st' hall hinv
    obtain ⟨b, hle⟩ := hinv
    have e : chnH L b xs = (xs.map (fun x => x.X b x.T.length)).flatten := by
      unfold chnH Chn.at
      congr 1
      refine List.map_congr_left (fun x hx => ?_)
      have : cntL L x.T = x.T.length := by
        unfold cntL
        rw [List.filter_eq_self.2 (fun y hy => hall y ((hT x hx).2.1 y hy))]
      rw [this]
    rw [pickO_all _ 0 (fun k _ hk => hall k (by simp at hk; omega)), e] at hle
    exact ⟨_, hle, hQ b⟩
theorem SCode.drawG {C : Ctx} {id : Nat} {l : List Oper} {n : Nat} {s : List (Nat × DV)} {H : DHeap} {Q : Exit → St → Prop} {D : List (Ids → ORes)} (f : Nat) (ts : List (Option Nat)) (srcs : List (List (Nat ⊕ Nat))) (Ts : List (List Nat)) (cls : List (Option (Nat × Nat))) (Ss : List (List Nat)) (base : DHeap) (xs : List Chn) (hm : C.P.follows .mixedOrders = true)
    (hB : genB l ts srcs Ts cls Ss f = true) (hT : xs.map (·.T) = Ts) (hH : ∀ b, (base ++ (xs.map (fun x => x.X b 0)).flatten).Perm H)
    (hops : GOk C l.toArray n base s xs [] l srcs cls Ss D) (hts : ∀ b, D.map (fun r => (r b).map (·.1)) = ts)
    (hQ : ∀ b, Q .normal ⟨n, resO (D.map (fun r => r b)) ++ s, base ++ (xs.map (fun x => x.X b x.T.length)).flatten⟩) : SCode C (.region id l.toArray true) ⟨n, s, H⟩ Q :=
  SCode.drawGen hm f ts srcs cls Ss base xs (by rw [hT]; exact hB) hH hops hts hQ
theorem GOk.rd {C : Ctx} {ops : Array Oper} {n : Nat} {base : DHeap} {s : List (Nat × DV)} {xs : List Chn} {D E : List (Ids → ORes)} {o : Oper} {os : List Oper} {ss : List (Nat ⊕ Nat)} {sss : List (List (Nat ⊕ Nat))} {cls : List (Option (Nat × Nat))} {Ss : List (List Nat)} (t : Nat) (d : DV) {nd : Ids → List (Nat × DV)} (hj : inlB D.length ss = true) (hn : ∀ b, NeedG D s b ss (nd b))
    (h : ∀ b rest ext, SOps C ops [o] ⟨n, nd b ++ rest, base ++ ext⟩ (fun st' => st' = ⟨n, (t, d) :: (nd b ++ rest), base ++ ext⟩)) (k : GOk C ops n base s xs ((fun _ => some (t, d)) :: D) os sss cls Ss E) :
    GOk C ops n base s xs D (o :: os) (ss :: sss) (none :: cls) ([] :: Ss) ((fun _ => some (t, d)) :: E) :=
  GOk.pure [] (fun _ => some (t, d)) hj hn h k
end Go.GH
namespace Go.GH
open Go Go.Proofs
variable {E : Env}
theorem any_take {α : Type} {f : α → Bool} {l : List α} {i : Nat} (h : i < l.length) : (l.take (i + 1)).any f = ((l.take i).any f || f l[i]) := by
  rw [List.take_add_one, List.getElem?_eq_getElem h, List.any_append]; simp
theorem filter_succ7 (p : Nat → Bool) (i : Nat) : (List.range (i + 1)).filter p = (List.range i).filter p ++ if p i then [i] else [] := by
  rw [List.range_succ, List.filter_append]
  cases h : p i <;> simp [h]
theorem getL_dup2 {t0 : Nat} {d0 d1 : DV} {l : List (Nat × DV)} {t : Nat} {d : DV} (h : getL ((t0, d0) :: l) t = some d) : getL ((t0, d0) :: (t0, d1) :: l) t = some d := by
  rw [getL_cons] at h ⊢
  split
  · rename_i e; rw [if_pos e] at h; exact h
  · rename_i e; rw [if_neg e] at h; rw [getL_cons, if_neg e]; exact h
theorem lWithin (x y : List Nat)  : GCall Tryd.prog E 27 [DNats x, DNats y] [] (fun d H => d = .v (.bool (withinB x y)) ∧ H = []) := by
  refine GCall.body (C := ⟨Tryd.prog, E, true⟩) Tryd.func27 rfl (fun _ => rfl) (by kernel_rfl) rfl ?_
  refine SCode.seqR ?_
  refine SOps.assign rfl ?_
  refine SOps.nil ?_
  refine SCode.seq ?_
  refine SCode.seqR ?_
  refine SOps.assign rfl ?_
  refine SOps.nil ?_
  refine SCode.block ?_
  refine SCode.loop1 (fun (i : Nat) => (⟨34, [(0, DNats x), (1, DNats y), (5, .v (.int .i64 (i : Int)))], []⟩ : St)) (fun (i : Nat) => i ≤ x.length ∧ ∀ n ∈ x.take i, y.any (fun m => n == m) = true) (fun (i : Nat) => x.length - i) (0) (by simp) (St.Le.of ⟨(by first | rfl | (show some _ = some _; simp)), (by first | rfl | (show some _ = some _; simp)), (by first | rfl | (show some _ = some _; simp)), trivial⟩ rfl (by first | rfl | (simp))) ?_
  rintro i ⟨hi, hf⟩
  refine SCode.fact (isl_len (t := 0) rfl) (fun hB => ?_)
  simp only [List.length_map, lenB] at hB
  refine SCode.seq ?_
  refine SCode.seqR ?_
  refine SOps.move rfl ?_
  refine SOps.move rfl ?_
  refine SOps.lenM rfl sliceB_30_3_1 ?_
  refine SOps.bin rfl rfl rfl ?_
  refine SOps.nil ?_
  refine SCode.cond rfl (fun hc1 => ?_) (fun hc1 => ?_)
  · try simp only [decide_eq_true_eq, decide_eq_false_iff_not, Bool.not_eq_true', Bool.not_eq_false', beq_iff_eq, bne_iff_ne, ne_eq, beq_eq_false_iff_ne, bne_eq_false_iff_eq, Int.not_lt, Int.not_le, Nat.not_lt, Nat.not_le, Int.ofNat_lt, Int.ofNat_le, Bool.not_eq_eq_eq_not, Bool.not_true, Bool.not_false] at hc1
    refine SCode.skip ?_
    show SCode _ _ _ _
    refine SCode.seq ?_
    refine SCode.block ?_
    refine SCode.seqR ?_
    refine SOps.assign rfl ?_
    refine SOps.nil ?_
    refine SCode.seq ?_
    refine SCode.seqR ?_
    refine SOps.assign rfl ?_
    refine SOps.nil ?_
    refine SCode.block ?_
    have hix : i < x.length := by omega
    obtain ⟨xi, hxi⟩ : ∃ n, x[i] = n := ⟨_, rfl⟩
    refine SCode.loop1 (fun (j : Nat) => (⟨34, [(0, DNats x), (1, DNats y), (5, .v (.int .i64 (i : Int))), (6, .v (.bool ((y.take j).any (fun m => xi == m)))), (7, .v (.int .i64 (j : Int)))], []⟩ : St)) (fun (j : Nat) => j ≤ y.length) (fun (j : Nat) => y.length - j) (0) (by exact Nat.zero_le _) (St.Le.of ⟨(by first | rfl | (show some _ = some _; simp)), (by first | rfl | (show some _ = some _; simp)), (by first | rfl | (show some _ = some _; simp)), (by first | rfl | (show some _ = some _; simp)), (by first | rfl | (show some _ = some _; simp)), trivial⟩ rfl (by first | rfl | (simp))) ?_
    rintro j hj
    refine SCode.fact (isl_len (t := 1) rfl) (fun hB => ?_)
    simp only [List.length_map, lenB] at hB
    refine SCode.seq ?_
    refine SCode.seqR ?_
    refine SOps.move rfl ?_
    refine SOps.move rfl ?_
    refine SOps.lenM rfl sliceB_30_3_1 ?_
    refine SOps.bin rfl rfl rfl ?_
    refine SOps.nil ?_
    refine SCode.cond rfl (fun hc2 => ?_) (fun hc2 => ?_)
    · try simp only [decide_eq_true_eq, decide_eq_false_iff_not, Bool.not_eq_true', Bool.not_eq_false', beq_iff_eq, bne_iff_ne, ne_eq, beq_eq_false_iff_ne, bne_eq_false_iff_eq, Int.not_lt, Int.not_le, Nat.not_lt, Nat.not_le, Int.ofNat_lt, Int.ofNat_le, Bool.not_eq_eq_eq_not, Bool.not_true, Bool.not_false] at hc2
      refine SCode.skip ?_
      show SCode _ _ _ _
      refine SCode.seq ?_
      refine SCode.block ?_
      have hj2 : j < y.length := by omega
      have hat := any_take (f := fun m => xi == m) hj2
      rcases (show (((y.take j).any (fun m => xi == m)) = true) ∨ (((y.take j).any (fun m => xi == m)) = false ∧ xi = y[j]) ∨ (((y.take j).any (fun m => xi == m)) = false ∧ ¬ xi = y[j]) from by rcases Bool.eq_false_or_eq_true ((y.take j).any (fun m => xi == m)) with h | h; exact .inl h; by_cases h1 : xi = y[j]; exact .inr (.inl ⟨h, h1⟩); exact .inr (.inr ⟨h, h1⟩)) with hfd | ⟨hfd, hy1⟩ | ⟨hfd, hy1⟩
      · have hst : ((y.take (j + 1)).any (fun m => xi == m)) = true := by rw [hat, hfd]; rfl
        apply SCode.drawAuto mixed_ [20, 21, 22, 23, 24, 25, 26, 27, 28, 29, 30, 31, 6] [[.inr 6], [.inl 0], [.inl 1], [.inl 1], [.inl 1], [.inl 1], [.inl 1], [.inl 1], [.inl 1], [.inl 1], [.inl 1], [.inl 1, .inl 10], [.inl 11]]
        · kernel_rfl
        · kernel_rfl
        · apply DOk.cons 20 (.v (.bool true))
          · rfl
          · exact (NeedIs.inr _ rfl NeedIs.nil)
          · intro rest
            refine SOps.move rfl ?_
            exact SOps.nil (congrArg (fun b => St.put _ 20 (.v (.bool b))) (hfd))
          apply DOk.cons 21 
          · rfl
          · exact (NeedIs.inl 0 _ _ rfl rfl NeedIs.nil)
          · intro rest
            refine SOps.move rfl ?_
            exact SOps.nil rfl
          apply DOk.cons 22 
          · rfl
          · exact (NeedIs.inl 0 _ _ rfl rfl NeedIs.nil)
          · intro rest
            refine SOps.skip rfl ?_
            exact SOps.nil rfl
          apply DOk.cons 23 
          · rfl
          · exact (NeedIs.inl 1 _ _ rfl rfl NeedIs.nil)
          · intro rest
            refine SOps.skip rfl ?_
            exact SOps.nil rfl
          apply DOk.cons 24 
          · rfl
          · exact (NeedIs.inl 2 _ _ rfl rfl NeedIs.nil)
          · intro rest
            refine SOps.skip rfl ?_
            exact SOps.nil rfl
          apply DOk.cons 25 
          · rfl
          · exact (NeedIs.inl 3 _ _ rfl rfl NeedIs.nil)
          · intro rest
            refine SOps.skip rfl ?_
            exact SOps.nil rfl
          apply DOk.cons 26 
          · rfl
          · exact (NeedIs.inl 4 _ _ rfl rfl NeedIs.nil)
          · intro rest
            refine SOps.skip rfl ?_
            exact SOps.nil rfl
          apply DOk.cons 27 
          · rfl
          · exact (NeedIs.inl 5 _ _ rfl rfl NeedIs.nil)
          · intro rest
            refine SOps.skip rfl ?_
            exact SOps.nil rfl
          apply DOk.cons 28 
          · rfl
          · exact (NeedIs.inl 6 _ _ rfl rfl NeedIs.nil)
          · intro rest
            refine SOps.skip rfl ?_
            exact SOps.nil rfl
          apply DOk.cons 29 
          · rfl
          · exact (NeedIs.inl 7 _ _ rfl rfl NeedIs.nil)
          · intro rest
            refine SOps.skip rfl ?_
            exact SOps.nil rfl
          apply DOk.cons 30 
          · rfl
          · exact (NeedIs.inl 8 _ _ rfl rfl NeedIs.nil)
          · intro rest
            refine SOps.skip rfl ?_
            exact SOps.nil rfl
          apply DOk.cons 31 
          · rfl
          · exact (NeedIs.inl 9 _ _ rfl rfl (NeedIs.inl 0 _ _ rfl rfl NeedIs.nil))
          · intro rest
            refine SOps.pick rfl rfl ?_
            exact SOps.nil rfl
          apply DOk.cons 6 
          · rfl
          · exact (NeedIs.inl 0 _ _ rfl rfl NeedIs.nil)
          · intro rest
            refine SOps.assign rfl ?_
            exact SOps.nil rfl
          exact DOk.nil
        · rfl
        · show SCode _ _ _ _
          refine SCode.region ?_
          refine SOps.move rfl ?_
          refine SOps.addI rfl rfl (by first | omega | (simp only [lenB] <;> omega)) (by first | omega | (simp only [lenB] <;> omega)) ?_
          refine SOps.assign rfl ?_
          refine SOps.nil ?_
          exact ⟨j + 1, by omega, by omega, St.Le.of ⟨rfl, rfl, rfl, (by show some _ = some _; rw [hst]), rfl, trivial⟩⟩
      · have hst : ((y.take (j + 1)).any (fun m => xi == m)) = true := by rw [hat, hfd, hy1, beq_self_eq_true]; rfl
        apply SCode.drawAuto mixed_ [20, 21, 22, 23, 24, 25, 26, 27, 28, 29, 30, 31, 6] [[.inr 6], [.inl 0], [.inl 1, .inr 0], [.inl 1, .inr 5], [.inl 1, .inl 2, .inl 3], [.inl 1, .inl 4], [.inl 1, .inr 1], [.inl 1, .inr 7], [.inl 1, .inl 6, .inl 7], [.inl 1, .inl 8], [.inl 1, .inl 5, .inl 9], [.inl 1, .inl 10], [.inl 11]]
        · kernel_rfl
        · kernel_rfl
        · apply DOk.cons 20 (.v (.bool false))
          · rfl
          · exact (NeedIs.inr _ rfl NeedIs.nil)
          · intro rest
            refine SOps.move rfl ?_
            exact SOps.nil (congrArg (fun b => St.put _ 20 (.v (.bool b))) (hfd))
          apply DOk.cons 21 
          · rfl
          · exact (NeedIs.inl 0 _ _ rfl rfl NeedIs.nil)
          · intro rest
            refine SOps.move rfl ?_
            exact SOps.nil rfl
          apply DOk.cons 22 
          · rfl
          · exact (NeedIs.inl 0 _ _ rfl rfl (NeedIs.inr _ rfl NeedIs.nil))
          · intro rest
            refine SOps.move rfl ?_
            exact SOps.nil rfl
          apply DOk.cons 23 
          · rfl
          · exact (NeedIs.inl 1 _ _ rfl rfl (NeedIs.inr _ rfl NeedIs.nil))
          · intro rest
            refine SOps.move rfl ?_
            exact SOps.nil rfl
          apply DOk.cons 24 
          · rfl
          · exact (NeedIs.inl 2 _ _ rfl rfl (NeedIs.inl 1 _ _ rfl rfl (NeedIs.inl 0 _ _ rfl rfl NeedIs.nil)))
          · intro rest
            refine SOps.indexM (i) rfl rfl sliceB_30_3_1 (by first | omega | (simp only [lenB] <;> omega)) (by first | omega | (simp only [lenB] <;> omega)) ?_
            exact SOps.nil rfl
          apply DOk.cons 25 
          · rfl
          · exact (NeedIs.inl 3 _ _ rfl rfl (NeedIs.inl 0 _ _ rfl rfl NeedIs.nil))
          · intro rest
            refine SOps.loadPin rfl flatB_3 ?_
            exact SOps.nil rfl
          apply DOk.cons 26 
          · rfl
          · exact (NeedIs.inl 4 _ _ rfl rfl (NeedIs.inr _ rfl NeedIs.nil))
          · intro rest
            refine SOps.move rfl ?_
            exact SOps.nil rfl
          apply DOk.cons 27 
          · rfl
          · exact (NeedIs.inl 5 _ _ rfl rfl (NeedIs.inr _ rfl NeedIs.nil))
          · intro rest
            refine SOps.move rfl ?_
            exact SOps.nil rfl
          apply DOk.cons 28 
          · rfl
          · exact (NeedIs.inl 6 _ _ rfl rfl (NeedIs.inl 1 _ _ rfl rfl (NeedIs.inl 0 _ _ rfl rfl NeedIs.nil)))
          · intro rest
            refine SOps.indexM (j) rfl rfl sliceB_30_3_1 (by first | omega | (simp only [lenB] <;> omega)) (by first | omega | (simp only [lenB] <;> omega)) ?_
            exact SOps.nil rfl
          apply DOk.cons 29 
          · rfl
          · exact (NeedIs.inl 7 _ _ rfl rfl (NeedIs.inl 0 _ _ rfl rfl NeedIs.nil))
          · intro rest
            refine SOps.loadPin rfl flatB_3 ?_
            exact SOps.nil rfl
          apply DOk.cons 30 (.v (.bool true))
          · rfl
          · exact (NeedIs.inl 8 _ _ rfl rfl (NeedIs.inl 4 _ _ rfl rfl (NeedIs.inl 0 _ _ rfl rfl NeedIs.nil)))
          · intro rest
            refine SOps.bin rfl rfl rfl ?_
            exact SOps.nil (congrArg (fun b => St.put _ 30 (.v (.bool b))) (beq_iff_eq.2 (congrArg (fun n : Nat => (n : Int)) (hxi.trans hy1))))
          apply DOk.cons 31 
          · rfl
          · exact (NeedIs.inl 9 _ _ rfl rfl (NeedIs.inl 0 _ _ rfl rfl NeedIs.nil))
          · intro rest
            refine SOps.pick rfl rfl ?_
            exact SOps.nil rfl
          apply DOk.cons 6 
          · rfl
          · exact (NeedIs.inl 0 _ _ rfl rfl NeedIs.nil)
          · intro rest
            refine SOps.assign rfl ?_
            exact SOps.nil rfl
          exact DOk.nil
        · rfl
        · show SCode _ _ _ _
          refine SCode.region ?_
          refine SOps.move rfl ?_
          refine SOps.addI rfl rfl (by first | omega | (simp only [lenB] <;> omega)) (by first | omega | (simp only [lenB] <;> omega)) ?_
          refine SOps.assign rfl ?_
          refine SOps.nil ?_
          exact ⟨j + 1, by omega, by omega, St.Le.of ⟨rfl, rfl, rfl, (by show some _ = some _; rw [hst]), rfl, trivial⟩⟩
      · have hst : ((y.take (j + 1)).any (fun m => xi == m)) = false := by rw [hat, hfd, beq_eq_false_iff_ne.2 hy1]; rfl
        apply SCode.drawAuto mixed_ [20, 21, 22, 23, 24, 25, 26, 27, 28, 29, 30, 31, 6] [[.inr 6], [.inl 0], [.inl 1, .inr 0], [.inl 1, .inr 5], [.inl 1, .inl 2, .inl 3], [.inl 1, .inl 4], [.inl 1, .inr 1], [.inl 1, .inr 7], [.inl 1, .inl 6, .inl 7], [.inl 1, .inl 8], [.inl 1, .inl 5, .inl 9], [.inl 1, .inl 10], [.inl 11]]
        · kernel_rfl
        · kernel_rfl
        · apply DOk.cons 20 (.v (.bool false))
          · rfl
          · exact (NeedIs.inr _ rfl NeedIs.nil)
          · intro rest
            refine SOps.move rfl ?_
            exact SOps.nil (congrArg (fun b => St.put _ 20 (.v (.bool b))) (hfd))
          apply DOk.cons 21 
          · rfl
          · exact (NeedIs.inl 0 _ _ rfl rfl NeedIs.nil)
          · intro rest
            refine SOps.move rfl ?_
            exact SOps.nil rfl
          apply DOk.cons 22 
          · rfl
          · exact (NeedIs.inl 0 _ _ rfl rfl (NeedIs.inr _ rfl NeedIs.nil))
          · intro rest
            refine SOps.move rfl ?_
            exact SOps.nil rfl
          apply DOk.cons 23 
          · rfl
          · exact (NeedIs.inl 1 _ _ rfl rfl (NeedIs.inr _ rfl NeedIs.nil))
          · intro rest
            refine SOps.move rfl ?_
            exact SOps.nil rfl
          apply DOk.cons 24 
          · rfl
          · exact (NeedIs.inl 2 _ _ rfl rfl (NeedIs.inl 1 _ _ rfl rfl (NeedIs.inl 0 _ _ rfl rfl NeedIs.nil)))
          · intro rest
            refine SOps.indexM (i) rfl rfl sliceB_30_3_1 (by first | omega | (simp only [lenB] <;> omega)) (by first | omega | (simp only [lenB] <;> omega)) ?_
            exact SOps.nil rfl
          apply DOk.cons 25 
          · rfl
          · exact (NeedIs.inl 3 _ _ rfl rfl (NeedIs.inl 0 _ _ rfl rfl NeedIs.nil))
          · intro rest
            refine SOps.loadPin rfl flatB_3 ?_
            exact SOps.nil rfl
          apply DOk.cons 26 
          · rfl
          · exact (NeedIs.inl 4 _ _ rfl rfl (NeedIs.inr _ rfl NeedIs.nil))
          · intro rest
            refine SOps.move rfl ?_
            exact SOps.nil rfl
          apply DOk.cons 27 
          · rfl
          · exact (NeedIs.inl 5 _ _ rfl rfl (NeedIs.inr _ rfl NeedIs.nil))
          · intro rest
            refine SOps.move rfl ?_
            exact SOps.nil rfl
          apply DOk.cons 28 
          · rfl
          · exact (NeedIs.inl 6 _ _ rfl rfl (NeedIs.inl 1 _ _ rfl rfl (NeedIs.inl 0 _ _ rfl rfl NeedIs.nil)))
          · intro rest
            refine SOps.indexM (j) rfl rfl sliceB_30_3_1 (by first | omega | (simp only [lenB] <;> omega)) (by first | omega | (simp only [lenB] <;> omega)) ?_
            exact SOps.nil rfl
          apply DOk.cons 29 
          · rfl
          · exact (NeedIs.inl 7 _ _ rfl rfl (NeedIs.inl 0 _ _ rfl rfl NeedIs.nil))
          · intro rest
            refine SOps.loadPin rfl flatB_3 ?_
            exact SOps.nil rfl
          apply DOk.cons 30 (.v (.bool false))
          · rfl
          · exact (NeedIs.inl 8 _ _ rfl rfl (NeedIs.inl 4 _ _ rfl rfl (NeedIs.inl 0 _ _ rfl rfl NeedIs.nil)))
          · intro rest
            refine SOps.bin rfl rfl rfl ?_
            exact SOps.nil (congrArg (fun b => St.put _ 30 (.v (.bool b))) (beq_eq_false_iff_ne.2 (fun e => (fun e2 => hy1 (hxi.symm.trans e2)) (Int.ofNat_inj.1 e))))
          apply DOk.cons 31 
          · rfl
          · exact (NeedIs.inl 9 _ _ rfl rfl (NeedIs.inl 0 _ _ rfl rfl NeedIs.nil))
          · intro rest
            refine SOps.pick rfl rfl ?_
            exact SOps.nil rfl
          apply DOk.cons 6 
          · rfl
          · exact (NeedIs.inl 0 _ _ rfl rfl NeedIs.nil)
          · intro rest
            refine SOps.assign rfl ?_
            exact SOps.nil rfl
          exact DOk.nil
        · rfl
        · show SCode _ _ _ _
          refine SCode.region ?_
          refine SOps.move rfl ?_
          refine SOps.addI rfl rfl (by first | omega | (simp only [lenB] <;> omega)) (by first | omega | (simp only [lenB] <;> omega)) ?_
          refine SOps.assign rfl ?_
          refine SOps.nil ?_
          exact ⟨j + 1, by omega, by omega, St.Le.of ⟨rfl, rfl, rfl, (by show some _ = some _; rw [hst]), rfl, trivial⟩⟩
    · try simp only [decide_eq_true_eq, decide_eq_false_iff_not, Bool.not_eq_true', Bool.not_eq_false', beq_iff_eq, bne_iff_ne, ne_eq, beq_eq_false_iff_ne, bne_eq_false_iff_eq, Int.not_lt, Int.not_le, Nat.not_lt, Nat.not_le, Int.ofNat_lt, Int.ofNat_le, Bool.not_eq_eq_eq_not, Bool.not_true, Bool.not_false] at hc2
      refine SCode.exit ?_
      show SCode _ _ _ _
      refine SCode.seqR ?_
      refine SOps.move rfl ?_
      refine SOps.un rfl rfl ?_
      refine SOps.nil ?_
      refine SCode.cond rfl (fun hc3 => ?_) (fun hc3 => ?_)
      · try simp only [decide_eq_true_eq, decide_eq_false_iff_not, Bool.not_eq_true', Bool.not_eq_false', beq_iff_eq, bne_iff_ne, ne_eq, beq_eq_false_iff_ne, bne_eq_false_iff_eq, Int.not_lt, Int.not_le, Nat.not_lt, Nat.not_le, Int.ofNat_lt, Int.ofNat_le, Bool.not_eq_eq_eq_not, Bool.not_true, Bool.not_false] at hc3
        have hy9 : y.any (fun m => xi == m) = false := by have h := hc3; rw [List.take_of_length_le (by omega)] at h; exact h
        refine SCode.seqR ?_
        refine SOps.assign rfl ?_
        refine SOps.nil ?_
        refine SCode.ret ?_
        exact ⟨_, Res.one (.tmp rfl), congrArg (fun b => DV.v (.bool b)) (Eq.symm (Bool.eq_false_iff.2 (fun h => by unfold withinB at h; have := List.all_eq_true.1 h _ (List.getElem_mem hix); rw [hxi, hy9] at this; cases this))), rfl⟩
      · try simp only [decide_eq_true_eq, decide_eq_false_iff_not, Bool.not_eq_true', Bool.not_eq_false', beq_iff_eq, bne_iff_ne, ne_eq, beq_eq_false_iff_ne, bne_eq_false_iff_eq, Int.not_lt, Int.not_le, Nat.not_lt, Nat.not_le, Int.ofNat_lt, Int.ofNat_le, Bool.not_eq_eq_eq_not, Bool.not_true, Bool.not_false] at hc3
        have hy9 : y.any (fun m => xi == m) = true := by have h := hc3; rw [List.take_of_length_le (by omega)] at h; exact h
        refine SCode.skip ?_
        show SCode _ _ _ _
        refine SCode.region ?_
        refine SOps.move rfl ?_
        refine SOps.addI rfl rfl (by first | omega | (simp only [lenB] <;> omega)) (by first | omega | (simp only [lenB] <;> omega)) ?_
        refine SOps.assign rfl ?_
        refine SOps.nil ?_
        exact ⟨i + 1, by exact ⟨by omega, take_more hf hix (by rw [hxi]; exact hy9)⟩, by omega, (St.Le.of ⟨(by first | rfl | (show some _ = some _; simp)), (by first | rfl | (show some _ = some _; simp)), (by first | rfl | (show some _ = some _; simp)), trivial⟩ rfl (by first | rfl | (simp)))⟩
  · try simp only [decide_eq_true_eq, decide_eq_false_iff_not, Bool.not_eq_true', Bool.not_eq_false', beq_iff_eq, bne_iff_ne, ne_eq, beq_eq_false_iff_ne, bne_eq_false_iff_eq, Int.not_lt, Int.not_le, Nat.not_lt, Nat.not_le, Int.ofNat_lt, Int.ofNat_le, Bool.not_eq_eq_eq_not, Bool.not_true, Bool.not_false] at hc1
    refine SCode.exit ?_
    show SCode _ _ _ _
    refine SCode.seqR ?_
    refine SOps.assign rfl ?_
    refine SOps.nil ?_
    refine SCode.ret ?_
    exact ⟨_, Res.one (.tmp rfl), congrArg (fun b => DV.v (.bool b)) (by unfold withinB; exact (List.all_eq_true.2 (all_of (by omega) hf)).symm), rfl⟩
theorem l7Contexts (hV : VS E) (hA : AW7 E) (a : List Letter) (r : Rule) (s : ByteArray) (hr : SmR r) (hs : s.size ≤ 1048576) : GCall Tryd.prog E 10 [DLs a, .agg (encR r), .v (.string s)] [] (fun d H => d = .v (.bool true) ∧ H = []) := by
  refine GCall.body (C := ⟨Tryd.prog, E, true⟩) Tryd.func10 rfl (fun _ => rfl) (by kernel_rfl) rfl ?_
  refine SCode.seqR ?_
  refine SOps.boxAM rfl rfl ?_
  refine SOps.assign rfl ?_
  refine SOps.nil ?_
  refine SCode.seq ?_
  refine SCode.seqR ?_
  refine SOps.move rfl ?_
  refine SOps.loadPinA rfl aggB_25_6 (Nat.le_of_ble_eq_true rfl) ?_
  refine SOps.move rfl ?_
  refine SOps.callP (lSmall _ _ _) rfl ?_
  rintro _ rfl
  refine SOps.un rfl rfl ?_
  refine SOps.move rfl ?_
  refine SOps.caseB 19 rfl (fun hb1 => ?_) (fun hb1 => ?_)
  · try simp only [decide_eq_true_eq, decide_eq_false_iff_not, Bool.not_eq_true', Bool.not_eq_false', beq_iff_eq, bne_iff_ne, ne_eq, beq_eq_false_iff_ne, bne_eq_false_iff_eq, Int.not_lt, Int.not_le, Nat.not_lt, Nat.not_le, Int.ofNat_lt, Int.ofNat_le, Bool.not_eq_eq_eq_not, Bool.not_true, Bool.not_false] at hb1
    refine SOps.skip rfl ?_
    refine SOps.skip rfl ?_
    refine SOps.skip rfl ?_
    refine SOps.skip rfl ?_
    refine SOps.pick rfl rfl ?_
    refine SOps.move rfl ?_
    refine SOps.skip rfl ?_
    refine SOps.skip rfl ?_
    refine SOps.skip rfl ?_
    refine SOps.skip rfl ?_
    refine SOps.pick rfl rfl ?_
    refine SOps.nil ?_
    refine SCode.cond rfl (fun _ => ?_) (fun h => by cases h)
    refine SCode.seqR ?_
    refine SOps.callP hA rfl ?_
    rintro _ rfl
    refine SOps.assign rfl ?_
    refine SOps.nil ?_
    refine SCode.ret ?_
    exact ⟨_, Res.one (.tmp rfl), rfl, rfl⟩
  · try simp only [decide_eq_true_eq, decide_eq_false_iff_not, Bool.not_eq_true', Bool.not_eq_false', beq_iff_eq, bne_iff_ne, ne_eq, beq_eq_false_iff_ne, bne_eq_false_iff_eq, Int.not_lt, Int.not_le, Nat.not_lt, Nat.not_le, Int.ofNat_lt, Int.ofNat_le, Bool.not_eq_eq_eq_not, Bool.not_true, Bool.not_false] at hb1
    refine SOps.move rfl ?_
    refine SOps.loadPinA rfl aggB_25_6 (Nat.le_of_ble_eq_true rfl) ?_
    refine SOps.callP (rValid hV _ _ (by assumption)) rfl ?_
    rintro _ rfl
    refine SOps.un rfl rfl ?_
    refine SOps.pick rfl rfl ?_
    refine SOps.move rfl ?_
    refine SOps.caseB 25 rfl (fun hb2 => ?_) (fun hb2 => ?_)
    · try simp only [decide_eq_true_eq, decide_eq_false_iff_not, Bool.not_eq_true', Bool.not_eq_false', beq_iff_eq, bne_iff_ne, ne_eq, beq_eq_false_iff_ne, bne_eq_false_iff_eq, Int.not_lt, Int.not_le, Nat.not_lt, Nat.not_le, Int.ofNat_lt, Int.ofNat_le, Bool.not_eq_eq_eq_not, Bool.not_true, Bool.not_false] at hb2
      refine SOps.skip rfl ?_
      refine SOps.skip rfl ?_
      refine SOps.skip rfl ?_
      refine SOps.skip rfl ?_
      refine SOps.pick rfl rfl ?_
      refine SOps.nil ?_
      refine SCode.cond rfl (fun _ => ?_) (fun h => by cases h)
      refine SCode.seqR ?_
      refine SOps.callP hA rfl ?_
      rintro _ rfl
      refine SOps.assign rfl ?_
      refine SOps.nil ?_
      refine SCode.ret ?_
      exact ⟨_, Res.one (.tmp rfl), rfl, rfl⟩
    · try simp only [decide_eq_true_eq, decide_eq_false_iff_not, Bool.not_eq_true', Bool.not_eq_false', beq_iff_eq, bne_iff_ne, ne_eq, beq_eq_false_iff_ne, bne_eq_false_iff_eq, Int.not_lt, Int.not_le, Nat.not_lt, Nat.not_le, Int.ofNat_lt, Int.ofNat_le, Bool.not_eq_eq_eq_not, Bool.not_true, Bool.not_false] at hb2
      refine SOps.move rfl ?_
      refine SOps.move rfl ?_
      refine SOps.callP (qWord hV _ _) rfl ?_
      rintro _ rfl
      refine SOps.un rfl rfl ?_
      refine SOps.pick rfl rfl ?_
      refine SOps.nil ?_
      refine SCode.cond rfl (fun hc3 => ?_) (fun hc3 => ?_)
      · try simp only [decide_eq_true_eq, decide_eq_false_iff_not, Bool.not_eq_true', Bool.not_eq_false', beq_iff_eq, bne_iff_ne, ne_eq, beq_eq_false_iff_ne, bne_eq_false_iff_eq, Int.not_lt, Int.not_le, Nat.not_lt, Nat.not_le, Int.ofNat_lt, Int.ofNat_le, Bool.not_eq_eq_eq_not, Bool.not_true, Bool.not_false] at hc3
        refine SCode.seqR ?_
        refine SOps.callP hA rfl ?_
        rintro _ rfl
        refine SOps.assign rfl ?_
        refine SOps.nil ?_
        refine SCode.ret ?_
        exact ⟨_, Res.one (.tmp rfl), rfl, rfl⟩
      · try simp only [decide_eq_true_eq, decide_eq_false_iff_not, Bool.not_eq_true', Bool.not_eq_false', beq_iff_eq, bne_iff_ne, ne_eq, beq_eq_false_iff_ne, bne_eq_false_iff_eq, Int.not_lt, Int.not_le, Nat.not_lt, Nat.not_le, Int.ofNat_lt, Int.ofNat_le, Bool.not_eq_eq_eq_not, Bool.not_true, Bool.not_false] at hc3
        refine SCode.skip ?_
        show SCode _ _ _ _
        refine SCode.seqR ?_
        refine SOps.fieldPin rfl fieldB_25_0_0 ?_
        refine SOps.loadPin rfl flatB_21 ?_
        refine SOps.fieldPin rfl fieldB_25_1_1 ?_
        refine SOps.loadPin rfl flatB_9 ?_
        refine SOps.buildM placesB_25 zeroIs_25 rfl rfl ?_
        refine SOps.relab (t := 36) (d' := .agg (encR (bareR r))) rfl (fun w F v hv => rep_aggNil (sz := 4) 3 (rep_aggNil (sz := 4) 2 hv rfl) rfl) ?_
        refine SOps.alloc (sz := 6) zeroIs_25 (fun b0 hb_0 => ?_)
        refine SOps.storeAM 0 rfl rfl aggB_25_6 rfl ?_
        refine SOps.freezeRef (t := 7) 0 0 rfl rfl rfl rfl rfl ?_
        refine SOps.nil ?_
        refine SCode.seq ?_
        apply SCode.drawG 7 [some 37, some 38, some 8, some 9, none, none] [[.inr 4], [.inr 4], [], [], [.inl 2, .inl 0], [.inl 3, .inl 1]] [[2, 4], [3, 5]] [none, none, some (0, 0), some (1, 0), some (0, 1), some (1, 1)] [[], [], [2], [3], [], []] ([]) [⟨[2, 4], fun ids c => match c with | 0 => [] | 1 => [((ids.getD 0 0), .row 25 6 [[.v (.int .i32 0), .v (.string .empty), .v (.slice none 0 0), .v (.slice none 0 0), .v (.bool false), .v (.bool false)]])] | _ => [((ids.getD 0 0), .row 25 6 [encR r])]⟩, ⟨[3, 5], fun ids c => match c with | 0 => [] | 1 => [((ids.getD 0 0), .row 25 6 [[.v (.int .i32 0), .v (.string .empty), .v (.slice none 0 0), .v (.slice none 0 0), .v (.bool false), .v (.bool false)]])] | _ => [((ids.getD 0 0), .row 25 6 [encR r])]⟩] mixed_
        · kernel_rfl
        · rfl
        · exact fun _ => .refl _
        · apply GOk.rd 37
          · rfl
          · exact fun b => (NeedG.inr _ rfl NeedG.nil)
          · intro b rest ext
            refine SOps.loadPinA rfl aggB_25_6 (Nat.le_of_ble_eq_true rfl) ?_
            exact SOps.nil rfl
          apply GOk.rd 38
          · rfl
          · exact fun b => (NeedG.inr _ rfl NeedG.nil)
          · intro b rest ext
            refine SOps.loadPinA rfl aggB_25_6 (Nat.le_of_ble_eq_true rfl) ?_
            exact SOps.nil rfl
          apply GOk.act [2] (fun ids => some (8, .ref (ids.getD 0 0) 0))
          · rfl
          · rfl
          · rfl
          · exact fun b => NeedG.nil
          · intro b rest ext
            refine SOps.alloc (sz := 6) zeroIs_25 (fun b1 hb_1 => ?_)
            exact SOps.nil ⟨fun k => if k = 2 then b1 else b k, fun k hk => if_neg hk, ⟨rfl, fun t d h => .inl h, _, List.perm_middle, .refl _⟩⟩
          apply GOk.act [3] (fun ids => some (9, .ref (ids.getD 0 0) 0))
          · rfl
          · rfl
          · rfl
          · exact fun b => NeedG.nil
          · intro b rest ext
            refine SOps.alloc (sz := 6) zeroIs_25 (fun b2 hb_2 => ?_)
            exact SOps.nil ⟨fun k => if k = 3 then b2 else b k, fun k hk => if_neg hk, ⟨rfl, fun t d h => .inl h, _, List.perm_middle, .refl _⟩⟩
          apply GOk.act [] (fun _ => none)
          · rfl
          · rfl
          · rfl
          · exact fun b => (NeedG.inl 1 _ _ rfl rfl rfl (NeedG.inl 3 _ _ rfl rfl rfl NeedG.nil))
          · intro b rest ext
            refine SOps.storeAM 0 rfl rfl aggB_25_6 rfl ?_
            exact SOps.nil ⟨b, fun _ _ => rfl, ⟨rfl, fun t d h => .inl h, _, .refl _, .refl _⟩⟩
          apply GOk.act [] (fun _ => none)
          · rfl
          · rfl
          · rfl
          · exact fun b => (NeedG.inl 1 _ _ rfl rfl rfl (NeedG.inl 3 _ _ rfl rfl rfl NeedG.nil))
          · intro b rest ext
            refine SOps.storeAM 0 rfl rfl aggB_25_6 rfl ?_
            exact SOps.nil ⟨b, fun _ _ => rfl, ⟨rfl, fun t d h => .inl h, _, .refl _, .refl _⟩⟩
          exact GOk.nil
        · exact fun _ => rfl
        · intro ids
          show SCode _ _ _ _
          refine SCode.seqR ?_
          refine SOps.fieldRef rfl fieldB_25_4_4 ?_
          refine SOps.store 0 0 4 rfl rfl oneB_4 rfl rfl rfl (by decide) rfl ?_
          refine SOps.fieldRef rfl fieldB_25_5_5 ?_
          refine SOps.store 0 0 5 rfl rfl oneB_4 rfl rfl rfl (by decide) rfl ?_
          refine SOps.nil ?_
          refine SCode.seqR ?_
          refine SOps.fieldRef rfl fieldB_25_4_4 ?_
          refine SOps.store 1 0 4 rfl rfl oneB_4 rfl rfl rfl (by decide) rfl ?_
          refine SOps.fieldRef rfl fieldB_25_5_5 ?_
          refine SOps.store 1 0 5 rfl rfl oneB_4 rfl rfl rfl (by decide) rfl ?_
          refine SOps.nil ?_
          refine SCode.seqR ?_
          refine SOps.freezeRef (t := 8) 0 0 rfl rfl rfl rfl rfl ?_
          refine SOps.reSlot (t := 8) rfl (show _ = DV.ipin (encR (edgeR r false)) from rfl) ?_
          refine SOps.freezeRef (t := 9) 0 0 rfl rfl rfl rfl rfl ?_
          refine SOps.reSlot (t := 9) rfl (show _ = DV.ipin (encR (edgeR r true)) from rfl) ?_
          refine SOps.move rfl ?_
          refine SOps.runesF rfl rfl strB_9 sliceB_35_21_1 intB_21_i32 ?_
          refine SOps.assign rfl ?_
          refine SOps.nil ?_
          refine SCode.seqR ?_
          refine SOps.litO sliceB_30_3_1 zeroIs_3 rfl (fun b3 hb_3 => ?_)
          refine SOps.assign rfl ?_
          refine SOps.nil ?_
          refine SCode.seq ?_
          refine SCode.seqR ?_
          refine SOps.assign rfl ?_
          refine SOps.nil ?_
          refine SCode.block ?_
          refine SCode.loop2 (fun (i : Nat) (k : Nat) => (⟨114, [(0, DLs a), (2, .v (.string s)), (4, .ipin (encR r)), (7, .ipin (encR (bareR r))), (8, .ipin (encR (edgeR r false))), (9, .ipin (encR (edgeR r true))), (10, DRunes (runes s)), (11, .sl k 1 0 ((List.range i).filter (frB r (runes s))).length), (12, .v (.int .i64 (i : Int)))], [(k, .row 3 1 (((List.range i).filter (frB r (runes s))).map encN))]⟩ : St)) (fun (i : Nat) (k : Nat) => i ≤ (runes s).length + 1) (fun (i : Nat) (k : Nat) => (runes s).length + 1 - i) (0) (b3) (by exact Nat.zero_le _) (St.Le.of ⟨(by first | rfl | (show some _ = some _; simp)), (by first | rfl | (show some _ = some _; simp)), (by first | rfl | (show some _ = some _; simp)), (by first | rfl | (show some _ = some _; simp)), (by first | rfl | (show some _ = some _; simp)), (by first | rfl | (show some _ = some _; simp)), (by first | rfl | (show some _ = some _; simp)), (by first | rfl | (show some _ = some _; simp)), (by first | rfl | (show some _ = some _; simp)), trivial⟩ rfl (by first | rfl | (simp))) ?_
          rintro i k hi
          have hfl : ((List.range i).filter (frB r (runes s))).length ≤ i := Nat.le_trans (List.length_filter_le _ _) (by simp)
          have hrn := runes_len s
          refine SCode.seq ?_
          refine SCode.seqR ?_
          refine SOps.move rfl ?_
          refine SOps.move rfl ?_
          refine SOps.lenM rfl sliceB_35_21_1 ?_
          refine SOps.bin rfl rfl rfl ?_
          refine SOps.nil ?_
          refine SCode.cond rfl (fun hc4 => ?_) (fun hc4 => ?_)
          · try simp only [decide_eq_true_eq, decide_eq_false_iff_not, Bool.not_eq_true', Bool.not_eq_false', beq_iff_eq, bne_iff_ne, ne_eq, beq_eq_false_iff_ne, bne_eq_false_iff_eq, Int.not_lt, Int.not_le, Nat.not_lt, Nat.not_le, Int.ofNat_lt, Int.ofNat_le, Bool.not_eq_eq_eq_not, Bool.not_true, Bool.not_false] at hc4
            refine SCode.skip ?_
            show SCode _ _ _ _
            refine SCode.seq ?_
            refine SCode.block ?_
            refine SCode.seq ?_
            rcases (show r.fr = 0 ∨ (¬ r.fr = 0 ∧ ¬ i < (runes s).length) ∨ (∃ (h : i < (runes s).length), ¬ r.fr = 0 ∧ (runes s)[i] = r.fr) ∨ (∃ (h : i < (runes s).length), ¬ r.fr = 0 ∧ ¬ (runes s)[i] = r.fr) from by by_cases h1 : r.fr = 0; exact .inl h1; by_cases h2 : i < (runes s).length; by_cases h3 : (runes s)[i] = r.fr; exact .inr (.inr (.inl ⟨h2, h1, h3⟩)); exact .inr (.inr (.inr ⟨h2, h1, h3⟩)); exact .inr (.inl ⟨h1, h2⟩)) with hq | ⟨hq, hil⟩ | ⟨hil, hq, hwi⟩ | ⟨hil, hq, hwi⟩
            · have hfr : frB r (runes s) i = true := by unfold frB; rw [decide_eq_true hq]; rfl
              apply SCode.drawAuto mixed_ [52, 53, 54, 55, 56, 57, 58, 59, 60, 61, 62, 63, 64, 65, 66, 67, 68, 69] [[.inr 4], [.inl 0], [.inl 1], [.inl 2], [.inl 3], [.inl 3], [.inl 3], [.inl 3], [.inl 3], [.inl 8], [.inl 8], [.inl 8], [.inl 8], [.inl 8], [.inl 8], [.inl 8], [.inl 3], [.inl 3, .inl 16]]
              · kernel_rfl
              · kernel_rfl
              · apply DOk.cons 52 
                · rfl
                · exact (NeedIs.inr _ rfl NeedIs.nil)
                · intro rest
                  refine SOps.fieldPin rfl fieldB_25_0_0 ?_
                  exact SOps.nil rfl
                apply DOk.cons 53 
                · rfl
                · exact (NeedIs.inl 0 _ _ rfl rfl NeedIs.nil)
                · intro rest
                  refine SOps.loadPin rfl flatB_21 ?_
                  exact SOps.nil rfl
                apply DOk.cons 54 (.v (.bool true))
                · rfl
                · exact (NeedIs.inl 0 _ _ rfl rfl NeedIs.nil)
                · intro rest
                  refine SOps.bin rfl rfl rfl ?_
                  exact SOps.nil (congrArg (fun b => St.put _ 54 (.v (.bool b))) (beq_iff_eq.2 hq))
                apply DOk.cons 55 
                · rfl
                · exact (NeedIs.inl 0 _ _ rfl rfl NeedIs.nil)
                · intro rest
                  refine SOps.move rfl ?_
                  exact SOps.nil rfl
                apply DOk.cons 56 
                · rfl
                · exact (NeedIs.inl 0 _ _ rfl rfl NeedIs.nil)
                · intro rest
                  refine SOps.skip rfl ?_
                  exact SOps.nil rfl
                apply DOk.cons 57 
                · rfl
                · exact (NeedIs.inl 1 _ _ rfl rfl NeedIs.nil)
                · intro rest
                  refine SOps.skip rfl ?_
                  exact SOps.nil rfl
                apply DOk.cons 58 
                · rfl
                · exact (NeedIs.inl 2 _ _ rfl rfl NeedIs.nil)
                · intro rest
                  refine SOps.skip rfl ?_
                  exact SOps.nil rfl
                apply DOk.cons 59 
                · rfl
                · exact (NeedIs.inl 3 _ _ rfl rfl NeedIs.nil)
                · intro rest
                  refine SOps.skip rfl ?_
                  exact SOps.nil rfl
                apply DOk.cons 60 
                · rfl
                · exact (NeedIs.inl 4 _ _ rfl rfl NeedIs.nil)
                · intro rest
                  refine SOps.skip rfl ?_
                  exact SOps.nil rfl
                apply DOk.cons 61 
                · rfl
                · exact (NeedIs.inl 0 _ _ rfl rfl NeedIs.nil)
                · intro rest
                  refine SOps.skip rfl ?_
                  exact SOps.nil rfl
                apply DOk.cons 62 
                · rfl
                · exact (NeedIs.inl 1 _ _ rfl rfl NeedIs.nil)
                · intro rest
                  refine SOps.skip rfl ?_
                  exact SOps.nil rfl
                apply DOk.cons 63 
                · rfl
                · exact (NeedIs.inl 2 _ _ rfl rfl NeedIs.nil)
                · intro rest
                  refine SOps.skip rfl ?_
                  exact SOps.nil rfl
                apply DOk.cons 64 
                · rfl
                · exact (NeedIs.inl 3 _ _ rfl rfl NeedIs.nil)
                · intro rest
                  refine SOps.skip rfl ?_
                  exact SOps.nil rfl
                apply DOk.cons 65 
                · rfl
                · exact (NeedIs.inl 4 _ _ rfl rfl NeedIs.nil)
                · intro rest
                  refine SOps.skip rfl ?_
                  exact SOps.nil rfl
                apply DOk.cons 66 
                · rfl
                · exact (NeedIs.inl 5 _ _ rfl rfl NeedIs.nil)
                · intro rest
                  refine SOps.skip rfl ?_
                  exact SOps.nil rfl
                apply DOk.cons 67 
                · rfl
                · exact (NeedIs.inl 6 _ _ rfl rfl NeedIs.nil)
                · intro rest
                  refine SOps.skip rfl ?_
                  exact SOps.nil rfl
                apply DOk.cons 68 
                · rfl
                · exact (NeedIs.inl 12 _ _ rfl rfl NeedIs.nil)
                · intro rest
                  refine SOps.skip rfl ?_
                  exact SOps.nil rfl
                apply DOk.cons 69 
                · rfl
                · exact (NeedIs.inl 13 _ _ rfl rfl (NeedIs.inl 0 _ _ rfl rfl NeedIs.nil))
                · intro rest
                  refine SOps.pick rfl rfl ?_
                  exact SOps.nil rfl
                exact DOk.nil
              · rfl
              · show SCode _ _ _ _
                refine SCode.cond rfl (fun _ => ?_) (fun h => by cases h)
                refine SCode.region ?_
                refine SOps.move rfl ?_
                refine SOps.move rfl ?_
                refine SOps.litF rfl sliceB_30_3_1 zeroIs_3 rfl ?_
                refine SOps.appendOwn 0 sliceB_30_3_1 elemB_3_1_8 rfl rfl rfl (by simp) SrcD.isl (by simp) (by first | (simp [lenB] <;> (first | omega | (simp only [lenB]; omega))) | (simp only [lenB]; (first | omega | (simp only [lenB]; omega)))) (by first | (simp <;> (first | omega | (simp only [lenB]; omega))) | (first | omega | (simp only [lenB]; omega))) (fun b4 hb_4 => ?_)
                refine SOps.assign rfl ?_
                refine SOps.nil ?_
                show SCode _ _ _ _
                refine SCode.region ?_
                refine SOps.move rfl ?_
                refine SOps.addI rfl rfl (by first | omega | (simp only [lenB]; omega)) (by first | omega | (simp only [lenB]; omega)) ?_
                refine SOps.assign rfl ?_
                refine SOps.nil ?_
                have hsc : ((List.range (i + 1)).filter (frB r (runes s))) = ((List.range i).filter (frB r (runes s))) ++ (if frB r (runes s) i then [i] else []) := filter_succ7 _ i
                rw [hfr] at hsc
                simp only [if_true, if_false, Bool.false_eq_true, List.append_nil] at hsc
                first
                  | exact ⟨i + 1, b4, by omega, by omega, St.Le.of ⟨rfl, rfl, rfl, rfl, rfl, rfl, rfl, (by show some _ = some _; rw [hsc]; simp), rfl, trivial⟩ rfl (by rw [hsc, List.map_append]; rfl)⟩
                  | exact ⟨i + 1, b5, by omega, by omega, St.Le.of ⟨rfl, rfl, rfl, rfl, rfl, rfl, rfl, (by show some _ = some _; rw [hsc]; simp), rfl, trivial⟩ rfl (by rw [hsc, List.map_append]; rfl)⟩
                  | exact ⟨i + 1, k, by omega, by omega, St.Le.of ⟨rfl, rfl, rfl, rfl, rfl, rfl, rfl, (by show some _ = some _; rw [hsc]), rfl, trivial⟩ rfl (by rw [hsc] <;> rfl)⟩
            · have hfr : frB r (runes s) i = false := by unfold frB; rw [decide_eq_false hq, List.getElem?_eq_none (by omega)]; rfl
              apply SCode.drawAuto mixed_ [52, 53, 54, 55, 56, 57, 58, 59, 60, 61, 62, 63, 64, 65, 66, 67, 68, 69] [[.inr 4], [.inl 0], [.inl 1], [.inl 2], [.inl 3, .inr 12], [.inl 3, .inr 10], [.inl 3, .inl 5], [.inl 3, .inl 4, .inl 6], [.inl 3, .inl 7], [.inl 8], [.inl 8], [.inl 8], [.inl 8], [.inl 8], [.inl 8], [.inl 8], [.inl 3, .inl 8, .inl 15], [.inl 3, .inl 16]]
              · kernel_rfl
              · kernel_rfl
              · apply DOk.cons 52 
                · rfl
                · exact (NeedIs.inr _ rfl NeedIs.nil)
                · intro rest
                  refine SOps.fieldPin rfl fieldB_25_0_0 ?_
                  exact SOps.nil rfl
                apply DOk.cons 53 
                · rfl
                · exact (NeedIs.inl 0 _ _ rfl rfl NeedIs.nil)
                · intro rest
                  refine SOps.loadPin rfl flatB_21 ?_
                  exact SOps.nil rfl
                apply DOk.cons 54 (.v (.bool false))
                · rfl
                · exact (NeedIs.inl 0 _ _ rfl rfl NeedIs.nil)
                · intro rest
                  refine SOps.bin rfl rfl rfl ?_
                  exact SOps.nil (congrArg (fun b => St.put _ 54 (.v (.bool b))) (beq_eq_false_iff_ne.2 hq))
                apply DOk.cons 55 
                · rfl
                · exact (NeedIs.inl 0 _ _ rfl rfl NeedIs.nil)
                · intro rest
                  refine SOps.move rfl ?_
                  exact SOps.nil rfl
                apply DOk.cons 56 
                · rfl
                · exact (NeedIs.inl 0 _ _ rfl rfl (NeedIs.inr _ rfl NeedIs.nil))
                · intro rest
                  refine SOps.move rfl ?_
                  exact SOps.nil rfl
                apply DOk.cons 57 
                · rfl
                · exact (NeedIs.inl 1 _ _ rfl rfl (NeedIs.inr _ rfl NeedIs.nil))
                · intro rest
                  refine SOps.move rfl ?_
                  exact SOps.nil rfl
                apply DOk.cons 58 
                · rfl
                · exact (NeedIs.inl 2 _ _ rfl rfl (NeedIs.inl 0 _ _ rfl rfl NeedIs.nil))
                · intro rest
                  refine SOps.lenM rfl sliceB_35_21_1 ?_
                  exact SOps.nil rfl
                apply DOk.cons 59 (.v (.bool false))
                · rfl
                · exact (NeedIs.inl 3 _ _ rfl rfl (NeedIs.inl 2 _ _ rfl rfl (NeedIs.inl 0 _ _ rfl rfl NeedIs.nil)))
                · intro rest
                  refine SOps.bin rfl rfl rfl ?_
                  exact SOps.nil (congrArg (fun b => St.put _ 59 (.v (.bool b))) (decide_eq_false (by omega)))
                apply DOk.cons 60 
                · rfl
                · exact (NeedIs.inl 4 _ _ rfl rfl (NeedIs.inl 0 _ _ rfl rfl NeedIs.nil))
                · intro rest
                  refine SOps.move rfl ?_
                  exact SOps.nil rfl
                apply DOk.cons 61 
                · rfl
                · exact (NeedIs.inl 0 _ _ rfl rfl NeedIs.nil)
                · intro rest
                  refine SOps.skip rfl ?_
                  exact SOps.nil rfl
                apply DOk.cons 62 
                · rfl
                · exact (NeedIs.inl 1 _ _ rfl rfl NeedIs.nil)
                · intro rest
                  refine SOps.skip rfl ?_
                  exact SOps.nil rfl
                apply DOk.cons 63 
                · rfl
                · exact (NeedIs.inl 2 _ _ rfl rfl NeedIs.nil)
                · intro rest
                  refine SOps.skip rfl ?_
                  exact SOps.nil rfl
                apply DOk.cons 64 
                · rfl
                · exact (NeedIs.inl 3 _ _ rfl rfl NeedIs.nil)
                · intro rest
                  refine SOps.skip rfl ?_
                  exact SOps.nil rfl
                apply DOk.cons 65 
                · rfl
                · exact (NeedIs.inl 4 _ _ rfl rfl NeedIs.nil)
                · intro rest
                  refine SOps.skip rfl ?_
                  exact SOps.nil rfl
                apply DOk.cons 66 
                · rfl
                · exact (NeedIs.inl 5 _ _ rfl rfl NeedIs.nil)
                · intro rest
                  refine SOps.skip rfl ?_
                  exact SOps.nil rfl
                apply DOk.cons 67 
                · rfl
                · exact (NeedIs.inl 6 _ _ rfl rfl NeedIs.nil)
                · intro rest
                  refine SOps.skip rfl ?_
                  exact SOps.nil rfl
                apply DOk.cons 68 
                · rfl
                · exact (NeedIs.inl 12 _ _ rfl rfl (NeedIs.inl 7 _ _ rfl rfl (NeedIs.inl 0 _ _ rfl rfl NeedIs.nil)))
                · intro rest
                  refine SOps.pick rfl rfl ?_
                  exact SOps.nil rfl
                apply DOk.cons 69 
                · rfl
                · exact (NeedIs.inl 13 _ _ rfl rfl (NeedIs.inl 0 _ _ rfl rfl NeedIs.nil))
                · intro rest
                  refine SOps.pick rfl rfl ?_
                  exact SOps.nil rfl
                exact DOk.nil
              · rfl
              · show SCode _ _ _ _
                refine SCode.cond rfl (fun h => by cases h) (fun _ => ?_)
                refine SCode.skip ?_
                show SCode _ _ _ _
                refine SCode.region ?_
                refine SOps.move rfl ?_
                refine SOps.addI rfl rfl (by first | omega | (simp only [lenB]; omega)) (by first | omega | (simp only [lenB]; omega)) ?_
                refine SOps.assign rfl ?_
                refine SOps.nil ?_
                have hsc : ((List.range (i + 1)).filter (frB r (runes s))) = ((List.range i).filter (frB r (runes s))) ++ (if frB r (runes s) i then [i] else []) := filter_succ7 _ i
                rw [hfr] at hsc
                simp only [if_true, if_false, Bool.false_eq_true, List.append_nil] at hsc
                first
                  | exact ⟨i + 1, b4, by omega, by omega, St.Le.of ⟨rfl, rfl, rfl, rfl, rfl, rfl, rfl, (by show some _ = some _; rw [hsc]; simp), rfl, trivial⟩ rfl (by rw [hsc, List.map_append]; rfl)⟩
                  | exact ⟨i + 1, b5, by omega, by omega, St.Le.of ⟨rfl, rfl, rfl, rfl, rfl, rfl, rfl, (by show some _ = some _; rw [hsc]; simp), rfl, trivial⟩ rfl (by rw [hsc, List.map_append]; rfl)⟩
                  | exact ⟨i + 1, k, by omega, by omega, St.Le.of ⟨rfl, rfl, rfl, rfl, rfl, rfl, rfl, (by show some _ = some _; rw [hsc]), rfl, trivial⟩ rfl (by rw [hsc] <;> rfl)⟩
            · have hfr : frB r (runes s) i = true := by unfold frB; rw [decide_eq_false hq, List.getElem?_eq_getElem hil, hwi]; simp
              apply SCode.drawAuto mixed_ [52, 53, 54, 55, 56, 57, 58, 59, 60, 61, 62, 63, 64, 65, 66, 67, 68, 69] [[.inr 4], [.inl 0], [.inl 1], [.inl 2], [.inl 3, .inr 12], [.inl 3, .inr 10], [.inl 3, .inl 5], [.inl 3, .inl 4, .inl 6], [.inl 3, .inl 7], [.inl 8, .inr 10], [.inl 8, .inr 12], [.inl 8, .inl 9, .inl 10], [.inl 8, .inl 11], [.inl 8, .inr 4], [.inl 8, .inl 13], [.inl 8, .inl 12, .inl 14], [.inl 3, .inl 8, .inl 15], [.inl 3, .inl 16]]
              · kernel_rfl
              · kernel_rfl
              · apply DOk.cons 52 
                · rfl
                · exact (NeedIs.inr _ rfl NeedIs.nil)
                · intro rest
                  refine SOps.fieldPin rfl fieldB_25_0_0 ?_
                  exact SOps.nil rfl
                apply DOk.cons 53 
                · rfl
                · exact (NeedIs.inl 0 _ _ rfl rfl NeedIs.nil)
                · intro rest
                  refine SOps.loadPin rfl flatB_21 ?_
                  exact SOps.nil rfl
                apply DOk.cons 54 (.v (.bool false))
                · rfl
                · exact (NeedIs.inl 0 _ _ rfl rfl NeedIs.nil)
                · intro rest
                  refine SOps.bin rfl rfl rfl ?_
                  exact SOps.nil (congrArg (fun b => St.put _ 54 (.v (.bool b))) (beq_eq_false_iff_ne.2 hq))
                apply DOk.cons 55 
                · rfl
                · exact (NeedIs.inl 0 _ _ rfl rfl NeedIs.nil)
                · intro rest
                  refine SOps.move rfl ?_
                  exact SOps.nil rfl
                apply DOk.cons 56 
                · rfl
                · exact (NeedIs.inl 0 _ _ rfl rfl (NeedIs.inr _ rfl NeedIs.nil))
                · intro rest
                  refine SOps.move rfl ?_
                  exact SOps.nil rfl
                apply DOk.cons 57 
                · rfl
                · exact (NeedIs.inl 1 _ _ rfl rfl (NeedIs.inr _ rfl NeedIs.nil))
                · intro rest
                  refine SOps.move rfl ?_
                  exact SOps.nil rfl
                apply DOk.cons 58 
                · rfl
                · exact (NeedIs.inl 2 _ _ rfl rfl (NeedIs.inl 0 _ _ rfl rfl NeedIs.nil))
                · intro rest
                  refine SOps.lenM rfl sliceB_35_21_1 ?_
                  exact SOps.nil rfl
                apply DOk.cons 59 (.v (.bool true))
                · rfl
                · exact (NeedIs.inl 3 _ _ rfl rfl (NeedIs.inl 2 _ _ rfl rfl (NeedIs.inl 0 _ _ rfl rfl NeedIs.nil)))
                · intro rest
                  refine SOps.bin rfl rfl rfl ?_
                  exact SOps.nil (congrArg (fun b => St.put _ 59 (.v (.bool b))) (decide_eq_true (by omega)))
                apply DOk.cons 60 
                · rfl
                · exact (NeedIs.inl 4 _ _ rfl rfl (NeedIs.inl 0 _ _ rfl rfl NeedIs.nil))
                · intro rest
                  refine SOps.move rfl ?_
                  exact SOps.nil rfl
                apply DOk.cons 61 
                · rfl
                · exact (NeedIs.inl 0 _ _ rfl rfl (NeedIs.inr _ rfl NeedIs.nil))
                · intro rest
                  refine SOps.move rfl ?_
                  exact SOps.nil rfl
                apply DOk.cons 62 
                · rfl
                · exact (NeedIs.inl 1 _ _ rfl rfl (NeedIs.inr _ rfl NeedIs.nil))
                · intro rest
                  refine SOps.move rfl ?_
                  exact SOps.nil rfl
                apply DOk.cons 63 
                · rfl
                · exact (NeedIs.inl 2 _ _ rfl rfl (NeedIs.inl 1 _ _ rfl rfl (NeedIs.inl 0 _ _ rfl rfl NeedIs.nil)))
                · intro rest
                  refine SOps.indexM (i) rfl rfl sliceB_35_21_1 (by first | omega | (simp only [lenB]; omega)) (by first | omega | (simp only [lenB]; omega)) ?_
                  exact SOps.nil rfl
                apply DOk.cons 64 
                · rfl
                · exact (NeedIs.inl 3 _ _ rfl rfl (NeedIs.inl 0 _ _ rfl rfl NeedIs.nil))
                · intro rest
                  refine SOps.loadPin rfl flatB_21 ?_
                  exact SOps.nil rfl
                apply DOk.cons 65 
                · rfl
                · exact (NeedIs.inl 4 _ _ rfl rfl (NeedIs.inr _ rfl NeedIs.nil))
                · intro rest
                  refine SOps.fieldPin rfl fieldB_25_0_0 ?_
                  exact SOps.nil rfl
                apply DOk.cons 66 
                · rfl
                · exact (NeedIs.inl 5 _ _ rfl rfl (NeedIs.inl 0 _ _ rfl rfl NeedIs.nil))
                · intro rest
                  refine SOps.loadPin rfl flatB_21 ?_
                  exact SOps.nil rfl
                apply DOk.cons 67 (.v (.bool true))
                · rfl
                · exact (NeedIs.inl 6 _ _ rfl rfl (NeedIs.inl 2 _ _ rfl rfl (NeedIs.inl 0 _ _ rfl rfl NeedIs.nil)))
                · intro rest
                  refine SOps.bin rfl rfl rfl ?_
                  exact SOps.nil (congrArg (fun b => St.put _ 67 (.v (.bool b))) (beq_iff_eq.2 hwi))
                apply DOk.cons 68 
                · rfl
                · exact (NeedIs.inl 12 _ _ rfl rfl (NeedIs.inl 7 _ _ rfl rfl (NeedIs.inl 0 _ _ rfl rfl NeedIs.nil)))
                · intro rest
                  refine SOps.pick rfl rfl ?_
                  exact SOps.nil rfl
                apply DOk.cons 69 
                · rfl
                · exact (NeedIs.inl 13 _ _ rfl rfl (NeedIs.inl 0 _ _ rfl rfl NeedIs.nil))
                · intro rest
                  refine SOps.pick rfl rfl ?_
                  exact SOps.nil rfl
                exact DOk.nil
              · rfl
              · show SCode _ _ _ _
                refine SCode.cond rfl (fun _ => ?_) (fun h => by cases h)
                refine SCode.region ?_
                refine SOps.move rfl ?_
                refine SOps.move rfl ?_
                refine SOps.litF rfl sliceB_30_3_1 zeroIs_3 rfl ?_
                refine SOps.appendOwn 0 sliceB_30_3_1 elemB_3_1_8 rfl rfl rfl (by simp) SrcD.isl (by simp) (by first | (simp [lenB] <;> (first | omega | (simp only [lenB]; omega))) | (simp only [lenB]; (first | omega | (simp only [lenB]; omega)))) (by first | (simp <;> (first | omega | (simp only [lenB]; omega))) | (first | omega | (simp only [lenB]; omega))) (fun b5 hb_5 => ?_)
                refine SOps.assign rfl ?_
                refine SOps.nil ?_
                show SCode _ _ _ _
                refine SCode.region ?_
                refine SOps.move rfl ?_
                refine SOps.addI rfl rfl (by first | omega | (simp only [lenB]; omega)) (by first | omega | (simp only [lenB]; omega)) ?_
                refine SOps.assign rfl ?_
                refine SOps.nil ?_
                have hsc : ((List.range (i + 1)).filter (frB r (runes s))) = ((List.range i).filter (frB r (runes s))) ++ (if frB r (runes s) i then [i] else []) := filter_succ7 _ i
                rw [hfr] at hsc
                simp only [if_true, if_false, Bool.false_eq_true, List.append_nil] at hsc
                first
                  | exact ⟨i + 1, b4, by omega, by omega, St.Le.of ⟨rfl, rfl, rfl, rfl, rfl, rfl, rfl, (by show some _ = some _; rw [hsc]; simp), rfl, trivial⟩ rfl (by rw [hsc, List.map_append]; rfl)⟩
                  | exact ⟨i + 1, b5, by omega, by omega, St.Le.of ⟨rfl, rfl, rfl, rfl, rfl, rfl, rfl, (by show some _ = some _; rw [hsc]; simp), rfl, trivial⟩ rfl (by rw [hsc, List.map_append]; rfl)⟩
                  | exact ⟨i + 1, k, by omega, by omega, St.Le.of ⟨rfl, rfl, rfl, rfl, rfl, rfl, rfl, (by show some _ = some _; rw [hsc]), rfl, trivial⟩ rfl (by rw [hsc] <;> rfl)⟩
            · have hfr : frB r (runes s) i = false := by unfold frB; rw [decide_eq_false hq, List.getElem?_eq_getElem hil]; simp [hwi]
              apply SCode.drawAuto mixed_ [52, 53, 54, 55, 56, 57, 58, 59, 60, 61, 62, 63, 64, 65, 66, 67, 68, 69] [[.inr 4], [.inl 0], [.inl 1], [.inl 2], [.inl 3, .inr 12], [.inl 3, .inr 10], [.inl 3, .inl 5], [.inl 3, .inl 4, .inl 6], [.inl 3, .inl 7], [.inl 8, .inr 10], [.inl 8, .inr 12], [.inl 8, .inl 9, .inl 10], [.inl 8, .inl 11], [.inl 8, .inr 4], [.inl 8, .inl 13], [.inl 8, .inl 12, .inl 14], [.inl 3, .inl 8, .inl 15], [.inl 3, .inl 16]]
              · kernel_rfl
              · kernel_rfl
              · apply DOk.cons 52 
                · rfl
                · exact (NeedIs.inr _ rfl NeedIs.nil)
                · intro rest
                  refine SOps.fieldPin rfl fieldB_25_0_0 ?_
                  exact SOps.nil rfl
                apply DOk.cons 53 
                · rfl
                · exact (NeedIs.inl 0 _ _ rfl rfl NeedIs.nil)
                · intro rest
                  refine SOps.loadPin rfl flatB_21 ?_
                  exact SOps.nil rfl
                apply DOk.cons 54 (.v (.bool false))
                · rfl
                · exact (NeedIs.inl 0 _ _ rfl rfl NeedIs.nil)
                · intro rest
                  refine SOps.bin rfl rfl rfl ?_
                  exact SOps.nil (congrArg (fun b => St.put _ 54 (.v (.bool b))) (beq_eq_false_iff_ne.2 hq))
                apply DOk.cons 55 
                · rfl
                · exact (NeedIs.inl 0 _ _ rfl rfl NeedIs.nil)
                · intro rest
                  refine SOps.move rfl ?_
                  exact SOps.nil rfl
                apply DOk.cons 56 
                · rfl
                · exact (NeedIs.inl 0 _ _ rfl rfl (NeedIs.inr _ rfl NeedIs.nil))
                · intro rest
                  refine SOps.move rfl ?_
                  exact SOps.nil rfl
                apply DOk.cons 57 
                · rfl
                · exact (NeedIs.inl 1 _ _ rfl rfl (NeedIs.inr _ rfl NeedIs.nil))
                · intro rest
                  refine SOps.move rfl ?_
                  exact SOps.nil rfl
                apply DOk.cons 58 
                · rfl
                · exact (NeedIs.inl 2 _ _ rfl rfl (NeedIs.inl 0 _ _ rfl rfl NeedIs.nil))
                · intro rest
                  refine SOps.lenM rfl sliceB_35_21_1 ?_
                  exact SOps.nil rfl
                apply DOk.cons 59 (.v (.bool true))
                · rfl
                · exact (NeedIs.inl 3 _ _ rfl rfl (NeedIs.inl 2 _ _ rfl rfl (NeedIs.inl 0 _ _ rfl rfl NeedIs.nil)))
                · intro rest
                  refine SOps.bin rfl rfl rfl ?_
                  exact SOps.nil (congrArg (fun b => St.put _ 59 (.v (.bool b))) (decide_eq_true (by omega)))
                apply DOk.cons 60 
                · rfl
                · exact (NeedIs.inl 4 _ _ rfl rfl (NeedIs.inl 0 _ _ rfl rfl NeedIs.nil))
                · intro rest
                  refine SOps.move rfl ?_
                  exact SOps.nil rfl
                apply DOk.cons 61 
                · rfl
                · exact (NeedIs.inl 0 _ _ rfl rfl (NeedIs.inr _ rfl NeedIs.nil))
                · intro rest
                  refine SOps.move rfl ?_
                  exact SOps.nil rfl
                apply DOk.cons 62 
                · rfl
                · exact (NeedIs.inl 1 _ _ rfl rfl (NeedIs.inr _ rfl NeedIs.nil))
                · intro rest
                  refine SOps.move rfl ?_
                  exact SOps.nil rfl
                apply DOk.cons 63 
                · rfl
                · exact (NeedIs.inl 2 _ _ rfl rfl (NeedIs.inl 1 _ _ rfl rfl (NeedIs.inl 0 _ _ rfl rfl NeedIs.nil)))
                · intro rest
                  refine SOps.indexM (i) rfl rfl sliceB_35_21_1 (by first | omega | (simp only [lenB]; omega)) (by first | omega | (simp only [lenB]; omega)) ?_
                  exact SOps.nil rfl
                apply DOk.cons 64 
                · rfl
                · exact (NeedIs.inl 3 _ _ rfl rfl (NeedIs.inl 0 _ _ rfl rfl NeedIs.nil))
                · intro rest
                  refine SOps.loadPin rfl flatB_21 ?_
                  exact SOps.nil rfl
                apply DOk.cons 65 
                · rfl
                · exact (NeedIs.inl 4 _ _ rfl rfl (NeedIs.inr _ rfl NeedIs.nil))
                · intro rest
                  refine SOps.fieldPin rfl fieldB_25_0_0 ?_
                  exact SOps.nil rfl
                apply DOk.cons 66 
                · rfl
                · exact (NeedIs.inl 5 _ _ rfl rfl (NeedIs.inl 0 _ _ rfl rfl NeedIs.nil))
                · intro rest
                  refine SOps.loadPin rfl flatB_21 ?_
                  exact SOps.nil rfl
                apply DOk.cons 67 (.v (.bool false))
                · rfl
                · exact (NeedIs.inl 6 _ _ rfl rfl (NeedIs.inl 2 _ _ rfl rfl (NeedIs.inl 0 _ _ rfl rfl NeedIs.nil)))
                · intro rest
                  refine SOps.bin rfl rfl rfl ?_
                  exact SOps.nil (congrArg (fun b => St.put _ 67 (.v (.bool b))) (beq_eq_false_iff_ne.2 hwi))
                apply DOk.cons 68 
                · rfl
                · exact (NeedIs.inl 12 _ _ rfl rfl (NeedIs.inl 7 _ _ rfl rfl (NeedIs.inl 0 _ _ rfl rfl NeedIs.nil)))
                · intro rest
                  refine SOps.pick rfl rfl ?_
                  exact SOps.nil rfl
                apply DOk.cons 69 
                · rfl
                · exact (NeedIs.inl 13 _ _ rfl rfl (NeedIs.inl 0 _ _ rfl rfl NeedIs.nil))
                · intro rest
                  refine SOps.pick rfl rfl ?_
                  exact SOps.nil rfl
                exact DOk.nil
              · rfl
              · show SCode _ _ _ _
                refine SCode.cond rfl (fun h => by cases h) (fun _ => ?_)
                refine SCode.skip ?_
                show SCode _ _ _ _
                refine SCode.region ?_
                refine SOps.move rfl ?_
                refine SOps.addI rfl rfl (by first | omega | (simp only [lenB]; omega)) (by first | omega | (simp only [lenB]; omega)) ?_
                refine SOps.assign rfl ?_
                refine SOps.nil ?_
                have hsc : ((List.range (i + 1)).filter (frB r (runes s))) = ((List.range i).filter (frB r (runes s))) ++ (if frB r (runes s) i then [i] else []) := filter_succ7 _ i
                rw [hfr] at hsc
                simp only [if_true, if_false, Bool.false_eq_true, List.append_nil] at hsc
                first
                  | exact ⟨i + 1, b4, by omega, by omega, St.Le.of ⟨rfl, rfl, rfl, rfl, rfl, rfl, rfl, (by show some _ = some _; rw [hsc]; simp), rfl, trivial⟩ rfl (by rw [hsc, List.map_append]; rfl)⟩
                  | exact ⟨i + 1, b5, by omega, by omega, St.Le.of ⟨rfl, rfl, rfl, rfl, rfl, rfl, rfl, (by show some _ = some _; rw [hsc]; simp), rfl, trivial⟩ rfl (by rw [hsc, List.map_append]; rfl)⟩
                  | exact ⟨i + 1, k, by omega, by omega, St.Le.of ⟨rfl, rfl, rfl, rfl, rfl, rfl, rfl, (by show some _ = some _; rw [hsc]), rfl, trivial⟩ rfl (by rw [hsc] <;> rfl)⟩
          · try simp only [decide_eq_true_eq, decide_eq_false_iff_not, Bool.not_eq_true', Bool.not_eq_false', beq_iff_eq, bne_iff_ne, ne_eq, beq_eq_false_iff_ne, bne_eq_false_iff_eq, Int.not_lt, Int.not_le, Nat.not_lt, Nat.not_le, Int.ofNat_lt, Int.ofNat_le, Bool.not_eq_eq_eq_not, Bool.not_true, Bool.not_false] at hc4
            refine SCode.exit ?_
            show SCode _ _ _ _
            refine SCode.seqR ?_
            have hie : i = (runes s).length + 1 := by omega
            subst hie
            refine SOps.freezeS (t := 11) 0 rfl rfl rfl (by simp) ?_
            have hvr : validR a r = true := by simp_all
            have hco : consS a 40 s = true := by simp_all
            obtain ⟨hx1, hx2, hx3, hx4⟩ := ctx_law hvr hco
            refine SOps.move rfl ?_
            refine SOps.loadPinA rfl aggB_25_6 (Nat.le_of_ble_eq_true rfl) ?_
            refine SOps.move rfl ?_
            refine SOps.callP (rSites hV a (bareR r) s hr.bare hs) rfl ?_
            rintro _ rfl
            refine SOps.assign rfl ?_
            refine SOps.nil ?_
            refine SCode.seq ?_
            apply SCode.drawAuto mixed_ [78, 79, 80, 81, 82, 83, 84, 85, 86, 87, 88, 89, 90, 91, 92, 93, 94, 95, 96, 97, 98, 99, 100, 101, 102, 103, 104, 105, 106, 107, 108, 109, 110, 111, 112, 113, 6] [[], [.inl 0], [.inl 1, .inr 13], [.inl 1, .inr 11], [.inl 1, .inl 2, .inl 3], [.inl 1, .inl 4], [.inl 5], [.inl 6, .inr 0], [.inl 6, .inr 4], [.inl 6, .inr 2], [.inl 6, .inl 7, .inl 8, .inl 9], [.inl 6, .inr 0], [.inl 6, .inr 8], [.inl 6, .inr 2], [.inl 6, .inl 11, .inl 12, .inl 13], [.inl 6, .inl 10, .inl 14], [.inl 6, .inl 15], [.inl 16], [.inl 17, .inr 0], [.inl 17, .inr 9], [.inl 17, .inr 2], [.inl 17, .inl 18, .inl 19, .inl 20], [.inl 17, .inr 0], [.inl 17, .inr 4], [.inl 17, .inr 2], [.inl 17, .inl 22, .inl 23, .inl 24], [.inl 17, .inl 21, .inl 25], [.inl 17, .inl 26], [.inl 27], [.inl 28, .inr 0], [.inl 28, .inr 8], [.inl 28, .inr 2], [.inl 28, .inl 29, .inl 30, .inl 31], [.inl 28, .inr 13], [.inl 28, .inl 32, .inl 33], [.inl 28, .inl 34], [.inl 35]]
            · kernel_rfl
            · kernel_rfl
            · apply DOk.cons 78 (.v (.bool true))
              · rfl
              · exact NeedIs.nil
              · intro rest
                refine SOps.callP hA rfl ?_
                rintro _ rfl
                exact SOps.nil (congrArg (fun b => St.put _ 78 (.v (.bool b))) (rfl))
              apply DOk.cons 79 
              · rfl
              · exact (NeedIs.inl 0 _ _ rfl rfl NeedIs.nil)
              · intro rest
                refine SOps.move rfl ?_
                exact SOps.nil rfl
              apply DOk.cons 80 
              · rfl
              · exact (NeedIs.inl 0 _ _ rfl rfl (NeedIs.inr _ rfl NeedIs.nil))
              · intro rest
                refine SOps.move rfl ?_
                exact SOps.nil rfl
              apply DOk.cons 81 
              · rfl
              · exact (NeedIs.inl 1 _ _ rfl rfl (NeedIs.inr _ rfl NeedIs.nil))
              · intro rest
                refine SOps.move rfl ?_
                exact SOps.nil rfl
              apply DOk.cons 82 (.v (.bool true))
              · rfl
              · exact (NeedIs.inl 2 _ _ rfl rfl (NeedIs.inl 1 _ _ rfl rfl (NeedIs.inl 0 _ _ rfl rfl NeedIs.nil)))
              · intro rest
                refine SOps.callP (qIntsN _ _) rfl ?_
                rintro _ rfl
                exact SOps.nil (congrArg (fun b => St.put _ 82 (.v (.bool b))) (decide_eq_true hx1))
              apply DOk.cons 83 
              · rfl
              · exact (NeedIs.inl 3 _ _ rfl rfl (NeedIs.inl 0 _ _ rfl rfl NeedIs.nil))
              · intro rest
                refine SOps.pick rfl rfl ?_
                exact SOps.nil rfl
              apply DOk.cons 84 
              · rfl
              · exact (NeedIs.inl 0 _ _ rfl rfl NeedIs.nil)
              · intro rest
                refine SOps.move rfl ?_
                exact SOps.nil rfl
              apply DOk.cons 85 
              · rfl
              · exact (NeedIs.inl 0 _ _ rfl rfl (NeedIs.inr _ rfl NeedIs.nil))
              · intro rest
                refine SOps.move rfl ?_
                exact SOps.nil rfl
              apply DOk.cons 86 
              · rfl
              · exact (NeedIs.inl 1 _ _ rfl rfl (NeedIs.inr _ rfl NeedIs.nil))
              · intro rest
                refine SOps.loadPinA rfl aggB_25_6 (Nat.le_of_ble_eq_true rfl) ?_
                exact SOps.nil rfl
              apply DOk.cons 87 
              · rfl
              · exact (NeedIs.inl 2 _ _ rfl rfl (NeedIs.inr _ rfl NeedIs.nil))
              · intro rest
                refine SOps.move rfl ?_
                exact SOps.nil rfl
              apply DOk.cons 88 
              · rfl
              · exact (NeedIs.inl 3 _ _ rfl rfl (NeedIs.inl 2 _ _ rfl rfl (NeedIs.inl 1 _ _ rfl rfl (NeedIs.inl 0 _ _ rfl rfl NeedIs.nil))))
              · intro rest
                refine SOps.callP (rSites hV a r s hr hs) rfl ?_
                rintro _ rfl
                exact SOps.nil rfl
              apply DOk.cons 89 
              · rfl
              · exact (NeedIs.inl 4 _ _ rfl rfl (NeedIs.inr _ rfl NeedIs.nil))
              · intro rest
                refine SOps.move rfl ?_
                exact SOps.nil rfl
              apply DOk.cons 90 
              · rfl
              · exact (NeedIs.inl 5 _ _ rfl rfl (NeedIs.inr _ rfl NeedIs.nil))
              · intro rest
                refine SOps.loadPinA rfl aggB_25_6 (Nat.le_of_ble_eq_true rfl) ?_
                exact SOps.nil rfl
              apply DOk.cons 91 
              · rfl
              · exact (NeedIs.inl 6 _ _ rfl rfl (NeedIs.inr _ rfl NeedIs.nil))
              · intro rest
                refine SOps.move rfl ?_
                exact SOps.nil rfl
              apply DOk.cons 92 
              · rfl
              · exact (NeedIs.inl 7 _ _ rfl rfl (NeedIs.inl 2 _ _ rfl rfl (NeedIs.inl 1 _ _ rfl rfl (NeedIs.inl 0 _ _ rfl rfl NeedIs.nil))))
              · intro rest
                refine SOps.callP (rSites hV a (edgeR r false) s (hr.edge false) hs) rfl ?_
                rintro _ rfl
                exact SOps.nil rfl
              apply DOk.cons 93 (.v (.bool true))
              · rfl
              · exact (NeedIs.inl 8 _ _ rfl rfl (NeedIs.inl 4 _ _ rfl rfl (NeedIs.inl 0 _ _ rfl rfl NeedIs.nil)))
              · intro rest
                refine SOps.callP (lWithin _ _) rfl ?_
                rintro _ rfl
                exact SOps.nil (congrArg (fun b => St.put _ 93 (.v (.bool b))) (hx2))
              apply DOk.cons 94 
              · rfl
              · exact (NeedIs.inl 9 _ _ rfl rfl (NeedIs.inl 0 _ _ rfl rfl NeedIs.nil))
              · intro rest
                refine SOps.pick rfl rfl ?_
                exact SOps.nil rfl
              apply DOk.cons 95 
              · rfl
              · exact (NeedIs.inl 0 _ _ rfl rfl NeedIs.nil)
              · intro rest
                refine SOps.move rfl ?_
                exact SOps.nil rfl
              apply DOk.cons 96 
              · rfl
              · exact (NeedIs.inl 0 _ _ rfl rfl (NeedIs.inr _ rfl NeedIs.nil))
              · intro rest
                refine SOps.move rfl ?_
                exact SOps.nil rfl
              apply DOk.cons 97 
              · rfl
              · exact (NeedIs.inl 1 _ _ rfl rfl (NeedIs.inr _ rfl NeedIs.nil))
              · intro rest
                refine SOps.loadPinA rfl aggB_25_6 (Nat.le_of_ble_eq_true rfl) ?_
                exact SOps.nil rfl
              apply DOk.cons 98 
              · rfl
              · exact (NeedIs.inl 2 _ _ rfl rfl (NeedIs.inr _ rfl NeedIs.nil))
              · intro rest
                refine SOps.move rfl ?_
                exact SOps.nil rfl
              apply DOk.cons 99 
              · rfl
              · exact (NeedIs.inl 3 _ _ rfl rfl (NeedIs.inl 2 _ _ rfl rfl (NeedIs.inl 1 _ _ rfl rfl (NeedIs.inl 0 _ _ rfl rfl NeedIs.nil))))
              · intro rest
                refine SOps.callP (rSites hV a (edgeR r true) s (hr.edge true) hs) rfl ?_
                rintro _ rfl
                exact SOps.nil rfl
              apply DOk.cons 100 
              · rfl
              · exact (NeedIs.inl 4 _ _ rfl rfl (NeedIs.inr _ rfl NeedIs.nil))
              · intro rest
                refine SOps.move rfl ?_
                exact SOps.nil rfl
              apply DOk.cons 101 
              · rfl
              · exact (NeedIs.inl 5 _ _ rfl rfl (NeedIs.inr _ rfl NeedIs.nil))
              · intro rest
                refine SOps.loadPinA rfl aggB_25_6 (Nat.le_of_ble_eq_true rfl) ?_
                exact SOps.nil rfl
              apply DOk.cons 102 
              · rfl
              · exact (NeedIs.inl 6 _ _ rfl rfl (NeedIs.inr _ rfl NeedIs.nil))
              · intro rest
                refine SOps.move rfl ?_
                exact SOps.nil rfl
              apply DOk.cons 103 
              · rfl
              · exact (NeedIs.inl 7 _ _ rfl rfl (NeedIs.inl 2 _ _ rfl rfl (NeedIs.inl 1 _ _ rfl rfl (NeedIs.inl 0 _ _ rfl rfl NeedIs.nil))))
              · intro rest
                refine SOps.callP (rSites hV a r s hr hs) rfl ?_
                rintro _ rfl
                exact SOps.nil rfl
              apply DOk.cons 104 (.v (.bool true))
              · rfl
              · exact (NeedIs.inl 8 _ _ rfl rfl (NeedIs.inl 4 _ _ rfl rfl (NeedIs.inl 0 _ _ rfl rfl NeedIs.nil)))
              · intro rest
                refine SOps.callP (lWithin _ _) rfl ?_
                rintro _ rfl
                exact SOps.nil (congrArg (fun b => St.put _ 104 (.v (.bool b))) (hx3))
              apply DOk.cons 105 
              · rfl
              · exact (NeedIs.inl 9 _ _ rfl rfl (NeedIs.inl 0 _ _ rfl rfl NeedIs.nil))
              · intro rest
                refine SOps.pick rfl rfl ?_
                exact SOps.nil rfl
              apply DOk.cons 106 
              · rfl
              · exact (NeedIs.inl 0 _ _ rfl rfl NeedIs.nil)
              · intro rest
                refine SOps.move rfl ?_
                exact SOps.nil rfl
              apply DOk.cons 107 
              · rfl
              · exact (NeedIs.inl 0 _ _ rfl rfl (NeedIs.inr _ rfl NeedIs.nil))
              · intro rest
                refine SOps.move rfl ?_
                exact SOps.nil rfl
              apply DOk.cons 108 
              · rfl
              · exact (NeedIs.inl 1 _ _ rfl rfl (NeedIs.inr _ rfl NeedIs.nil))
              · intro rest
                refine SOps.loadPinA rfl aggB_25_6 (Nat.le_of_ble_eq_true rfl) ?_
                exact SOps.nil rfl
              apply DOk.cons 109 
              · rfl
              · exact (NeedIs.inl 2 _ _ rfl rfl (NeedIs.inr _ rfl NeedIs.nil))
              · intro rest
                refine SOps.move rfl ?_
                exact SOps.nil rfl
              apply DOk.cons 110 
              · rfl
              · exact (NeedIs.inl 3 _ _ rfl rfl (NeedIs.inl 2 _ _ rfl rfl (NeedIs.inl 1 _ _ rfl rfl (NeedIs.inl 0 _ _ rfl rfl NeedIs.nil))))
              · intro rest
                refine SOps.callP (rSites hV a (edgeR r false) s (hr.edge false) hs) rfl ?_
                rintro _ rfl
                exact SOps.nil rfl
              apply DOk.cons 111 
              · rfl
              · exact (NeedIs.inl 4 _ _ rfl rfl (NeedIs.inr _ rfl NeedIs.nil))
              · intro rest
                refine SOps.move rfl ?_
                exact SOps.nil rfl
              apply DOk.cons 112 (.v (.bool true))
              · rfl
              · exact (NeedIs.inl 5 _ _ rfl rfl (NeedIs.inl 1 _ _ rfl rfl (NeedIs.inl 0 _ _ rfl rfl NeedIs.nil)))
              · intro rest
                refine SOps.callP (lWithin _ _) rfl ?_
                rintro _ rfl
                exact SOps.nil (congrArg (fun b => St.put _ 112 (.v (.bool b))) (hx4))
              apply DOk.cons 113 
              · rfl
              · exact (NeedIs.inl 6 _ _ rfl rfl (NeedIs.inl 0 _ _ rfl rfl NeedIs.nil))
              · intro rest
                refine SOps.pick rfl rfl ?_
                exact SOps.nil rfl
              apply DOk.cons 6 
              · rfl
              · exact (NeedIs.inl 0 _ _ rfl rfl NeedIs.nil)
              · intro rest
                refine SOps.assign rfl ?_
                exact SOps.nil rfl
              exact DOk.nil
            · rfl
            · show SCode _ _ _ _
              refine SCode.drop ?_
              refine SCode.ret ?_
              exact ⟨_, Res.one (.tmp rfl), rfl, rfl⟩
end Go.GH
