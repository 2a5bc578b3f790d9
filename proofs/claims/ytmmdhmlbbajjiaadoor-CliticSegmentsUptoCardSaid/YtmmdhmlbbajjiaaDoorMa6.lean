/-
  Part 6 of the texts behind the walks of this claim: an own layer over the kit's wp, plain laws, and walks. No conditions.
-/
import Derived.Test.YtmmdhmlbbajjiaaDoorMa5
import Derived.Test.YtmmdhmlbbajjiaaDoorProg
import Derived.KernelRfl
import Derived.RangeFuncLeaves
import Derived.RangeFuncCalls
import Derived.RangeFuncRecord
import Derived.RangeFuncSeq
import Derived.RangeFuncOwn
import Derived.TacticsIn
import Derived.LoopNIn
import Derived.DeepKeys3
import Derived.Lib.AppendStr
set_option linter.unusedVariables false
set_option linter.unusedSimpArgs false
set_option linter.deprecated false
namespace Go.GH
open Go
theorem resF_far {fr : Int} {tl : List Int} : ∀ (w : List Int) (i : Nat), resF fr tl w i [] = w
  | [], i => by rw [resF_nil, if_neg (by simp)]
  | c :: w, i => by
    rw [resF_cons, if_neg (by simp), if_neg (by simp), if_neg (by simp), resF_far w]
    simp
/-- Up to a site. -/
theorem resF_upto {fr : Int} {tl : List Int} {k : Nat} {ss : List Nat} : ∀ (n : Nat) (w : List Int) (i : Nat), i + n = k → n ≤ w.length → resF fr tl w i (k :: ss) = w.take n ++ resF fr tl (w.drop n) k (k :: ss)
  | 0, w, i, h, _ => by rw [List.take_zero, List.drop_zero, List.nil_append, show i = k by omega]
  | n + 1, [], i, h, hn => by simp at hn
  | n + 1, c :: w, i, h, hn => by
    have hne : ¬ (k :: ss).head? = some i := by simp only [List.head?_cons, Option.some.injEq]; omega
    rw [resF_cons, if_neg hne, if_neg (fun h => hne h.1), if_neg hne, resF_upto n w (i + 1) (by omega) (by simpa using hn)]
    simp
/-- At a site. -/
theorem resF_site {fr : Int} {tl : List Int} {k : Nat} {ss : List Nat} (hss : ∀ x ∈ ss, k < x) {u : List Int} (hk : k ≤ u.length) (hf : fr ≠ 0 → k < u.length) :
    resF fr tl (u.drop k) k (k :: ss) = tl ++ resF fr tl (u.drop (if fr = 0 then k else k + 1)) (if fr = 0 then k else k + 1) ss := by
  have hne : ¬ ss.head? = some k := fun h => by
    cases ss with
    | nil => simp at h
    | cons y ys => simp only [List.head?_cons, Option.some.injEq] at h; have := hss y (List.mem_cons_self ..); omega
  have hh : (k :: ss).head? = some k := rfl
  rcases Nat.lt_or_ge k u.length with hl | hl
  · rw [List.drop_eq_getElem_cons hl, resF_cons, if_pos hh, if_pos hh]
    by_cases h0 : fr = 0
    · rw [if_neg (fun h => h.2 h0), if_pos h0, List.drop_eq_getElem_cons hl, resF_cons, if_neg hne, if_neg (fun h => hne h.1), if_neg hne]
      simp
    · rw [if_pos ⟨hh, h0⟩, if_neg h0]
      simp
  · have : fr = 0 := by
      rcases Classical.em (fr = 0) with h | h
      · exact h
      · have := hf h; omega
    rw [if_pos this, List.drop_eq_nil_of_le hl, resF_nil, resF_nil, if_pos hh, if_neg hne, List.append_nil]
structure PieceOK (r : Rule) (u v : List Int) (ss : List Nat) (p q k : Nat) : Prop where
  qle : q ≤ u.length
  ple : p ≤ v.length
  eq : v.drop p = resF r.fr (runes r.«to») (u.drop q) q (ss.drop k)
  ge : ∀ x ∈ ss.drop k, q ≤ x
theorem pieces_site {a : List Letter} {r : Rule} {s : ByteArray} : (sitesR a r s).Pairwise (· < ·) ∧ ∀ k ∈ sitesR a r s, k ≤ (runes s).length ∧ (r.fr ≠ 0 → (runes s)[k]? = some r.fr) := by
  rw [sites_eq]
  unfold sitesQ
  split
  · refine ⟨List.Pairwise.filter _ List.pairwise_lt_range, fun k hk => ?_⟩
    obtain ⟨h1, h2⟩ := List.mem_filter.1 hk
    refine ⟨by have := List.mem_range.1 h1; omega, fun h => ?_⟩
    unfold siteQ at h2
    simp only [Bool.and_eq_true, Bool.or_eq_true, decide_eq_true_eq, beq_iff_eq] at h2
    exact h2.1.1.resolve_left h
  · exact ⟨.nil, fun k hk => by cases hk⟩
/-- The piece before the end of the word. -/
theorem PieceOK.last {r : Rule} {u v : List Int} {ss : List Nat} {p q k : Nat} (h : PieceOK r u v ss p q k) (hk : ss.length ≤ k) : v.drop p = u.drop q ∧ p + (u.length - q) = v.length := by
  have e := h.eq
  rw [List.drop_eq_nil_of_le hk, resF_far] at e
  refine ⟨e, ?_⟩
  have := congrArg List.length e
  rw [List.length_drop, List.length_drop] at this
  have := h.qle
  have := h.ple
  omega
/-- The piece before site k, and the site. -/
theorem PieceOK.next {r : Rule} {u v : List Int} {ss : List Nat} {p q k : Nat} (h : PieceOK r u v ss p q k) (hp : ss.Pairwise (· < ·)) (hs : ∀ k ∈ ss, k ≤ u.length ∧ (r.fr ≠ 0 → u[k]? = some r.fr)) (hk : k < ss.length) :
    q ≤ ss[k] ∧ ss[k] ≤ u.length ∧ p + (ss[k] - q) + (runes r.«to»).length ≤ v.length ∧ (u.drop q).take (ss[k] - q) = (v.drop p).take (ss[k] - q) ∧ (v.drop (p + (ss[k] - q))).take (runes r.«to»).length = runes r.«to» ∧
    (r.fr ≠ 0 → u[ss[k]]? = some r.fr) ∧ PieceOK r u v ss (p + (ss[k] - q) + (runes r.«to»).length) (if r.fr = 0 then ss[k] else ss[k] + 1) (k + 1) := by
  have hd : ss.drop k = ss[k] :: ss.drop (k + 1) := List.drop_eq_getElem_cons hk
  have hge := h.ge ss[k] (by rw [hd]; exact List.mem_cons_self ..)
  obtain ⟨hle, hfr⟩ := hs ss[k] (List.getElem_mem hk)
  have hlt : ∀ x ∈ ss.drop (k + 1), ss[k] < x := fun x hx => by
    obtain ⟨j, hj, rfl⟩ := List.mem_iff_getElem.1 hx
    rw [List.getElem_drop]
    exact List.pairwise_iff_getElem.1 hp k (k + 1 + j) hk (by simp at hj; omega) (by omega)
  have e := h.eq
  have hf : r.fr ≠ 0 → ss[k] < u.length := fun h0 => by
    have := hfr h0
    exact (List.getElem?_eq_some_iff.1 this).1
  rw [hd, resF_upto (ss[k] - q) (u.drop q) q (by omega) (by rw [List.length_drop]; omega), List.drop_drop, show q + (ss[k] - q) = ss[k] by omega, resF_site hlt hle hf] at e
  have hl1 : ((u.drop q).take (ss[k] - q)).length = ss[k] - q := by rw [List.length_take, List.length_drop]; omega
  have hlen := congrArg List.length e
  rw [List.length_drop, List.length_append, List.length_append, hl1] at hlen
  have hpv := h.ple
  have e2 : v.drop (p + (ss[k] - q)) = runes r.«to» ++ resF r.fr (runes r.«to») (u.drop (if r.fr = 0 then ss[k] else ss[k] + 1)) (if r.fr = 0 then ss[k] else ss[k] + 1) (ss.drop (k + 1)) := by
    rw [← List.drop_drop, e, List.drop_left' hl1]
  refine ⟨hge, hle, by omega, ?_, ?_, hfr, ?_, by omega, ?_, fun x hx => ?_⟩
  · rw [e, List.take_left' hl1]
  · rw [e2, List.take_left' rfl]
  · split
    · exact hle
    · rename_i h0; exact hf h0
  · rw [← List.drop_drop, e2, List.drop_left' rfl]
  · have := hlt x hx
    split <;> omega
end Go.GH
namespace Go.GH
open Go Go.Proofs
variable {E : Env}
theorem applyQ_eq (a : List Letter) : applyQ a = applyR a := by funext r s; exact (apply_eq a r s).symm
theorem traceQ_eq (a : List Letter) (l : List Rule) (s : ByteArray) : traceQ a l s = traceR a l s := by unfold traceQ traceR; rw [applyQ_eq]
theorem qCascade' (hV : VS E) (a : List Letter) (l : List Rule) (s : ByteArray) (hr : ∀ r ∈ l, SmR r) (hs : s.size ≤ 1048576) : GCall Tryd.prog E 43 [DLs a, DRs l, .v (.string s)] [] (fun d H => d = tupA (cascX (traceR a l s)) ∧ H = []) := by rw [← traceQ_eq]; exact qCascade hV a l s hr hs
end Go.GH
namespace Go.GH
open Go
def eqL : Letter := ⟨61, 2147483648⟩
def extA (a : List Letter) : List Letter := a ++ [eqL]
def hasEq (s : ByteArray) : Bool := s.data.toList.any (fun b => b == 61)
def okRu (a : List Letter) (r : Rule) : Bool := !decide (r.fr = 61) && !hasEq r.«to» && validR (extA a) r
def validS (a : List Letter) (l : List Rule) : Bool := validA a && (idx a 61).isNone && decide (l.length ≤ 64) && l.all (okRu a)
def eqB : ByteArray := ⟨#[61]⟩
def joinE (h c : ByteArray) : ByteArray := h ++ eqB ++ c
def dropE (s : ByteArray) : ByteArray := encs ((runes s).filter (fun r => !decide (r = 61)))
def dropB (s : ByteArray) : ByteArray := ⟨(s.data.toList.filter (fun b => !(b == 61))).toArray⟩
def cascE (a : List Letter) (l : List Rule) (h c : ByteArray) : ByteArray × Int := cascX (traceR (extA a) l (joinE h c))
def attE (a : List Letter) (l : List Rule) (h c : ByteArray) : ByteArray × Int :=
  if 40 < (runes h).length + 1 + (runes c).length then (⟨#[]⟩, 2) else if (cascE a l h c).2 = 0 then (dropE (cascE a l h c).1, 0) else (⟨#[]⟩, (cascE a l h c).2)
def allE (a : List Letter) (l : List Rule) : ByteArray → List ByteArray → ByteArray × Int
  | f, [] => (f, 0)
  | f, c :: cs => if (attE a l f c).2 = 0 then allE a l (attE a l f c).1 cs else (⟨#[]⟩, (attE a l f c).2)
def attR (a : List Letter) (l : List Rule) (h c : ByteArray) : ByteArray × Int := if validS a l && isWordA a h && isWordA a c then attE a l h c else (⟨#[]⟩, 1)
theorem ext_some (a : List Letter) (r : Int) : (idx (extA a) r).isSome = ((idx a r).isSome || decide (r = 61)) := by
  rw [Bool.eq_iff_iff, Bool.or_eq_true, decide_eq_true_eq]
  constructor
  · intro h
    rcases Option.isSome_iff_exists.1 h with ⟨i, hi⟩
    obtain ⟨hlt, he, _⟩ := idx_spec hi
    by_cases h61 : r = 61
    · exact .inr h61
    · left
      cases hn : idx a r with
      | some j => rfl
      | none =>
        exfalso
        have hm : (extA a)[i] ∈ extA a := List.getElem_mem hlt
        rcases List.mem_append.1 hm with hm | hm
        · exact idx_none.1 hn _ hm he
        · rw [List.mem_singleton.1 hm] at he
          exact h61 he.symm
  · intro h
    cases hn : idx (extA a) r with
    | some j => rfl
    | none =>
      exfalso
      rcases h with h | h
      · rcases Option.isSome_iff_exists.1 h with ⟨i, hi⟩
        obtain ⟨hlt, he, _⟩ := idx_spec hi
        exact idx_none.1 hn _ (List.mem_append_left _ (List.getElem_mem hlt)) he
      · subst h
        exact idx_none.1 hn eqL (List.mem_append_right _ (List.mem_singleton.2 rfl)) rfl
theorem validS_iff {a : List Letter} {l : List Rule} : validS a l = true ↔ validA a = true ∧ idx a 61 = none ∧ l.length ≤ 64 ∧ ∀ r ∈ l, r.fr ≠ 61 ∧ hasEq r.«to» = false ∧ validR (extA a) r = true := by
  unfold validS okRu
  simp only [Bool.and_eq_true, decide_eq_true_eq, List.all_eq_true, Bool.not_eq_true', decide_eq_false_iff_not, Option.isNone_iff_eq_none, and_assoc]
theorem eqB_runes : runes eqB = [61] ∧ utf8R eqB = true ∧ eqB = encs [61] := ⟨by decide +kernel, by decide +kernel, by decide +kernel⟩
theorem utf8_app {x y : ByteArray} (hx : utf8R x = true) (hy : utf8R y = true) : utf8R (x ++ y) = true ∧ runes (x ++ y) = runes x ++ runes y := by
  have e : x ++ y = encs (runes x ++ runes y) := by rw [encs_append, encs_runes hx, encs_runes hy]
  have hv : ∀ r ∈ runes x ++ runes y, Utf8.valid r = true := fun r hr => (List.mem_append.1 hr).elim runes_valid runes_valid
  exact ⟨by rw [e]; exact utf8R_encs hv, by rw [e]; exact runes_encs hv⟩
theorem join_runes {h c : ByteArray} (h1 : utf8R h = true) (h2 : utf8R c = true) : utf8R (joinE h c) = true ∧ runes (joinE h c) = runes h ++ 61 :: runes c := by
  have e1 := utf8_app h1 eqB_runes.2.1
  have e2 := utf8_app e1.1 h2
  refine ⟨e2.1, ?_⟩
  show runes (h ++ eqB ++ c) = _
  rw [e2.2, e1.2, eqB_runes.1, List.append_assoc]; rfl
theorem overA_iff {a : List Letter} {s : ByteArray} : overA a s = true ↔ utf8R s = true ∧ ∀ r ∈ runes s, (idx a r).isSome = true := by
  unfold overA; rw [Bool.and_eq_true, List.all_eq_true]
theorem join_word {a : List Letter} {h c : ByteArray} (h1 : overA a h = true) (h2 : overA a c = true) : consS (extA a) 40 (joinE h c) = decide ((runes h).length + 1 + (runes c).length ≤ 40) := by
  obtain ⟨u1, a1⟩ := overA_iff.1 h1
  obtain ⟨u2, a2⟩ := overA_iff.1 h2
  obtain ⟨u3, e3⟩ := join_runes u1 u2
  rw [consS_eq, u3, Bool.true_and]
  have hall : allL (extA a) (joinE h c) = true := by
    rw [allL, e3, List.all_eq_true]
    intro r hr
    rw [ext_some]
    rcases List.mem_append.1 hr with hr | hr
    · rw [a1 r hr]; rfl
    · rcases List.mem_cons.1 hr with rfl | hr
      · simp
      · rw [a2 r hr]; rfl
  rw [hall, Bool.and_true, e3, List.length_append, List.length_cons]
  exact decide_eq_decide.2 (by omega)
/-! letters that no rule reads or writes -/
theorem resF_filter {fr : Int} {tl : List Int} {p : Int → Bool} (h1 : fr ≠ 0 → p fr = false) (h2 : ∀ c ∈ tl, p c = false) : ∀ (w : List Int) (i : Nat) (ss : List Nat), ss.Pairwise (· < ·) → (∀ k ∈ ss, i ≤ k ∧ (fr ≠ 0 → w[k - i]? = some fr)) → (resF fr tl w i ss).filter p = w.filter p
  | [], i, ss, _, _ => by
    rw [resF_nil]
    split
    · exact List.filter_eq_nil_iff.2 (fun c hc => by rw [h2 c hc]; simp)
    · rfl
  | c :: w, i, ss, hp, hs => by
    have htl : tl.filter p = [] := List.filter_eq_nil_iff.2 (fun c hc => by rw [h2 c hc]; simp)
    rw [resF_cons, List.filter_append, List.filter_append]
    by_cases h : ss.head? = some i
    · obtain ⟨t, rfl⟩ : ∃ t, ss = i :: t := by
        cases ss with
        | nil => cases h
        | cons x t => simp only [List.head?_cons, Option.some.injEq] at h; subst h; exact ⟨t, rfl⟩
      have ih := resF_filter h1 h2 w (i + 1) t (List.pairwise_cons.1 hp).2 (fun k hk => by
        have h3 := (List.pairwise_cons.1 hp).1 k hk
        refine ⟨h3, fun h4 => ?_⟩
        have h5 := (hs k (List.mem_cons_of_mem _ hk)).2 h4
        rw [show k - i = (k - (i + 1)) + 1 by omega, List.getElem?_cons_succ] at h5
        exact h5)
      rw [if_pos h, if_pos h, htl, List.nil_append]
      show (if (i :: t).head? = some i ∧ fr ≠ 0 then [] else [c]).filter p ++ (resF fr tl w (i + 1) t).filter p = _
      rw [ih]
      by_cases hf : fr = 0
      · rw [if_neg (fun h => h.2 hf), List.filter_cons, List.filter_cons]
        split <;> simp
      · rw [if_pos ⟨rfl, hf⟩]
        have h5 := (hs i (List.mem_cons_self ..)).2 hf
        rw [Nat.sub_self, List.getElem?_cons_zero, Option.some.injEq] at h5
        rw [h5, List.filter_cons, h1 hf]
        rfl
    · have ih := resF_filter h1 h2 w (i + 1) ss hp (fun k hk => by
        obtain ⟨h3, h4⟩ := hs k hk
        have hne : k ≠ i := by
          intro e
          subst e
          cases ss with
          | nil => cases hk
          | cons x t =>
            have hx := (hs x (List.mem_cons_self ..)).1
            rcases List.mem_cons.1 hk with hk | hk
            · subst hk; exact h rfl
            · have := (List.pairwise_cons.1 hp).1 k hk; omega
        refine ⟨by omega, fun h6 => ?_⟩
        have h5 := h4 h6
        rw [show k - i = (k - (i + 1)) + 1 by omega, List.getElem?_cons_succ] at h5
        exact h5)
      rw [if_neg h, if_neg (fun h2 => h h2.1), if_neg h, ih, List.filter_nil, List.nil_append, List.filter_cons, List.filter_cons]
      split <;> simp
theorem apply_filter {x : List Letter} {r : Rule} {s : ByteArray} {p : Int → Bool} (h : (applyR x r s).2 = 0) (h1 : r.fr ≠ 0 → p r.fr = false) (h2 : ∀ c ∈ runes r.«to», p c = false) : (runes (applyR x r s).1).filter p = (runes s).filter p ∧ consS x 40 (applyR x r s).1 = true := by
  obtain ⟨hok, hw⟩ := resX_word (l := sitesR x r s) h
  refine ⟨?_, hw⟩
  unfold applyR at h ⊢
  unfold resX at h ⊢
  rw [if_pos hok] at h ⊢
  obtain ⟨a1, a2⟩ := okR_all hok
  have hm : ∀ c ∈ resF r.fr (runes r.«to») (runes s) 0 (sitesR x r s), Utf8.valid c = true := fun c hc => (resF_mem _ _ _ hc).elim runes_valid runes_valid
  by_cases h40 : 40 < (runes (encs (resF r.fr (runes r.«to») (runes s) 0 (sitesR x r s)))).length
  · rw [if_pos h40] at h; cases h
  · rw [if_neg h40]
    show (runes (encs _)).filter p = _
    rw [runes_encs hm]
    obtain ⟨q1, q2⟩ := pieces_site (a := x) (r := r) (s := s)
    exact resF_filter h1 h2 _ _ _ q1 (fun k hk => ⟨Nat.zero_le _, fun h => by rw [Nat.sub_zero]; exact (q2 k hk).2 h⟩)
theorem trF_filter {x : List Letter} {p : Int → Bool} : ∀ (l : List Rule) (out : List ByteArray) (s : ByteArray), (∀ r ∈ l, (r.fr ≠ 0 → p r.fr = false) ∧ ∀ c ∈ runes r.«to», p c = false) → consS x 40 s = true → out.getLastD ⟨#[]⟩ = s → (trF (applyR x) l out s).2 = 0 →
    (runes ((trF (applyR x) l out s).1.getLastD ⟨#[]⟩)).filter p = (runes s).filter p ∧ consS x 40 ((trF (applyR x) l out s).1.getLastD ⟨#[]⟩) = true
  | [], out, s, _, hs, ho, _ => by rw [trF_nil]; dsimp only; rw [ho]; exact ⟨rfl, hs⟩
  | r :: l, out, s, hl, hs, ho, h => by
    rw [trF_cons] at h ⊢
    by_cases h0 : (applyR x r s).2 = 0
    · rw [if_pos h0] at h ⊢
      obtain ⟨k1, k2⟩ := apply_filter h0 (hl r (List.mem_cons_self ..)).1 (hl r (List.mem_cons_self ..)).2
      have := trF_filter l _ _ (fun q hq => hl q (List.mem_cons_of_mem _ hq)) k2 (by simp) h
      exact ⟨by rw [this.1, k1], this.2⟩
    · rw [if_neg h0] at h; exact absurd h h0
theorem casc_filter {x : List Letter} {l : List Rule} {s : ByteArray} {p : Int → Bool} (hl : ∀ r ∈ l, (r.fr ≠ 0 → p r.fr = false) ∧ ∀ c ∈ runes r.«to», p c = false) (h : (cascX (traceR x l s)).2 = 0) : (runes (cascX (traceR x l s)).1).filter p = (runes s).filter p ∧ consS x 40 (cascX (traceR x l s)).1 = true := by
  rw [casc_two] at h
  obtain ⟨hok, e⟩ := trace_ok h
  have hs : consS x 40 s = true := by simp only [okT, Bool.and_eq_true] at hok; exact hok.1.2
  unfold cascX
  rw [if_pos h]
  rw [e] at h ⊢
  exact trF_filter l _ _ hl hs rfl h
theorem big_eq {n : Nat} (h1 : 128 ≤ n) (h2 : n < 256) : (UInt8.ofNat n == 61) = false := by
  have key : ∀ m : Fin 256, 128 ≤ m.val → (UInt8.ofNat m.val == 61) = false := by decide +kernel
  exact key ⟨n, h2⟩ h1
theorem enc_eq {r : Int} (hv : Utf8.valid r = true) : (encBy r).any (fun b => b == 61) = decide (r = 61) := by
  obtain ⟨c, rfl, hc⟩ := valid_cases hv
  rcases Nat.lt_or_ge c 128 with h1 | h1
  · have e : encBy (c : Int) = [UInt8.ofNat c] := by rw [encBy, enc_1 hv h1]
    have key : ∀ m : Fin 128, (UInt8.ofNat m.val == 61) = decide (m.val = 61) := by decide +kernel
    rw [e, List.any_cons, List.any_nil, Bool.or_false, key ⟨c, h1⟩]
    exact decide_eq_decide.2 (by show c = 61 ↔ (c : Int) = 61; omega)
  · rw [decide_eq_false (show ¬ (c : Int) = 61 by omega), List.any_eq_false]
    have fin : ∀ {b : ByteArray}, Utf8.encode (c : Int) = b → (∀ x ∈ b.data.toList, (x == 61) = false) → ∀ x ∈ encBy (c : Int), ¬ (x == 61) = true := by
      intro b e h x hx
      rw [encBy, e] at hx
      rw [h x hx]; simp
    rcases Nat.lt_or_ge c 2048 with h2 | h2
    · exact fin (enc_2 hv h1 h2) (fun x hx => by
        simp only [List.mem_cons, List.not_mem_nil, or_false] at hx
        rcases hx with rfl | rfl <;> exact big_eq (by omega) (by omega))
    · rcases Nat.lt_or_ge c 65536 with h3 | h3
      · exact fin (enc_3 hv h2 h3) (fun x hx => by
          simp only [List.mem_cons, List.not_mem_nil, or_false] at hx
          rcases hx with rfl | rfl | rfl <;> exact big_eq (by omega) (by omega))
      · exact fin (enc_4 hv h3) (fun x hx => by
          simp only [List.mem_cons, List.not_mem_nil, or_false] at hx
          rcases hx with rfl | rfl | rfl | rfl <;> exact big_eq (by omega) (by omega))
theorem dropE_eq {s : ByteArray} (h : utf8R s = true) : dropE s = dropB s := by
  have key : ∀ rs : List Int, (∀ r ∈ rs, Utf8.valid r = true) → (encs (rs.filter (fun r => !decide (r = 61)))).data.toList = (encs rs).data.toList.filter (fun b => !(b == 61)) := fun rs => by
    induction rs with
    | nil => intro _; rfl
    | cons r rs ih =>
      intro hv
      have hr := hv r (List.mem_cons_self ..)
      have ih := ih (fun x hx => hv x (List.mem_cons_of_mem _ hx))
      have he := enc_eq hr
      rw [encs_cons_data, List.filter_append, ← ih, List.filter_cons]
      by_cases h61 : r = 61
      · subst h61
        have e : (encBy 61).filter (fun b => !(b == 61)) = [] := by decide +kernel
        rw [e]; rfl
      · rw [if_pos (by simpa using h61), encs_cons_data]
        congr 1
        rw [decide_eq_false h61, List.any_eq_false] at he
        exact (List.filter_eq_self.2 (fun b hb => by have := he b hb; simpa using this)).symm
  have h1 := key (runes s) (fun r hr => runes_valid hr)
  rw [encs_runes h] at h1
  unfold dropE dropB
  apply ByteArray.ext
  apply Array.toList_inj.1
  rw [h1]
def chg (l : List Rule) (c : Int) : Bool := l.any (fun r => decide (r.fr = c) || (runes r.«to»).contains c)
def keepR (l : List Rule) (s : ByteArray) : List Int := (runes s).filter (fun c => !chg l c)
theorem chg_rule {l : List Rule} {r : Rule} (h : r ∈ l) : (r.fr ≠ 0 → (!chg l r.fr) = false) ∧ ∀ c ∈ runes r.«to», (!chg l c) = false := by
  refine ⟨fun _ => ?_, fun c hc => ?_⟩
  · rw [Bool.not_eq_false', chg, List.any_eq_true]
    exact ⟨r, h, by simp⟩
  · rw [Bool.not_eq_false', chg, List.any_eq_true]
    exact ⟨r, h, by simp [hc]⟩
/-- What attaching leaves: a word over the letters, and the letters that no rule touches in their order. -/
theorem att_keep {a : List Letter} {l : List Rule} {h c : ByteArray} (h1 : overA a h = true) (h2 : overA a c = true) (he : (attE a l h c).2 = 0) : overA a (attE a l h c).1 = true ∧ (runes (attE a l h c).1).length ≤ 40 ∧ keepR l (attE a l h c).1 = (keepR l h ++ keepR l c).filter (fun r => !decide (r = 61)) := by
  unfold attE at he ⊢
  by_cases h40 : 40 < (runes h).length + 1 + (runes c).length
  · rw [if_pos h40] at he; cases he
  · rw [if_neg h40] at he ⊢
    by_cases h0 : (cascE a l h c).2 = 0
    · rw [if_pos h0]
      dsimp only
      obtain ⟨k1, k2⟩ := casc_filter (p := fun c => !chg l c) (fun r hr => chg_rule hr) h0
      obtain ⟨u1, _⟩ := overA_iff.1 h1
      obtain ⟨u2, _⟩ := overA_iff.1 h2
      rw [(join_runes u1 u2).2] at k1
      rw [consS_eq, Bool.and_eq_true, Bool.and_eq_true, decide_eq_true_eq] at k2
      obtain ⟨⟨v1, v2⟩, v3⟩ := k2
      have hv : ∀ r ∈ (runes (cascE a l h c).1).filter (fun r => !decide (r = 61)), Utf8.valid r = true := fun r hr => runes_valid (List.mem_filter.1 hr).1
      have hr : runes (dropE (cascE a l h c).1) = (runes (cascE a l h c).1).filter (fun r => !decide (r = 61)) := runes_encs hv
      refine ⟨overA_iff.2 ⟨utf8R_encs hv, fun r hr2 => ?_⟩, ?_, ?_⟩
      · rw [hr] at hr2
        obtain ⟨m1, m2⟩ := List.mem_filter.1 hr2
        have := List.all_eq_true.1 v3 r m1
        rw [ext_some] at this
        rcases Bool.or_eq_true_iff.1 this with h3 | h3
        · exact h3
        · rw [h3] at m2; cases m2
      · rw [hr]
        exact Nat.le_trans (List.length_filter_le _ _) v2
      · unfold keepR
        rw [hr, List.filter_filter]
        have e1 : ((runes (cascE a l h c).1).filter (fun x => !chg l x && !decide (x = 61))) = (((runes (cascE a l h c).1).filter (fun x => !chg l x)).filter (fun x => !decide (x = 61))) := by
          rw [List.filter_filter]
          congr 1; funext x; exact Bool.and_comm _ _
        have k1' : ((runes (cascE a l h c).1).filter (fun x => !chg l x)) = (runes h ++ 61 :: runes c).filter (fun x => !chg l x) := k1
        rw [e1, k1', List.filter_append, List.filter_append, List.filter_append]
        congr 1
        rw [List.filter_cons]
        split
        · rw [List.filter_cons]; rfl
        · rfl
    · rw [if_neg h0] at he; exact absurd he h0
end Go.GH
namespace Go.GH
open Go
structure Sg where
  host : ByteArray
  cls : List ByteArray
def encSg (s : Sg) : List DV := [.v (.string s.host), DStrs s.cls]
abbrev DSgs (l : List Sg) : DV := .isl false 2 (l.map encSg)
def memS (s : ByteArray) (ks : List ByteArray) : Bool := ks.any (fun x => decide (x = s))
theorem memS_snoc (s r : ByteArray) (ks : List ByteArray) : memS s (ks ++ [r]) = (memS s ks || decide (r = s)) := by simp [memS]
def onceN (l : List ByteArray) : Nat → List ByteArray
  | 0 => []
  | i + 1 => if memS (l.getD i .empty) (l.take i) then onceN l i else onceN l i ++ [l.getD i .empty]
def onceL (l : List ByteArray) : List ByteArray := onceN l l.length
def seqL (cs : List ByteArray) : List (List ByteArray) := [] :: (cs.map (fun c => [c]) ++ cs.flatMap (fun c => cs.map (fun d => [c, d])))
def candL (hs cs : List ByteArray) : List Sg := hs.flatMap (fun h => (seqL cs).map (fun q => ⟨h, q⟩))
def okSg (a : List Letter) (l : List Rule) (w : ByteArray) (s : Sg) : Bool := decide ((allE a l s.host s.cls).2 = 0) && decide ((allE a l s.host s.cls).1 = w)
def splitL (a : List Letter) (l : List Rule) (hs cs : List ByteArray) (w : ByteArray) : List Sg := (candL (onceL hs) (onceL cs)).filter (okSg a l w)
def argS (a : List Letter) (l : List Rule) (hs cs : List ByteArray) (w : ByteArray) : Bool := validS a l && hs.all (isWordA a) && cs.all (isWordA a) && isWordA a w
def splitR (a : List Letter) (l : List Rule) (hs cs : List ByteArray) (w : ByteArray) : List Sg × Int := if argS a l hs cs w then (if 256 < (splitL a l hs cs w).length then ([], 2) else (splitL a l hs cs w, 0)) else ([], 1)
theorem onceN_len (l : List ByteArray) : ∀ i, (onceN l i).length ≤ i
  | 0 => Nat.le_refl _
  | i + 1 => by
    have := onceN_len l i
    rw [onceN]
    split
    · omega
    · rw [List.length_append, List.length_singleton]; omega
theorem onceN_mem {l : List ByteArray} {x : ByteArray} : ∀ i, i ≤ l.length → x ∈ onceN l i → x ∈ l
  | 0, _, h => by cases h
  | i + 1, hi, h => by
    rw [onceN] at h
    split at h
    · exact onceN_mem i (by omega) h
    · rcases List.mem_append.1 h with h | h
      · exact onceN_mem i (by omega) h
      · rw [List.mem_singleton.1 h, List.getD_eq_getElem?_getD, List.getElem?_eq_getElem (show i < l.length by omega)]
        exact List.getElem_mem _
theorem onceL_mem {l : List ByteArray} {x : ByteArray} (h : x ∈ onceL l) : x ∈ l := onceN_mem _ (Nat.le_refl _) h
theorem seqL_len (cs : List ByteArray) : (seqL cs).length = 1 + cs.length + cs.length * cs.length := by
  have key : ∀ (xs : List ByteArray), (xs.flatMap (fun c => cs.map (fun d => [c, d]))).length = xs.length * cs.length := fun xs => by
    induction xs with
    | nil => simp
    | cons x xs ih => rw [List.flatMap_cons, List.length_append, ih, List.length_map, List.length_cons, Nat.add_mul]; omega
  unfold seqL
  rw [List.length_cons, List.length_append, List.length_map, key]; omega
theorem candL_len (hs cs : List ByteArray) : (candL hs cs).length = hs.length * (1 + cs.length + cs.length * cs.length) := by
  unfold candL
  induction hs with
  | nil => simp
  | cons h hs ih => rw [List.flatMap_cons, List.length_append, ih, List.length_map, seqL_len, List.length_cons, Nat.add_mul]; omega
theorem candL_mem {hs cs : List ByteArray} {s : Sg} (h : s ∈ candL hs cs) : s.host ∈ hs ∧ s.cls.length ≤ 2 ∧ ∀ c ∈ s.cls, c ∈ cs := by
  unfold candL at h
  obtain ⟨x, hx, h⟩ := List.mem_flatMap.1 h
  obtain ⟨q, hq, rfl⟩ := List.mem_map.1 h
  refine ⟨hx, ?_⟩
  unfold seqL at hq
  rcases List.mem_cons.1 hq with rfl | hq
  · exact ⟨Nat.zero_le _, fun c hc => by cases hc⟩
  · rcases List.mem_append.1 hq with hq | hq
    · obtain ⟨c, hc, rfl⟩ := List.mem_map.1 hq
      exact ⟨by simp, fun y hy => by rw [List.mem_singleton.1 hy]; exact hc⟩
    · obtain ⟨c, hc, hq⟩ := List.mem_flatMap.1 hq
      obtain ⟨d, hd, rfl⟩ := List.mem_map.1 hq
      exact ⟨by simp, fun y hy => by
        simp only [List.mem_cons, List.not_mem_nil, or_false] at hy
        rcases hy with rfl | rfl
        · exact hc
        · exact hd⟩
/-! the letters that stay tell which segments are possible -/
def keepS (l : List Rule) (s : ByteArray) : ByteArray := encs (keepR l s)
def prefB (p s : ByteArray) : Bool := decide (p.size ≤ s.size) && decide (s.extract 0 p.size = p)
def cutP (x : ByteArray × Bool) (p : ByteArray) : ByteArray × Bool := if x.2 then (if prefB p x.1 then (x.1.extract p.size x.1.size, true) else (x.1, false)) else x
def possB (l : List Rule) (w : ByteArray) (s : Sg) : Bool := ((s.cls.foldl (fun x c => cutP x (keepS l c)) (cutP (keepS l w, true) (keepS l s.host))).2) && decide ((s.cls.foldl (fun x c => cutP x (keepS l c)) (cutP (keepS l w, true) (keepS l s.host))).1 = ⟨#[]⟩)
theorem extract_left (x y : ByteArray) : (x ++ y).extract 0 x.size = x ∧ (x ++ y).extract x.size (x ++ y).size = y := by
  constructor
  · apply ByteArray.ext; simp [ByteArray.data_extract, ByteArray.data_append]
  · apply ByteArray.ext
    have h1 : x.data.extract x.size (x.size + y.size) = #[] := Array.extract_empty_of_size_le_start (Nat.le_refl _)
    have h2 : y.data.extract 0 y.size = y.data := Array.extract_size
    have h3 : x.size + y.size - x.data.size = y.size := by show x.data.size + _ - x.data.size = _; omega
    have h4 : x.size - x.data.size = 0 := Nat.sub_self _
    simp only [ByteArray.data_extract, ByteArray.data_append, ByteArray.size_append, Array.extract_append, h1, h3, h4, h2, Array.empty_append]
theorem cutP_app (x y : ByteArray) : cutP (x ++ y, true) x = (y, true) := by
  unfold cutP prefB
  have h := extract_left x y
  rw [if_pos rfl, h.1, h.2, ByteArray.size_append, decide_eq_true (by omega), decide_eq_true rfl]
  rfl
theorem word_keep {a : List Letter} {l : List Rule} (h61 : idx a 61 = none) {s : ByteArray} (h : overA a s = true) : (keepR l s).filter (fun r => !decide (r = 61)) = keepR l s := by
  rw [List.filter_eq_self]
  intro r hr
  have h1 := (overA_iff.1 h).2 r (List.mem_filter.1 hr).1
  cases hd : decide (r = 61) with
  | false => rfl
  | true =>
    have := of_decide_eq_true hd
    subst this
    rw [h61] at h1; cases h1
theorem all_keep {a : List Letter} {l : List Rule} (h61 : idx a 61 = none) : ∀ (cs : List ByteArray) (f : ByteArray), overA a f = true → (∀ c ∈ cs, overA a c = true) → (allE a l f cs).2 = 0 → keepR l (allE a l f cs).1 = keepR l f ++ (cs.map (keepR l)).flatten ∧ overA a (allE a l f cs).1 = true
  | [], f, hf, _, _ => ⟨by simp [allE], hf⟩
  | c :: cs, f, hf, hc, he => by
    have hc0 := hc c (List.mem_cons_self ..)
    rw [allE] at he ⊢
    by_cases h0 : (attE a l f c).2 = 0
    · rw [if_pos h0] at he ⊢
      obtain ⟨k1, _, k2⟩ := att_keep hf hc0 h0
      have ih := all_keep h61 cs _ k1 (fun d hd => hc d (List.mem_cons_of_mem _ hd)) he
      refine ⟨?_, ih.2⟩
      rw [ih.1, k2, List.filter_append, word_keep h61 hf, word_keep h61 hc0, List.map_cons, List.flatten_cons, List.append_assoc]
    · rw [if_neg h0] at he; exact absurd he h0
theorem poss_of {l : List Rule} {w : ByteArray} {s : Sg} (h : keepR l w = keepR l s.host ++ (s.cls.map (keepR l)).flatten) : possB l w s = true := by
  have e : keepS l w = keepS l s.host ++ encs ((s.cls.map (keepR l)).flatten) := by unfold keepS; rw [h, encs_append]
  have key : ∀ (cs : List ByteArray), cs.foldl (fun x c => cutP x (keepS l c)) (encs ((cs.map (keepR l)).flatten), true) = (⟨#[]⟩, true) := fun cs => by
    induction cs with
    | nil => rfl
    | cons c cs ih =>
      rw [List.foldl_cons, List.map_cons, List.flatten_cons, encs_append]
      have : cutP (encs (keepR l c) ++ encs ((cs.map (keepR l)).flatten), true) (keepS l c) = (encs ((cs.map (keepR l)).flatten), true) := cutP_app _ _
      rw [this]; exact ih
  unfold possB
  rw [e, cutP_app, key]
  rfl
def preSg (l : List Rule) (w : ByteArray) (s : Sg) : Bool := !(decide (s.cls.length = 0) && !decide (s.host = w)) && possB l w s
/-- What the program passes over has another form, or none. -/
theorem ok_pre {a : List Letter} {l : List Rule} {w : ByteArray} {s : Sg} (h61 : idx a 61 = none) (hh : overA a s.host = true) (hc : ∀ c ∈ s.cls, overA a c = true) (h : okSg a l w s = true) : preSg l w s = true := by
  unfold okSg at h
  rw [Bool.and_eq_true, decide_eq_true_eq, decide_eq_true_eq] at h
  obtain ⟨h1, h2⟩ := h
  have hk := (all_keep h61 s.cls s.host hh hc h1).1
  rw [h2] at hk
  unfold preSg
  rw [poss_of hk, Bool.and_true]
  cases hcs : s.cls with
  | nil =>
    rw [hcs] at h2
    have : s.host = w := h2
    rw [this]; simp
  | cons c cs => simp
theorem isWordA_over {a : List Letter} {s : ByteArray} (h : isWordA a s = true) : overA a s = true ∧ (runes s).length ≤ 40 := by
  unfold isWordA at h
  rw [Bool.and_eq_true, decide_eq_true_eq] at h
  exact h
theorem split_pre {a : List Letter} {l : List Rule} {hs cs : List ByteArray} {w : ByteArray} (h : argS a l hs cs w = true) : ∀ s ∈ candL (onceL hs) (onceL cs), (preSg l w s && okSg a l w s) = okSg a l w s := by
  intro s hm
  unfold argS at h
  simp only [Bool.and_eq_true, List.all_eq_true] at h
  obtain ⟨⟨⟨h1, h2⟩, h3⟩, h4⟩ := h
  obtain ⟨c1, c2, c3⟩ := candL_mem hm
  cases ho : okSg a l w s with
  | false => rw [Bool.and_false]
  | true =>
    rw [ok_pre (validS_iff.1 h1).2.1 (isWordA_over (h2 _ (onceL_mem c1))).1 (fun c hc => (isWordA_over (h3 _ (onceL_mem (c3 c hc)))).1) ho]
    rfl
end Go.GH
namespace Go.GH
open Go Go.Proofs
variable {E : Env}

/-! #### strings.Builder -/
def adrB (b : Nat) : Bool → DV
  | true => .vref b 100 2
  | false => .v (.pointer none)
def bldH (b g : Nat) (used : Bool) (bs : List UInt8) : DHeap := (b, .row 100 2 [[adrB b used, accD 1 g (bs.map encY)]]) :: accH 5 1 g (bs.map encY)
theorem ptr_B : ptrB Tryd.prog 97 100 := ⟨by kernel_rfl, by
  have h : (Tryd.prog.info? 100).map (fun j => decide (j.size ≠ 0)) = some true := by kernel_rfl
  obtain ⟨j, h1, h2⟩ := Option.map_eq_some_iff.1 h
  exact ⟨j, h1, of_decide_eq_true h2⟩⟩
theorem up_B : Tryd.prog.underlying 127 = some .unsafePointer := by kernel_rfl
theorem lies_B : liesAt Tryd.prog Tryd.prog.depth 100 (2 / Tryd.prog.cellsOf 100) 0 100 1 = true := by kernel_rfl
theorem noEsc_B : noEscB Tryd.prog 93 := ⟨Tryd.f93, Tryd.func93, by kernel_rfl, by kernel_rfl, by kernel_rfl, by kernel_rfl⟩
theorem fld0_B : fieldB Tryd.prog 100 0 0 = true := by kernel_rfl
theorem fld1_B : fieldB Tryd.prog 100 1 1 = true := by kernel_rfl
theorem flatP_B : flatB Tryd.prog 97 = true := by kernel_rfl
theorem flatS_B : flatB Tryd.prog 98 = true := by kernel_rfl
theorem oneP_B : oneB Tryd.prog 97 = true := by kernel_rfl
theorem oneS_B : oneB Tryd.prog 98 = true := by kernel_rfl
theorem slice_B : sliceB Tryd.prog 98 5 1 = true := by kernel_rfl
theorem elem_B : elemB Tryd.prog 5 1 1 = true := by kernel_rfl
theorem zero_By : zeroIs Tryd.prog 5 (.int .u8 0) := by unfold zeroIs; kernel_rfl
theorem mixed_B : Tryd.prog.follows .mixedOrders = true := by kernel_rfl
theorem ptr_By : Tryd.prog.underlying 116 = some (.pointer 5) := by kernel_rfl
theorem some_R : (Tryd.prog.underlying 21).isSome = true := by kernel_rfl
theorem int_U : intB Tryd.prog 26 .u32 = true := by kernel_rfl
theorem int_By : intB Tryd.prog 5 .u8 = true := by kernel_rfl
theorem cells_By : Tryd.prog.cellsOf 5 = 1 := by kernel_rfl
theorem bCopy (b : Nat) (used : Bool) (x : DV) (hx : x.one = true) : GCall Tryd.prog E 84 [.vref b 100 2] [(b, .row 100 2 [[adrB b used, x]])] (fun d H => d = .v (.tuple #[]) ∧ H = [(b, .row 100 2 [[adrB b true, x]])]) := by
  refine GCall.body (C := ⟨Tryd.prog, E, false⟩) Tryd.func84 rfl (fun h => by cases h) (by kernel_rfl) rfl ?_
  refine SCode.seqR ?_
  refine SOps.move rfl ?_
  refine SOps.nilCheck rfl rfl ?_
  refine SOps.fieldV rfl fld0_B ?_
  refine SOps.loadRef 0 0 0 rfl flatP_B rfl rfl rfl rfl ?_
  cases used with
  | true =>
    refine SOps.eqNil false ptr_B rfl (.inl ⟨rfl, rfl⟩) rfl ?_
    refine SOps.nil ?_
    refine SCode.cond rfl (fun h => by cases h) (fun _ => ?_)
    refine SCode.seqR ?_
    refine SOps.move rfl ?_
    refine SOps.nilCheck rfl rfl ?_
    refine SOps.fieldV rfl fld0_B ?_
    refine SOps.loadRef 0 0 0 rfl flatP_B rfl rfl rfl rfl ?_
    refine SOps.move rfl ?_
    refine SOps.eqPtr ptr_B rfl rfl ?_
    refine SOps.nil ?_
    refine SCode.cond rfl (fun h => by cases h) (fun _ => ?_)
    refine SCode.skip ?_
    exact ⟨_, Res.none, rfl, rfl⟩
  | false =>
    refine SOps.eqNil true ptr_B rfl (.inr ⟨rfl, rfl⟩) rfl ?_
    refine SOps.nil ?_
    refine SCode.cond rfl (fun _ => ?_) (fun h => by cases h)
    refine SCode.region ?_
    refine SOps.move rfl ?_
    refine SOps.move rfl ?_
    refine SOps.toUnsafe rfl ptr_B up_B (by decide) ?_
    refine SOps.noEscape noEsc_B rfl ?_
    refine SOps.fromUnsafe rfl up_B ptr_B lies_B ?_
    refine SOps.nilCheck rfl rfl ?_
    refine SOps.fieldV rfl fld0_B ?_
    refine SOps.store 0 0 0 rfl rfl oneP_B rfl rfl rfl (by decide) rfl ?_
    refine SOps.nil ?_
    exact ⟨_, Res.none, rfl, rfl⟩

theorem bAppendNA (g c : Nat) (bs : List UInt8) (hv : Utf8.valid (c : Int) = true) (h0 : 128 ≤ c) (hl : bs.length ≤ 70368744177664) : GCall Tryd.prog E 94 [accD 1 g (bs.map encY), .v (.int .i32 (c : Int))] (accH 5 1 g (bs.map encY)) (fun d H => ∃ g', d = accD 1 g' ((bs ++ encBy (c : Int)).map encY) ∧ H = accH 5 1 g' ((bs ++ encBy (c : Int)).map encY)) := by
  have hc : c < 55296 ∨ (57344 ≤ c ∧ c ≤ 1114111) := by
    have := hv
    simp only [Utf8.valid, Bool.or_eq_true, Bool.and_eq_true, decide_eq_true_eq] at this
    omega
  have hw : IntKind.u32.wrap (c : Int) = (c : Int) := u32wrap (by omega) (by omega)
  have fin : ∀ (st : St) (b0 g' : Nat) (x : DO) (es : List (List DV)), es = (encBy (c : Int)).map encY → st.get 4 = some (accD 1 g' (bs.map encY ++ es)) → st.heap = [(b0, x)] ++ (accH 5 1 g' (bs.map encY ++ es) ++ []) →
      SCode ⟨Tryd.prog, E, false⟩ .ret st (blockQ 0 (endQ Tryd.prog Tryd.f94.results (fun d H => ∃ g', d = accD 1 g' ((bs ++ encBy (c : Int)).map encY) ∧ H = accH 5 1 g' ((bs ++ encBy (c : Int)).map encY)))) := fun st b0 g' x es he h4 hh => by
    refine SCode.weaken (st' := ⟨st.n, [(4, accD 1 g' ((bs ++ encBy (c : Int)).map encY))], accH 5 1 g' ((bs ++ encBy (c : Int)).map encY)⟩) (St.Le.ofSub ⟨by rw [List.map_append, ← he]; exact h4, trivial⟩ ?_) (SCode.ret ⟨_, Res.one (.tmp rfl), g', rfl, rfl⟩)
    rw [hh, List.map_append, ← he, List.append_nil]
    exact List.Sublist.cons _ (List.Sublist.refl _)
  have sh : ∀ (d : Nat) (hd : d ≠ 0) (q : Int), q = (d : Int) → Int.fdiv (c : Int) q = ((c / d : Nat) : Int) := fun d hd q hq => by subst hq; exact fdiv_nat c d
  have hk : ∀ (q : Nat), IntKind.i32.has (((c / q : Nat) : Int)) := fun q => i32_has (by
    have := Nat.div_le_self c q
    generalize c / q = z at this
    omega)
  refine GCall.body (C := ⟨Tryd.prog, E, false⟩) Tryd.func94 rfl (fun h => by cases h) (by kernel_rfl) rfl ?_
  refine SCode.seqR ?_
  refine SOps.assign rfl ?_
  refine SOps.nil ?_
  refine SCode.seqR ?_
  refine SOps.move rfl ?_
  refine SOps.convInt rfl some_R int_U ?_
  rw [hw]
  refine SOps.assign rfl ?_
  refine SOps.nil ?_
  refine SCode.block ?_
  refine SCode.seqR ?_
  refine SOps.move rfl ?_
  refine SOps.bin rfl rfl rfl ?_
  refine SOps.assign rfl ?_
  refine SOps.nil ?_
  refine SCode.cond rfl (fun hc1 => ?_) (fun hc1 => ?_)
  · have hc1 := of_decide_eq_true hc1
    refine SCode.seqR ?_
    refine SOps.move rfl ?_
    refine SOps.move rfl ?_
    refine SOps.shrI rfl rfl (by decide) (by rw [sh 64 (by decide) _ (by decide)]; exact hk _) ?_
    rw [sh 64 (by decide) _ (by decide)]
    refine SOps.convInt rfl some_R int_By ?_
    refine SOps.bits rfl rfl rfl ?_
    refine SOps.move rfl ?_
    refine SOps.convInt rfl some_R int_By ?_
    refine SOps.bits rfl rfl rfl ?_
    refine SOps.bits rfl rfl rfl ?_
    refine SOps.litO slice_B zero_By rfl (fun b0 hb_0 => ?_)
    refine SOps.appendAcc [_] [] slice_B elem_B rfl rfl (by rw [List.append_nil]; rfl) (.own 0 rfl (Nat.le_refl _)) (by simp) (by simp [lenB]; omega) (by simp; omega) (fun g' => ?_)
    refine SOps.assign rfl ?_
    refine SOps.nil ?_
    show SCode _ _ _ _
    refine fin _ _ g' _ _ ?_ (by exact rfl) (by exact rfl)
    rw [encBy_2 hv h0 (by omega)]
    have e1 : orB 192 (IntKind.u8.wrap ((c / 64 : Nat) : Int)) = ((192 + c / 64 : Nat) : Int) := by rw [u8nat, Nat.mod_eq_of_lt (by omega), or192' (by omega)]
    show [[DV.v (.int .u8 (orB 192 (IntKind.u8.wrap ((c / 64 : Nat) : Int))))], [DV.v (.int .u8 (orB 128 (andB (IntKind.u8.wrap (c : Int)) 63)))]] = _
    rw [e1]; simp only [low60]; rfl
  · have hc1 := of_decide_eq_false hc1
    refine SCode.seq ?_
    refine SCode.seqR ?_
    refine SOps.move rfl ?_
    refine SOps.bin rfl rfl rfl ?_
    refine SOps.assign rfl ?_
    refine SOps.nil ?_
    refine SCode.cond rfl (fun hc2 => ?_) (fun hc2 => ?_)
    · refine SCode.skip ?_
      show SCode _ _ _ _
      have hc3 := of_decide_eq_true hc2
      refine SCode.cond rfl (fun _ => ?_) (fun h => absurd hc2 (by rw [h]; simp))
      refine SCode.seqR ?_
      refine SOps.move rfl ?_
      refine SOps.move rfl ?_
      refine SOps.shrI rfl rfl (by decide) (by rw [sh 4096 (by decide) _ (by decide)]; exact hk _) ?_
      rw [sh 4096 (by decide) _ (by decide)]
      refine SOps.convInt rfl some_R int_By ?_
      refine SOps.bits rfl rfl rfl ?_
      refine SOps.move rfl ?_
      refine SOps.shrI rfl rfl (by decide) (by rw [sh 64 (by decide) _ (by decide)]; exact hk _) ?_
      rw [sh 64 (by decide) _ (by decide)]
      refine SOps.convInt rfl some_R int_By ?_
      refine SOps.bits rfl rfl rfl ?_
      refine SOps.bits rfl rfl rfl ?_
      refine SOps.move rfl ?_
      refine SOps.convInt rfl some_R int_By ?_
      refine SOps.bits rfl rfl rfl ?_
      refine SOps.bits rfl rfl rfl ?_
      refine SOps.litO slice_B zero_By rfl (fun b0 hb_0 => ?_)
      refine SOps.appendAcc [_] [] slice_B elem_B rfl rfl (by rw [List.append_nil]; rfl) (.own 0 rfl (Nat.le_refl _)) (by simp) (by simp [lenB]; omega) (by simp; omega) (fun g' => ?_)
      refine SOps.assign rfl ?_
      refine SOps.nil ?_
      show SCode _ _ _ _
      refine fin _ _ g' _ _ ?_ (by exact rfl) (by exact rfl)
      rw [encBy_3 hv (by omega) (by omega)]
      have e1 : orB 224 (IntKind.u8.wrap ((c / 4096 : Nat) : Int)) = ((224 + c / 4096 : Nat) : Int) := by rw [u8nat, Nat.mod_eq_of_lt (by omega), or224' (by omega)]
      show [[DV.v (.int .u8 (orB 224 (IntKind.u8.wrap ((c / 4096 : Nat) : Int))))], [DV.v (.int .u8 (orB 128 (andB (IntKind.u8.wrap ((c / 64 : Nat) : Int)) 63)))], [DV.v (.int .u8 (orB 128 (andB (IntKind.u8.wrap (c : Int)) 63)))]] = _
      rw [e1]; simp only [low60]; rfl
    · have hc3 := of_decide_eq_false hc2
      refine SCode.region ?_
      refine SOps.move rfl ?_
      refine SOps.bin rfl rfl rfl ?_
      refine SOps.move rfl ?_
      refine SOps.caseB 30 rfl (fun hb1 => ?_) (fun hb1 => ?_)
      · refine SOps.move rfl ?_
        refine SOps.bin rfl rfl rfl ?_
        refine SOps.pick rfl rfl ?_
        refine SOps.assign rfl ?_
        refine SOps.nil ?_
        show SCode _ _ _ _
        refine SCode.cond rfl (fun hc4 => ?_) (fun hc4 => ?_)
        · have hc4 := of_decide_eq_true hc4
          refine SCode.seqR ?_
          refine SOps.move rfl ?_
          refine SOps.move rfl ?_
          refine SOps.shrI rfl rfl (by decide) (by rw [sh 4096 (by decide) _ (by decide)]; exact hk _) ?_
          rw [sh 4096 (by decide) _ (by decide)]
          refine SOps.convInt rfl some_R int_By ?_
          refine SOps.bits rfl rfl rfl ?_
          refine SOps.move rfl ?_
          refine SOps.shrI rfl rfl (by decide) (by rw [sh 64 (by decide) _ (by decide)]; exact hk _) ?_
          rw [sh 64 (by decide) _ (by decide)]
          refine SOps.convInt rfl some_R int_By ?_
          refine SOps.bits rfl rfl rfl ?_
          refine SOps.bits rfl rfl rfl ?_
          refine SOps.move rfl ?_
          refine SOps.convInt rfl some_R int_By ?_
          refine SOps.bits rfl rfl rfl ?_
          refine SOps.bits rfl rfl rfl ?_
          refine SOps.litO slice_B zero_By rfl (fun b0 hb_0 => ?_)
          refine SOps.appendAcc [_] [] slice_B elem_B rfl rfl (by rw [List.append_nil]; rfl) (.own 0 rfl (Nat.le_refl _)) (by simp) (by simp [lenB]; omega) (by simp; omega) (fun g' => ?_)
          refine SOps.assign rfl ?_
          refine SOps.nil ?_
          show SCode _ _ _ _
          refine fin _ _ g' _ _ ?_ (by exact rfl) (by exact rfl)
          rw [encBy_3 hv (by omega) (by omega)]
          have e1 : orB 224 (IntKind.u8.wrap ((c / 4096 : Nat) : Int)) = ((224 + c / 4096 : Nat) : Int) := by rw [u8nat, Nat.mod_eq_of_lt (by omega), or224' (by omega)]
          show [[DV.v (.int .u8 (orB 224 (IntKind.u8.wrap ((c / 4096 : Nat) : Int))))], [DV.v (.int .u8 (orB 128 (andB (IntKind.u8.wrap ((c / 64 : Nat) : Int)) 63)))], [DV.v (.int .u8 (orB 128 (andB (IntKind.u8.wrap (c : Int)) 63)))]] = _
          rw [e1]; simp only [low60]; rfl
        · have hc4 := of_decide_eq_false hc4
          refine SCode.seqR ?_
          refine SOps.move rfl ?_
          refine SOps.bin rfl rfl rfl ?_
          refine SOps.move rfl ?_
          refine SOps.caseB 53 rfl (fun hb2 => ?_) (fun hb2 => absurd (of_decide_eq_false hb2) (by omega))
          refine SOps.move rfl ?_
          refine SOps.bin rfl rfl rfl ?_
          refine SOps.pick rfl rfl ?_
          refine SOps.assign rfl ?_
          refine SOps.nil ?_
          refine SCode.cond rfl (fun hc5 => ?_) (fun hc5 => absurd (of_decide_eq_false hc5) (by omega))
          refine SCode.seqR ?_
          refine SOps.move rfl ?_
          refine SOps.move rfl ?_
          refine SOps.shrI rfl rfl (by decide) (by rw [sh 262144 (by decide) _ (by decide)]; exact hk _) ?_
          rw [sh 262144 (by decide) _ (by decide)]
          refine SOps.convInt rfl some_R int_By ?_
          refine SOps.bits rfl rfl rfl ?_
          refine SOps.move rfl ?_
          refine SOps.shrI rfl rfl (by decide) (by rw [sh 4096 (by decide) _ (by decide)]; exact hk _) ?_
          rw [sh 4096 (by decide) _ (by decide)]
          refine SOps.convInt rfl some_R int_By ?_
          refine SOps.bits rfl rfl rfl ?_
          refine SOps.bits rfl rfl rfl ?_
          refine SOps.move rfl ?_
          refine SOps.shrI rfl rfl (by decide) (by rw [sh 64 (by decide) _ (by decide)]; exact hk _) ?_
          rw [sh 64 (by decide) _ (by decide)]
          refine SOps.convInt rfl some_R int_By ?_
          refine SOps.bits rfl rfl rfl ?_
          refine SOps.bits rfl rfl rfl ?_
          refine SOps.move rfl ?_
          refine SOps.convInt rfl some_R int_By ?_
          refine SOps.bits rfl rfl rfl ?_
          refine SOps.bits rfl rfl rfl ?_
          refine SOps.litO slice_B zero_By rfl (fun b0 hb_0 => ?_)
          refine SOps.appendAcc [_] [] slice_B elem_B rfl rfl (by rw [List.append_nil]; rfl) (.own 0 rfl (Nat.le_refl _)) (by simp) (by simp [lenB]; omega) (by simp; omega) (fun g' => ?_)
          refine SOps.assign rfl ?_
          refine SOps.nil ?_
          show SCode _ _ _ _
          refine fin _ _ g' _ _ ?_ (by exact rfl) (by exact rfl)
          rw [encBy_4 hv (by omega) (by omega)]
          have e1 : orB 240 (IntKind.u8.wrap ((c / 262144 : Nat) : Int)) = ((240 + c / 262144 : Nat) : Int) := by rw [u8nat, Nat.mod_eq_of_lt (by omega), or240' (by omega)]
          show [[DV.v (.int .u8 (orB 240 (IntKind.u8.wrap ((c / 262144 : Nat) : Int))))], [DV.v (.int .u8 (orB 128 (andB (IntKind.u8.wrap ((c / 4096 : Nat) : Int)) 63)))], [DV.v (.int .u8 (orB 128 (andB (IntKind.u8.wrap ((c / 64 : Nat) : Int)) 63)))], [DV.v (.int .u8 (orB 128 (andB (IntKind.u8.wrap (c : Int)) 63)))]] = _
          rw [e1]; simp only [low60]; rfl
      · exact absurd (of_decide_eq_false hb1) (by omega)

theorem bAppendRune (g : Nat) (r : Int) (bs : List UInt8) (hv : Utf8.valid r = true) (hl : bs.length ≤ 70368744177664) : GCall Tryd.prog E 85 [accD 1 g (bs.map encY), .v (.int .i32 r)] (accH 5 1 g (bs.map encY)) (fun d H => ∃ g', d = accD 1 g' ((bs ++ encBy r).map encY) ∧ H = accH 5 1 g' ((bs ++ encBy r).map encY)) := by
  obtain ⟨c, rfl, hc⟩ := valid_cases hv
  have hw : IntKind.u32.wrap (c : Int) = (c : Int) := u32wrap (by omega) (by omega)
  refine GCall.body (C := ⟨Tryd.prog, E, false⟩) Tryd.func85 rfl (fun h => by cases h) (by kernel_rfl) rfl ?_
  refine SCode.seqR ?_
  refine SOps.assign rfl ?_
  refine SOps.nil ?_
  refine SCode.seq ?_
  refine SCode.seqR ?_
  refine SOps.move rfl ?_
  refine SOps.convInt rfl some_R int_U ?_
  rw [hw]
  refine SOps.bin rfl rfl rfl ?_
  refine SOps.nil ?_
  refine SCode.cond rfl (fun hc1 => ?_) (fun hc1 => ?_)
  · have hc1 := of_decide_eq_true hc1
    refine SCode.seqR ?_
    refine SOps.move rfl ?_
    refine SOps.move rfl ?_
    refine SOps.convInt rfl some_R int_By ?_
    refine SOps.litO slice_B zero_By rfl (fun b0 hb_0 => ?_)
    refine SOps.appendAcc [_] [] slice_B elem_B rfl rfl (by rw [List.append_nil]; rfl) (.own 0 rfl (Nat.le_refl _)) (by simp) (by simp [lenB]; omega) (by simp; omega) (fun g' => ?_)
    refine SOps.assign rfl ?_
    refine SOps.nil ?_
    have he : [[DV.v (.int .u8 (IntKind.u8.wrap (c : Int)))]] = (encBy (c : Int)).map encY := by
      rw [encBy_1 hv (by omega), u8nat, Nat.mod_eq_of_lt (by omega)]; rfl
    refine SCode.weaken (st' := ⟨_, [(4, accD 1 g' ((bs ++ encBy (c : Int)).map encY))], accH 5 1 g' ((bs ++ encBy (c : Int)).map encY)⟩) (St.Le.ofSub ⟨by rw [List.map_append, ← he]; rfl, trivial⟩ ?_) (SCode.ret ⟨_, Res.one (.tmp rfl), g', rfl, rfl⟩)
    rw [List.map_append, ← he]
    show List.Sublist _ ([_] ++ (_ ++ []))
    rw [List.append_nil]
    exact List.Sublist.cons _ (List.Sublist.refl _)
  · have hc1 := of_decide_eq_false hc1
    refine SCode.skip ?_
    show SCode _ _ _ _
    refine SCode.seqR ?_
    refine SOps.move rfl ?_
    refine SOps.move rfl ?_
    refine SOps.call (H := accH 5 1 g (bs.map encY)) (G := []) (bAppendNA g c bs hv (by omega) hl) rfl (List.append_nil _).symm ?_
    rintro _ _ ⟨g', rfl, rfl⟩
    refine SOps.assign rfl ?_
    refine SOps.nil ?_
    exact SCode.ret ⟨_, Res.one (.tmp rfl), g', rfl, List.append_nil _⟩
theorem bWriteRune (b g : Nat) (used : Bool) (bs : List UInt8) (r : Int) (hv : Utf8.valid r = true) (hl : bs.length ≤ 70368744177664) : GCall Tryd.prog E 70 [.vref b 100 2, .v (.int .i32 r)] (bldH b g used bs) (fun d H => ∃ g' n, d = .tup [.v (.int .i64 n), .v .nilIface] ∧ H = bldH b g' true (bs ++ encBy r)) := by
  have hel := encBy_len r
  refine GCall.body (C := ⟨Tryd.prog, E, false⟩) Tryd.func70 rfl (fun h => by cases h) (by kernel_rfl) rfl ?_
  refine SCode.seqR ?_
  refine SOps.assign rfl ?_
  refine SOps.assign rfl ?_
  refine SOps.nil ?_
  refine SCode.seqR ?_
  refine SOps.move rfl ?_
  refine SOps.call (H := [(b, .row 100 2 [[adrB b used, accD 1 g (bs.map encY)]])]) (G := accH 5 1 g (bs.map encY)) (bCopy b used _ (accD_one ..)) rfl rfl ?_
  rintro _ _ ⟨rfl, rfl⟩
  refine SOps.nil ?_
  refine SCode.seqR ?_
  refine SOps.move rfl ?_
  refine SOps.nilCheck rfl rfl ?_
  refine SOps.fieldV rfl fld1_B ?_
  refine SOps.loadRef 0 0 1 rfl flatS_B rfl rfl rfl rfl ?_
  refine SOps.lenAcc rfl slice_B ?_
  refine SOps.assign rfl ?_
  refine SOps.nil ?_
  refine SCode.seqR ?_
  refine SOps.move rfl ?_
  refine SOps.move rfl ?_
  refine SOps.nilCheck rfl rfl ?_
  refine SOps.fieldV rfl fld1_B ?_
  refine SOps.loadRef 0 0 1 rfl flatS_B rfl rfl rfl rfl ?_
  refine SOps.move rfl ?_
  refine SOps.weaken (st' := ⟨_, [(0, .vref b 100 2), (6, .v (.int .i64 ((bs.map encY).length : Int))), (14, .vref b 100 2), (18, accD 1 g (bs.map encY)), (19, .v (.int .i32 r))], accH 5 1 g (bs.map encY) ++ [(b, .row 100 2 [[adrB b true, accD 1 g (bs.map encY)]])]⟩) (St.Le.ofPerm ⟨rfl, rfl, rfl, rfl, rfl, trivial⟩ (List.perm_append_comm (l₂ := [(b, DO.row 100 2 [[adrB b true, accD 1 g (bs.map encY)]])])) (List.Sublist.refl _)) ?_
  refine SOps.call (H := accH 5 1 g (bs.map encY)) (G := [(b, .row 100 2 [[adrB b true, accD 1 g (bs.map encY)]])]) (bAppendRune g r bs hv hl) rfl rfl ?_
  rintro _ _ ⟨g', rfl, rfl⟩
  refine SOps.weaken (st' := ⟨_, [(0, .vref b 100 2), (6, .v (.int .i64 ((bs.map encY).length : Int))), (14, .vref b 100 2), (20, accD 1 g' ((bs ++ encBy r).map encY))], (b, .row 100 2 [[adrB b true, accD 1 g (bs.map encY)]]) :: accH 5 1 g' ((bs ++ encBy r).map encY)⟩) (St.Le.ofPerm ⟨rfl, rfl, rfl, rfl, trivial⟩ (List.perm_append_comm (l₁ := [(b, DO.row 100 2 [[adrB b true, accD 1 g (bs.map encY)]])])) (List.Sublist.refl _)) ?_
  refine SOps.nilCheck rfl rfl ?_
  refine SOps.fieldV rfl fld1_B ?_
  refine SOps.store 0 0 1 rfl rfl oneS_B rfl rfl rfl (by decide) (accD_one ..) ?_
  refine SOps.nil ?_
  refine SCode.seqR ?_
  refine SOps.move rfl ?_
  refine SOps.nilCheck rfl rfl ?_
  refine SOps.fieldV rfl fld1_B ?_
  refine SOps.loadRef 0 0 1 rfl flatS_B rfl rfl rfl rfl ?_
  refine SOps.lenAcc rfl slice_B ?_
  refine SOps.move rfl ?_
  refine SOps.subI rfl rfl (by simp only [List.length_map, List.length_append]; omega) (by simp only [List.length_map, List.length_append]; omega) ?_
  refine SOps.assign rfl ?_
  refine SOps.assign rfl ?_
  refine SOps.nil ?_
  exact SCode.ret ⟨_, Res.two (.tmp rfl) (.tmp rfl), g', _, rfl, rfl⟩

theorem bString (b g : Nat) (used : Bool) (bs : List UInt8) (hl : bs.length ≤ 70368744177664) : GCall Tryd.prog E 71 [.vref b 100 2] (bldH b g used bs) (fun d H => d = .v (.string ⟨bs.toArray⟩) ∧ H = []) := by
  refine GCall.body (C := ⟨Tryd.prog, E, false⟩) Tryd.func71 rfl (fun h => by cases h) (by kernel_rfl) rfl ?_
  refine SCode.seqR ?_
  refine SOps.assign rfl ?_
  refine SOps.nil ?_
  refine SCode.seq ?_
  refine SCode.drawSeqAt 10 (fun st => ∃ s2 : St, s2.Le st ∧ s2.get 2 = some (.v (.string ⟨bs.toArray⟩))) 8 mixed_B
    [(3, .vref b 100 2), (4, .vref b 100 2), (5, .ref b 1), (6, accD 1 g (bs.map encY)), (7, dataD g bs), (8, .vref b 100 2), (9, .vref b 100 2), (10, .ref b 1), (11, accD 1 g (bs.map encY)), (12, .v (.int .i64 (bs.length : Int)))] [3, 4, 5, 6, 7, 8, 9, 10, 11, 12]
    [[.inr 0], [.inl 0], [.inl 1], [.inl 2], [.inl 3], [.inr 0], [.inl 5], [.inl 6], [.inl 7], [.inl 8]] [[(0, .vref b 100 2)], [(3, .vref b 100 2)], [(4, .vref b 100 2)], [(5, .ref b 1)], [(6, accD 1 g (bs.map encY))], [(0, .vref b 100 2)], [(8, .vref b 100 2)], [(9, .vref b 100 2)], [(10, .ref b 1)], [(11, accD 1 g (bs.map encY))]]
    rfl (by kernel_rfl) (by kernel_rfl) (by kernel_rfl) (by kernel_rfl) rfl rfl ?_ ?_ ?_
  · refine OpsOk.cons (fun rest => SOps.move rfl (SOps.nil rfl)) ?_
    refine OpsOk.cons (fun rest => SOps.nilCheck rfl rfl (SOps.nil rfl)) ?_
    refine OpsOk.cons (fun rest => SOps.fieldV rfl fld1_B (SOps.nil rfl)) ?_
    refine OpsOk.cons (fun rest => SOps.loadRef 0 0 1 rfl flatS_B rfl rfl rfl rfl (SOps.nil rfl)) ?_
    refine OpsOk.cons (fun rest => SOps.sliceData rfl (SOps.nil rfl)) ?_
    refine OpsOk.cons (fun rest => SOps.move rfl (SOps.nil rfl)) ?_
    refine OpsOk.cons (fun rest => SOps.nilCheck rfl rfl (SOps.nil rfl)) ?_
    refine OpsOk.cons (fun rest => SOps.fieldV rfl fld1_B (SOps.nil rfl)) ?_
    refine OpsOk.cons (fun rest => SOps.loadRef 0 0 1 rfl flatS_B rfl rfl rfl rfl (SOps.nil rfl)) ?_
    refine OpsOk.cons (fun rest => SOps.lenAcc rfl slice_B (SOps.nil (by rw [List.length_map]; rfl))) ?_
    exact OpsOk.nil
  · refine SeqOk.cons (R1 := fun st => ∃ s2 : St, s2.Le st ∧ s2.n = 14 ∧ s2.get 13 = some (.v (.string ⟨bs.toArray⟩))) (fun st hle => SOps.weaken hle ?_) ?_
    · exact SOps.unsafeStr [_] [] ptr_By cells_By rfl rfl (by rw [List.append_nil]; rfl) (SOps.nil ⟨_, ⟨rfl, fun t d h => .inl h, _, .refl _, List.Sublist.refl _⟩, rfl, rfl⟩)
    · refine SeqOk.cons (fun st ⟨s2, h1, h2, h3⟩ => SOps.weaken h1 ?_) SeqOk.nil
      exact SOps.assign h3 (SOps.nil ⟨_, ⟨rfl, fun t d h => .inl h, _, .refl _, List.Sublist.refl _⟩, St.get_put_same s2 2 _⟩) rfl (by rw [h2]; rfl)
  · rintro st ⟨s2, h1, h2⟩
    refine ⟨⟨st.n, [(2, .v (.string ⟨bs.toArray⟩))], []⟩, ⟨rfl, fun t d h => .inl ?_, [], .refl _, List.nil_sublist _⟩, SCode.ret ⟨_, Res.one (.tmp rfl), rfl, rfl⟩⟩
    have h3 := h1.slots 2 _ h2
    have ht : t = 2 ∧ d = .v (.string ⟨bs.toArray⟩) := by
      have h : getL [(2, DV.v (.string ⟨bs.toArray⟩))] t = some d := h
      rw [getL_cons] at h
      split at h
      · rename_i e; exact ⟨e.symm, (Option.some.inj h).symm⟩
      · simp [getL] at h
    obtain ⟨rfl, rfl⟩ := ht
    rcases h3 with h3 | ⟨h3, _⟩
    · exact h3
    · cases h3

end Go.GH
namespace Go.GH
open Go Go.RowKit

section
variable {E : Env} {base : Base} {F F' : Nat → Prop} {st st' : St} {a a' : Act} {w w' : World}
/-- The same relation, seen from now on. -/
theorem SimF.rebase (h : SimF E base F st a w) : SimF E ⟨w, F, fun b => b ∈ st.heap.map (·.1)⟩ F st a w where
  keep := Step.refl _ _
  base_lt := fun b hb => by obtain ⟨p, hp, rfl⟩ := List.mem_map.1 hb; exact (h.heap p hp).2.2.lt
  sub := fun _ x => x
  lt := fun b hb => ⟨(h.lt b hb).1, .inl hb⟩
  env := h.env
  size := h.size
  slots := h.slots
  heap := fun p hp => ⟨.inl (List.mem_map.2 ⟨p, hp, rfl⟩), (h.heap p hp).2⟩
  keys := h.keys
  defers := h.defers
/-- What has been shown from a later world on holds from the call's begin. -/
theorem SimF.back {own : Nat → Prop} (h : SimF E base F st a w) (k : SimF E ⟨w, F, own⟩ F' st' a' w') (hown : ∀ b, own b → base.own b ∨ base.w.heap.size ≤ b) : SimF E base F' st' a' w' where
  keep := h.keep.then k.keep (fun i hi hb => (hown i hb).resolve_right (by omega))
  base_lt := h.base_lt
  sub := fun b hb => k.sub b (h.sub b hb)
  lt := fun b hb => ⟨(k.lt b hb).1, (k.lt b hb).2.elim (fun x => (h.lt b x).2) (fun x => .inr (Nat.le_trans h.keep.size x))⟩
  env := k.env
  size := k.size
  slots := k.slots
  heap := fun p hp => ⟨(k.heap p hp).1.elim (hown _) (fun x => .inr (Nat.le_trans h.keep.size x)), (k.heap p hp).2⟩
  keys := k.keys
  defers := k.defers
/-- The world goes on and leaves what is known as it is, though other blocks may turn. -/
theorem SimF.stepT {T : Nat → Prop} (h : SimF E base F st a w) (k : Step T w w') (hF : ∀ b, F b → ¬ T b) (hH : ∀ p ∈ st.heap, ¬ T p.1) (hT : ∀ b, T b → base.own b ∨ base.w.heap.size ≤ b) : SimF E base F st a w' where
  keep := h.keep.then k (fun i hi hb => (hT i hb).resolve_right (by omega))
  base_lt := h.base_lt
  sub := h.sub
  lt := fun b hb => ⟨Nat.lt_of_lt_of_le (h.lt b hb).1 k.size, (h.lt b hb).2⟩
  env := E.mono (fun b hb => k.block b (h.lt b hb).1 (hF b hb)) (fun _ x => x) h.env
  size := h.size
  slots := fun t d ht => ⟨(h.slots t d ht).1, (h.slots t d ht).2.mono (fun b hb => k.block b (h.lt b hb).1 (hF b hb)) k.shape (fun _ x => x)⟩
  heap := fun p hp => by
    obtain ⟨h1, h2, h3⟩ := h.heap p hp
    exact ⟨h1, h2, h3.mono (k.block _ h3.lt (hH p hp)) (fun b hb => k.block b (h.lt b hb).1 (hF b hb)) k.shape (fun _ x => x)⟩
  keys := h.keys
  defers := h.defers
/-- More is taken for memory that never turns: what someone else has laid. -/
theorem SimF.wider (h : SimF E base F st a w) (h1 : ∀ b, F b → F' b) (h2 : ∀ b, F' b → b < w.heap.size ∧ (F b ∨ base.w.heap.size ≤ b)) (h3 : ∀ p ∈ st.heap, ¬ F' p.1) : SimF E base F' st a w where
  keep := h.keep
  base_lt := h.base_lt
  sub := fun b hb => h1 b (h.sub b hb)
  lt := fun b hb => ⟨(h2 b hb).1, (h2 b hb).2.elim (fun x => (h.lt b x).2) .inr⟩
  env := E.mono (fun _ _ => rfl) h1 h.env
  size := h.size
  slots := fun t d ht => ⟨(h.slots t d ht).1, (h.slots t d ht).2.mono (fun _ _ => rfl) (fun _ _ x => x) h1⟩
  heap := fun p hp => by
    obtain ⟨k1, k2, k3⟩ := h.heap p hp
    exact ⟨k1, h3 p hp, k3.mono rfl (fun _ _ => rfl) (fun _ _ x => x) h1⟩
  keys := h.keys
  defers := h.defers
theorem shape?_none {w : World} {l : Nat} {o : Obj} (h : w.heap[l]? = some o) (hc : o.isCells = false) : w.shape? l = none := by
  unfold World.shape?
  rw [h]
  cases o <;> first | rfl | (simp [Obj.isCells] at hc)
theorem Step.putObj {w : World} {l : Nat} {o : Obj} (o' : Obj) (h : w.heap[l]? = some o) (hc : o.isCells = false) : Step (· = l) w (w.putObj l o') :=
  (Step.grown (grownBy_putObj' w l o') (fun k e s hs => by cases e; rw [shape?_none h hc] at hs; cases hs)).mono (fun i _ e => by cases e; rfl)
end

/-! ### in a round, or inside a fence that lets all in -/
def FW (ro : Option Nat) : Fence := { Fence.wide with round := ro }
def noDef : List Oper → Bool
  | [] => true
  | o :: l => (match o.op with | .defer _ => false | _ => true) && noDef l
theorem noDef_head {o : Oper} (h : (match o.op with | .defer _ => false | _ => true) = true) : ∀ c, o.op ≠ .defer c := fun c e => by rw [e] at h; cases h

theorem uponIn_of {P : Program} {o : Oper} {a : Act} {K K' : Act → World → Prop} {Q : Exit → Act → World → Prop} {ro : Option Nat} {n : Nat} (hK : ∀ a w, K a w → K' a w) :
    ∀ r : Result Next, o.upon P a K Q r → o.uponIn (FW ro) n P a K' Q r := by
  intro r h
  cases r with
  | halt x w => cases x <;> first | exact h | exact h.elim
  | ok x w =>
    cases x with
    | value v => exact hK _ _ h
    | skip => exact hK _ _ h
    | defer d => exact hK _ _ h
    | enter f args =>
      refine ⟨fun e => by simp [FW, Fence.wide] at e, (callsIn_wide (n := n - 1)).2 (Calls.mono h (fun e w' q => ?_))⟩
      cases e with
      | returned v => exact hK _ _ q
      | panicked c => exact q
      | outgrown => exact q
    | row row args =>
      refine ⟨fun e => by simp [FW, Fence.wide] at e, fun c cs _ => ?_⟩
      obtain ⟨v, w', r, s⟩ := h c cs
      exact ⟨v, w', hK _ _ r, stepsIn_wide.2 s⟩
    | _ => exact h.elim
theorem wpListIn_of {P : Program} {ops : Array Oper} {Q : Exit → Act → World → Prop} (ro : Option Nat) (n : Nat) (hQ : ∀ a w, ¬ Q .outgrown a w) : ∀ (l : List Oper), noDef l = true → ∀ a w, wpList P ops Q l a w → wpListIn (FW ro) n P ops Q l a w
  | [], _, a, w, h => h
  | o :: l, hd, a, w, h => by
    rw [noDef, Bool.and_eq_true] at hd
    have ih := wpListIn_of (P := P) (ops := ops) ro n hQ l hd.2
    unfold wpList at h
    unfold wpListIn
    by_cases hw : Region.wanted o (yielded ops a.tmps) = true
    · rw [if_pos hw] at h ⊢
      rcases h with h | ⟨_, a0, w0, h⟩
      · refine ⟨fun _ _ => trivial, ?_⟩
        rw [Oper.semAt_eq _ _ _ (noDef_head hd.1)]
        exact uponIn_of ih _ h
      · exact absurd h (hQ _ _)
    · rw [if_neg hw] at h ⊢
      exact ⟨fun _ _ => trivial, ih _ _ h⟩
theorem uponIn_mono {P : Program} {F : Fence} {n : Nat} {o : Oper} {a : Act} {K K' : Act → World → Prop} {Q Q' : Exit → Act → World → Prop} (hK : ∀ a w, K a w → K' a w) (hQ : ∀ e a w, e ≠ .normal → Q e a w → Q' e a w) :
    ∀ r : Result Next, o.uponIn F n P a K Q r → o.uponIn F n P a K' Q' r := by
  have hL : LetsOut Q → LetsOut Q' := fun ⟨a, w, h⟩ => ⟨a, w, hQ _ _ _ (by simp) h⟩
  intro r h
  cases r with
  | halt x w => cases x <;> first | exact hQ _ _ _ (by simp) h | exact h.elim
  | ok x w =>
    cases x with
    | value v => exact hK _ _ h
    | skip => exact hK _ _ h
    | defer d => exact hK _ _ h
    | enter f args =>
      obtain ⟨h1, h2, h3⟩ := h
      refine ⟨h1, h2, fun cs hr => ?_⟩
      obtain ⟨e, w', fr, q, rest⟩ := h3 cs hr
      refine ⟨e, w', fr, ?_, rest⟩
      cases e with
      | returned v => exact hK _ _ q
      | panicked c => exact hQ _ _ _ (by simp) q
      | outgrown => exact hL q
    | row row args => exact ⟨h.1, h.2.mono (fun v w' r => hK _ _ r)⟩
    | round l f tmps asg bd =>
      refine ⟨h.1, h.2.mono (fun e w' q => ?_)⟩
      cases e with
      | returned v => exact hK _ _ q
      | panicked c => exact hQ _ _ _ (by simp) q
      | outgrown => exact hL q
    | _ => exact h.elim
theorem wpListIn_app {P : Program} {F : Fence} {n : Nat} {ops : Array Oper} {Q Q1 : Exit → Act → World → Prop} {l2 : List Oper} (hQ : ∀ e a w, Q1 e a w → e = .normal ∧ wpListIn F n P ops Q l2 a w) : ∀ (l1 : List Oper) (a : Act) (w : World), wpListIn F n P ops Q1 l1 a w → wpListIn F n P ops Q (l1 ++ l2) a w
  | [], a, w, h => (hQ _ _ _ h).2
  | o :: l, a, w, h => by
    have ih := wpListIn_app hQ l
    show wpListIn F n P ops Q (o :: (l ++ l2)) a w
    unfold wpListIn at h ⊢
    by_cases hw : Region.wanted o (yielded ops a.tmps) = true
    · rw [if_pos hw] at h ⊢
      exact ⟨h.1, uponIn_mono ih (fun e a w he q => absurd (hQ _ _ _ q).1 he) _ h.2⟩
    · rw [if_neg hw] at h ⊢
      exact ⟨h.1, ih _ _ h.2⟩

/-- Code in a round of loop l, over abstract states. -/
def SRound (C : Ctx) (l : Nat) (c : Code) (st : St) (Q : Exit → St → Prop) : Prop :=
  ∀ base, C.ok base → ∀ a w, Sim C.E base st a w → c.wpIn (FW (some l)) 0 C.P (fun e a' w' => ∃ st', Q e st' ∧ Sim C.E base st' a' w') a w
def thenR (C : Ctx) (l : Nat) (y : Code) (Q : Exit → St → Prop) : Exit → St → Prop
  | .normal, st => SRound C l y st Q
  | e, st => Q e st
section
variable {C : Ctx} {l : Nat} {st : St} {Q : Exit → St → Prop}
theorem SRound.mono {c : Code} {Q' : Exit → St → Prop} (h : SRound C l c st Q) (hq : ∀ e st, Q e st → Q' e st) : SRound C l c st Q' :=
  fun base ok a w hs => wpIn_mono (h base ok a w hs) (fun _ _ _ ⟨st', q, s⟩ => ⟨st', hq _ _ q, s⟩)
theorem SRound.weaken {c : Code} {st' : St} (hl : st'.Le st) (h : SRound C l c st' Q) : SRound C l c st Q :=
  fun base ok a w ⟨F, hs⟩ => h base ok a w ⟨F, hs.weaken hl⟩
theorem SRound.skip (h : Q .normal st) : SRound C l .skip st Q := fun _ _ _ _ hs => wpIn_skip ⟨st, h, hs⟩
theorem SRound.exit {id : Nat} (h : Q (.exit id) st) : SRound C l (.exit id) st Q := fun _ _ _ _ hs => wpIn_exit ⟨st, h, hs⟩
theorem SRound.seq {x y : Code} (h : SRound C l x st (thenR C l y Q)) : SRound C l (.seq x y) st Q := fun base ok a w hs =>
  wpIn_seq (wpIn_mono (h base ok a w hs) (fun e a' w' ⟨st', q, s⟩ => by
    cases e <;> first | exact q base ok a' w' s | exact ⟨st', q, s⟩))
theorem SRound.block {id : Nat} {c : Code} (h : SRound C l c st (blockQ id Q)) : SRound C l (.block id c) st Q := fun base ok a w hs =>
  wpIn_block (wpIn_mono (h base ok a w hs) (fun e a' w' ⟨st', q, s⟩ => by
    cases e with
    | exit id' =>
      simp only [blockQ, Exit.inBlock] at *
      split
      · rename_i e; rw [if_pos e] at q; exact ⟨st', q, s⟩
      · rename_i e; rw [if_neg e] at q; exact ⟨st', q, s⟩
    | _ => exact ⟨st', q, s⟩))
theorem SRound.cond {c : Operand} {x y : Code} {b : Bool} (hc : st.val c = some (.v (.bool b))) (hT : b = true → SRound C l x st Q) (hF : b = false → SRound C l y st Q) : SRound C l (.cond c x y) st Q := by
  intro base ok a w ⟨F, hs⟩
  exact wpIn_cond_split (hs.val hc).inv_v.1 (fun e => hT e base ok a w ⟨F, hs⟩) (fun e => hF e base ok a w ⟨F, hs⟩)
theorem SRound.region {id : Nat} {ls : List Oper} (h : SOps C ls.toArray ls st (fun st' => Q .normal st')) (hd : noDef ls = true := by rfl) : SRound C l (.region id ls.toArray false) st Q :=
  fun base ok a w hs => wpIn_mono (Q := fun e a' w' => e = .normal ∧ ∃ st', Q .normal st' ∧ Sim C.E base st' a' w')
    (wpIn_region_lit (wpListIn_of (some l) 0 (fun _ _ h => by cases h.1) ls hd a w (h base ok a w hs _ (fun st' a' w' r s => ⟨rfl, st', r, s⟩))))
    (fun e a' w' ⟨h1, st', h2, h3⟩ => by subst h1; exact ⟨st', h2, h3⟩)
theorem SRound.seqR {id : Nat} {ls : List Oper} {y : Code} (h : SOps C ls.toArray ls st (fun st' => SRound C l y st' Q)) (hd : noDef ls = true := by rfl) : SRound C l (.seq (.region id ls.toArray false) y) st Q :=
  SRound.seq (SRound.region h hd)
end

/-! ### iterators -/
/-- What a caller keeps between two rounds: so many have come; the world; what never turns; what rounds may write. -/
abbrev JT := Nat → World → (Nat → Prop) → (Nat → Prop) → Prop
def YKeeps (J : JT) : Prop := ∀ i w F T w' F', J i w F T → Step (fun _ => False) w w' → (∀ b, F b → F' b) → (∀ b, F' b → b < w'.heap.size ∧ (F b ∨ w.heap.size ≤ b)) → J i w' F' T
def YNext (J : JT) (i : Nat) (w : World) (F T : Nat → Prop) (w' : World) : Prop :=
  ∃ F' T', (∀ b, F b → F' b) ∧ (∀ b, F' b → b < w'.heap.size ∧ (F b ∨ w.heap.size ≤ b)) ∧ (∀ b, T' b → b < w'.heap.size ∧ ¬ F' b ∧ (T b ∨ w.heap.size ≤ b)) ∧ Step T w w' ∧ J i w' F' T'
def YRounds (P : Program) (E : Env) (l : Nat) (xs : List DV) (J : JT) : Prop :=
  ∀ i x, xs[i]? = some x → ∀ w F T v, E.holds w F → (∀ b, F b → b < w.heap.size) → (∀ b, T b → b < w.heap.size ∧ ¬ F b) → J i w F T → Rep w F v x →
    YieldAt Fence.wide 0 P l #[v] w (fun e w' => e = .returned (.bool true) ∧ YNext J (i + 1) w F T w')
/-- The contract of an iterator: with what it has captured it hands over xs, and no more. -/
def GIter (P : Program) (E : Env) (f : FuncId) (ds : List DV) (xs : List DV) : Prop :=
  hasBody P f = true ∧ ∀ (l : Nat) (J : JT) w F T (vs : Array Value), YKeeps J → YRounds P E l xs J → E.holds w F → (∀ b, F b → b < w.heap.size) → (∀ b, T b → b < w.heap.size ∧ ¬ F b) → J 0 w F T → vs.size = ds.length →
    (∀ (j : Nat) (x : Value) (d : DV), vs[j]? = some x → ds[j]? = some d → Rep w F x d) →
    Calls P f (#[.func (.yield l) #[] #[]] ++ vs) w (fun e w' => (∃ v, e = .returned v) ∧ ∃ F' T', J xs.length w' F' T')

def SimY (C : Ctx) (J : JT) (base : Base) (i : Nat) (st : St) (a : Act) (w : World) : Prop :=
  ∃ F T, SimF C.E base F st a w ∧ (∀ b, T b → b < w.heap.size ∧ ¬ F b ∧ (base.own b ∨ base.w.heap.size ≤ b)) ∧ J i w F T
def SYCode (C : Ctx) (J : JT) (c : Code) (i : Nat) (st : St) (Q : Exit → Nat → St → Prop) : Prop :=
  ∀ base a w, SimY C J base i st a w → c.wpIn Fence.wide 0 C.P (fun e a' w' => ∃ i' st', Q e i' st' ∧ SimY C J base i' st' a' w') a w
def SYOps (C : Ctx) (J : JT) (ops : Array Oper) (l : List Oper) (i : Nat) (st : St) (R : Nat → St → Prop) : Prop :=
  ∀ base a w, SimY C J base i st a w → ∀ Q : Exit → Act → World → Prop, (∀ i' st' a' w', R i' st' → SimY C J base i' st' a' w' → Q .normal a' w') → wpListIn Fence.wide 0 C.P ops Q l a w
def thenY (C : Ctx) (J : JT) (y : Code) (Q : Exit → Nat → St → Prop) : Exit → Nat → St → Prop
  | .normal, i, st => SYCode C J y i st Q
  | e, i, st => Q e i st
def blockY (id : Nat) (Q : Exit → Nat → St → Prop) : Exit → Nat → St → Prop
  | .exit id', i, st => if id' = id then Q .normal i st else Q (.exit id') i st
  | e, i, st => Q e i st
section
variable {C : Ctx} {J : JT} {i : Nat} {st : St} {Q : Exit → Nat → St → Prop}
/-- What a piece that calls no yield leaves. -/
theorem SimY.on (hJ : YKeeps J) {base : Base} {F T F' : Nat → Prop} {a a' : Act} {w w' : World} {st' : St} (hs : SimF C.E base F st a w) (hT : ∀ b, T b → b < w.heap.size ∧ ¬ F b ∧ (base.own b ∨ base.w.heap.size ≤ b)) (hj : J i w F T)
    (s : SimF C.E ⟨w, F, fun b => b ∈ ([] : List Nat)⟩ F' st' a' w') : SimY C J base i st' a' w' := by
  have keep : Step (fun _ => False) w w' := s.keep.mono (fun i _ h => by cases h)
  refine ⟨F', T, hs.back s (fun b h => by cases h), fun b hb => ⟨Nat.lt_of_lt_of_le (hT b hb).1 keep.size, fun hF' => ?_, (hT b hb).2.2⟩, hJ i w F T w' F' hj keep s.sub s.lt⟩
  rcases (s.lt b hF').2 with x | x
  · exact (hT b hb).2.1 x
  · exact absurd (hT b hb).1 (Nat.not_lt.2 x)
theorem SYCode.of (hJ : YKeeps J) (hh : st.heap = []) {c : Code} (h : SCode C c st (fun e st' => Q e i st')) : SYCode C J c i st Q := by
  intro base a w ⟨F, T, hs, hT, hj⟩
  have hs' := hs.rebase
  rw [hh] at hs'
  refine wpIn_wide.2 (wp_mono (h ⟨w, F, _⟩ (fun _ b hb => by cases hb) a w ⟨F, hs'⟩) ?_)
  rintro e a' w' ⟨st', q, F', s⟩
  exact ⟨i, st', q, SimY.on hJ hs hT hj s⟩
theorem SYCode.mono {c : Code} {Q' : Exit → Nat → St → Prop} (h : SYCode C J c i st Q) (hq : ∀ e i st, Q e i st → Q' e i st) : SYCode C J c i st Q' :=
  fun base a w hs => wpIn_mono (h base a w hs) (fun _ _ _ ⟨i', st', q, s⟩ => ⟨i', st', hq _ _ _ q, s⟩)
theorem SYCode.weaken {c : Code} {st' : St} (hl : st'.Le st) (h : SYCode C J c i st' Q) : SYCode C J c i st Q :=
  fun base a w ⟨F, T, hs, r⟩ => h base a w ⟨F, T, hs.weaken hl, r⟩
theorem SYCode.skip (h : Q .normal i st) : SYCode C J .skip i st Q := fun _ _ _ hs => wpIn_skip ⟨i, st, h, hs⟩
theorem SYCode.ret (h : Q .ret i st) : SYCode C J .ret i st Q := fun _ _ _ hs => wpIn_ret ⟨i, st, h, hs⟩
theorem SYCode.exit {id : Nat} (h : Q (.exit id) i st) : SYCode C J (.exit id) i st Q := fun _ _ _ hs => wpIn_exit ⟨i, st, h, hs⟩
theorem SYCode.seq {x y : Code} (h : SYCode C J x i st (thenY C J y Q)) : SYCode C J (.seq x y) i st Q := fun base a w hs =>
  wpIn_seq (wpIn_mono (h base a w hs) (fun e a' w' ⟨i', st', q, s⟩ => by
    cases e <;> first | exact q base a' w' s | exact ⟨i', st', q, s⟩))
theorem SYCode.block {id : Nat} {c : Code} (h : SYCode C J c i st (blockY id Q)) : SYCode C J (.block id c) i st Q := fun base a w hs =>
  wpIn_block (wpIn_mono (h base a w hs) (fun e a' w' ⟨i', st', q, s⟩ => by
    cases e with
    | exit id' =>
      simp only [blockY, Exit.inBlock] at *
      split
      · rename_i e; rw [if_pos e] at q; exact ⟨i', st', q, s⟩
      · rename_i e; rw [if_neg e] at q; exact ⟨i', st', q, s⟩
    | _ => exact ⟨i', st', q, s⟩))
theorem SYCode.cond {c : Operand} {x y : Code} {b : Bool} (hc : st.val c = some (.v (.bool b))) (hT : b = true → SYCode C J x i st Q) (hF : b = false → SYCode C J y i st Q) : SYCode C J (.cond c x y) i st Q := by
  intro base a w ⟨F, T, hs, r⟩
  exact wpIn_cond_split (hs.val hc).inv_v.1 (fun e => hT e base a w ⟨F, T, hs, r⟩) (fun e => hF e base a w ⟨F, T, hs, r⟩)
theorem SYCode.loop {α : Type} {c : Code} (I : α → St) (ι : α → Nat) (μ : α → Nat) (x₀ : α) (h₀ : (I x₀).Le st) (hi : ι x₀ = i)
    (round : ∀ x, SYCode C J c (ι x) (I x) (fun e i' st' => match e with
      | .normal => ∃ y, μ y < μ x ∧ (I y).Le st' ∧ ι y = i'
      | e => Q e i' st')) : SYCode C J (.loop c) i st Q := by
  intro base a w ⟨F, T, hs, r⟩
  have key : ∀ n x, μ x < n → ∀ a w, SimY C J base (ι x) (I x) a w → Code.roundsIn Fence.wide 0 C.P c (fun e a' w' => ∃ i' st', Q e i' st' ∧ SimY C J base i' st' a' w') n a w := by
    intro n
    induction n with
    | zero => intro x hx; omega
    | succ n ih =>
      intro x hx a w hs
      refine wpIn_mono (round x base a w hs) (fun e a' w' ⟨i', st', q, s⟩ => ?_)
      cases e with
      | normal =>
        obtain ⟨y, hy, hl, hiy⟩ := q
        obtain ⟨F', T', s', r'⟩ := s
        subst hiy
        exact ih y (by omega) a' w' ⟨F', T', s'.weaken hl, r'⟩
      | _ => exact ⟨i', st', q, s⟩
  subst hi
  exact wpIn_loop_rounds _ (key (μ x₀ + 1) x₀ (Nat.lt_succ_self _) a w ⟨F, T, hs.weaken h₀, r⟩)
theorem SYCode.loop1 {α : Type} {c : Code} (ι : α → Nat) (I : α → St) (Inv : α → Prop) (μ : α → Nat) (x₀ : α) (hi : Inv x₀) (h₀ : (I x₀).Le st) (hx : ι x₀ = i)
    (round : ∀ x, Inv x → SYCode C J c (ι x) (I x) (fun e i' st' => match e with
      | .normal => ∃ y, Inv y ∧ μ y < μ x ∧ (I y).Le st' ∧ ι y = i'
      | e => Q e i' st')) : SYCode C J (.loop c) i st Q :=
  SYCode.loop (fun p : {x : α // Inv x} => I p.1) (fun p => ι p.1) (fun p => μ p.1) ⟨x₀, hi⟩ h₀ hx (fun p => (round p.1 p.2).mono (fun e i st' q => by
    cases e <;> first | (obtain ⟨y, h1, h2⟩ := q; exact ⟨⟨y, h1⟩, h2⟩) | exact q))
theorem SYCode.fact {c : Code} {p : Prop} (hp : ∀ base a w F, SimF C.E base F st a w → p) (h : p → SYCode C J c i st Q) : SYCode C J c i st Q :=
  fun base a w ⟨F, T, hs, r⟩ => h (hp base a w F hs) base a w ⟨F, T, hs, r⟩
theorem SYCode.region {id : Nat} {ls : List Oper} (h : SYOps C J ls.toArray ls i st (fun i' st' => Q .normal i' st')) : SYCode C J (.region id ls.toArray false) i st Q :=
  fun base a w hs => wpIn_region_lit (h base a w hs _ (fun i' st' a' w' r s => ⟨i', st', r, s⟩))
theorem SYCode.seqR {id : Nat} {ls : List Oper} {y : Code} (h : SYOps C J ls.toArray ls i st (fun i' st' => SYCode C J y i' st' Q)) : SYCode C J (.seq (.region id ls.toArray false) y) i st Q :=
  SYCode.seq (SYCode.region h)
variable {ops : Array Oper} {rest : List Oper} {R : Nat → St → Prop}
theorem SYOps.nil (h : R i st) : SYOps C J ops [] i st R := fun _ a w hs Q hQ => wpListIn_nil (hQ i st a w h hs)
theorem SYOps.app (hJ : YKeeps J) (l1 : List Oper) {l2 : List Oper} {R1 : St → Prop} (h : SOps C ops l1 st R1) (hh : st.heap = []) (hd : noDef l1 = true) (k : ∀ st', R1 st' → SYOps C J ops l2 i st' R) : SYOps C J ops (l1 ++ l2) i st R := by
  intro base a w ⟨F, T, hs, hT, hj⟩ Q hQ
  have hs' := hs.rebase
  rw [hh] at hs'
  have h1 := h ⟨w, F, _⟩ (fun _ b hb => by cases hb) a w ⟨F, hs'⟩ (fun e a' w' => e = .normal ∧ wpListIn Fence.wide 0 C.P ops Q l2 a' w') (fun st' a' w' r ⟨F', s⟩ => ⟨rfl, k st' r base a' w' (SimY.on hJ hs hT hj s) Q hQ⟩)
  exact wpListIn_app (fun e a w h => h) l1 a w (wpListIn_of none 0 (fun _ _ h => by cases h.1) l1 hd a w h1)
theorem SYOps.one (hJ : YKeeps J) {o : Oper} {l2 : List Oper} {st1 : St} (h : SOps C ops [o] st (fun st' => st' = st1)) (hh : st.heap = []) (hd : noDef [o] = true) (k : SYOps C J ops l2 i st1 R) : SYOps C J ops (o :: l2) i st R :=
  SYOps.app (l2 := l2) hJ [o] h hh hd (fun st' e => e ▸ k)
theorem SYOps.relab {l : List Oper} {t : Nat} {d d' : DV} (hd : st.get t = some d) (hr : ∀ (w : World) (F : Nat → Prop) (v : Value), Rep w F v d → Rep w F v d') (h : SYOps C J ops l i (st.put t d') R) : SYOps C J ops l i st R :=
  fun base a w ⟨F, T, hs, r⟩ => h base a w ⟨F, T, hs.relabel hd (hr w F _), r⟩
/-- One call of yield. -/
theorem SYOps.yield {xs : List DV} {l : Nat} {t : Tmp} {ty : TypeId} {pos : String} {aft : Array Edge} {xo xa : Operand} {ats : Array TypeId} {x : DV} (hY : YRounds C.P C.E l xs J) (hx : st.val xo = some (.v (.func (.yield l) #[] #[]))) (ha : st.val xa = some x) (hi : xs[i]? = some x) (hh : st.heap = [])
    (hrest : SYOps C J ops rest (i + 1) (st.put t (.v (.bool true))) R) (ht : Nat.blt t st.n = true := by rfl) :
    SYOps C J ops (⟨some t, .call { callee := .value xo, args := #[xa], argTypes := ats }, ty, pos, aft, none⟩ :: rest) i st R := by
  intro base a w ⟨F, T, hs, hT, hj⟩ Q hQ
  obtain ⟨fn, tmps, asg, bd, hy, hR⟩ := hY i x hi w F T (a.eval xa) hs.env (fun b hb => (hs.lt b hb).1) (fun b hb => ⟨(hT b hb).1, (hT b hb).2.1⟩) hj (hs.val ha)
  refine wpListIn_plain rfl (fun K hK => ⟨fun _ _ => trivial, ?_⟩)
  have hsem : ((⟨some t, .call { callee := .value xo, args := #[xa], argTypes := ats }, ty, pos, aft, none⟩ : Oper).semAt Fence.wide.round a.eval).run C.P w = .ok (.round l fn tmps asg bd) w := by
    rw [show (⟨some t, .call { callee := .value xo, args := #[xa], argTypes := ats }, ty, pos, aft, none⟩ : Oper).semAt Fence.wide.round a.eval = (do let d ← Deferred.ofValue (a.eval xo) (#[xa].map a.eval); invoke d.target d.args) from rfl, (hs.val hx).inv_v.1]
    simp only [Deferred.ofValue, invoke, pure_bind]
    simpa using hy
  rw [hsem, Oper.uponIn_round]
  refine ⟨fun e => by simp [Fence.wide] at e, hR.mono ?_⟩
  rintro e w' ⟨rfl, F', T', h1, h2, h3, h4, h5⟩
  refine hK _ _ (hrest base _ w' ⟨F', T', ?_, fun b hb => ⟨(h3 b hb).1, (h3 b hb).2.1, ?_⟩, h5⟩ Q hQ)
  · have s1 := hs.stepT h4 (fun b hb ht => (hT b ht).2.1 hb) (fun p hp => by rw [hh] at hp; cases hp) (fun b hb => (hT b hb).2.2)
    have s2 := s1.wider h1 (fun b hb => ⟨(h2 b hb).1, (h2 b hb).2.imp id (fun x => Nat.le_trans hs.keep.size x)⟩) (fun p hp => by rw [hh] at hp; cases hp)
    exact s2.put (by simpa using ht) (.v trivial)
  · rcases (h3 b hb).2.2 with x | x
    · exact (hT b x).2.2
    · exact .inr (Nat.le_trans hs.keep.size x)
/-- An iterator's contract from its body. -/
theorem GIter.body {f : FuncId} {fn : Func} {c : Code} {ds xs : List DV} (hf : C.P.funcs[f]? = some fn) (hb : fn.body = some c) (hname : (fn.name == "runtime.NumGoroutine") = false) (hn : Nat.ble (ds.length + 1) fn.ntmps = true) (hres : fn.results = #[])
    (h : ∀ (l : Nat) (J : JT), YKeeps J → YRounds C.P C.E l xs J → SYCode C J c 0 (St.init fn.ntmps (.v (.func (.yield l) #[] #[]) :: ds) []) (fun e i st => (e = .normal ∨ e = .ret) ∧ i = xs.length)) : GIter C.P C.E f ds xs := by
  refine ⟨by simp [hasBody, hf, hb, hname], ?_⟩
  intro l J w F T vs hK hY hE hF hT h0 hvs hr
  have hn' := Nat.le_of_ble_eq_true hn
  refine calls_of_wp hf hb ?_
  have hr' : ∀ (j : Nat) (x : Value) (d : DV), (#[Value.func (.yield l) #[] #[]] ++ vs)[j]? = some x → ((DV.v (.func (.yield l) #[] #[])) :: ds)[j]? = some d → Rep w F x d := by
    intro j x d hx hd
    cases j with
    | zero =>
      rw [Array.getElem?_append_left (by simp)] at hx
      simp only [List.getElem?_cons_zero, Option.some.injEq] at hd
      obtain rfl : Value.func (.yield l) #[] #[] = x := by simpa using hx
      subst hd
      exact .v trivial
    | succ j =>
      rw [Array.getElem?_append_right (by simp)] at hx
      simp at hx hd
      exact hr j x d hx hd
  have hsim : SimF C.E ⟨w, F, T⟩ F (St.init fn.ntmps (.v (.func (.yield l) #[] #[]) :: ds) []) { tmps := (#[.func (.yield l) #[] #[]] ++ vs) ++ Array.replicate (fn.ntmps - (#[Value.func (.yield l) #[] #[]] ++ vs).size) undef, defers := [] } w := {
    keep := Step.refl _ _
    base_lt := fun b hb => (hT b hb).1
    sub := fun _ h => h
    lt := fun b hb => ⟨hF b hb, .inl hb⟩
    env := hE
    size := by simp [hvs, St.init]; omega
    slots := fun t d ht => by
      obtain ⟨_, h2⟩ := enum_get _ 0 t d ht
      simp only [Nat.sub_zero] at h2
      have hlt := (List.getElem?_eq_some_iff.1 h2).1
      simp only [List.length_cons] at hlt
      refine ⟨Nat.lt_of_lt_of_le hlt hn', ?_⟩
      have hlt' : t < (#[Value.func (.yield l) #[] #[]] ++ vs).size := by simp; omega
      have e : ((#[Value.func (.yield l) #[] #[]] ++ vs) ++ Array.replicate (fn.ntmps - (#[Value.func (.yield l) #[] #[]] ++ vs).size) undef).getD t undef = (#[Value.func (.yield l) #[] #[]] ++ vs)[t] := by
        rw [Array.getD_eq_getD_getElem?, Array.getElem?_append, if_pos hlt', Array.getElem?_eq_getElem hlt']; rfl
      rw [e]
      exact hr' t _ d (Array.getElem?_eq_getElem hlt') h2
    heap := fun p hp => by cases hp
    keys := List.nodup_nil
    defers := rfl }
  refine wp_mono (wpIn_wide.1 (h l J hK hY ⟨w, F, T⟩ _ w ⟨F, T, hsim, fun b hb => ⟨(hT b hb).1, (hT b hb).2, .inl hb⟩, h0⟩)) ?_
  rintro e a' w' ⟨i', st', ⟨he, hi⟩, F', T', s, _, hj⟩
  subst hi
  have fin : a'.defers = [] ∧ ∃ v, (results fn a'.tmps).run C.P w' = .ok v w' ∧ ((∃ v', Ending.returned v = .returned v') ∧ ∃ F' T', J xs.length w' F' T') :=
    let ⟨x, hx, _⟩ := run_results s (fn := fn) (d := .v (.tuple #[])) (by rw [hres]; exact .none)
    ⟨s.defers, x, hx, ⟨_, rfl⟩, F', T', hj⟩
  rcases he with rfl | rfl
  · exact fin
  · exact fin
end
end Go.GH
namespace Go.GH
open Go Go.RowKit
section
variable {C : Ctx} {E : Env} {base : Base} {F : Nat → Prop} {st : St} {a : Act} {w : World} {ops : Array Oper} {rest : List Oper} {R : St → Prop}
  {t : Tmp} {ty : TypeId} {pos : String} {aft : Array Edge} {g : Option (Nat × Bool)}
end
end Go.GH
namespace Go.GH
open Go
variable {C : Ctx} {ops : Array Oper} {st : St} {rest : List Oper} {R : St → Prop} {t : Tmp} {ty : TypeId} {pos : String} {aft : Array Edge} {g : Option (Nat × Bool)}

end Go.GH
namespace Go.GH
open Go

def pairV (p : Nat × Nat) : Value := .agg #[.int .u8 (p.1 : Int), .int .u8 (p.2 : Int)]
def SmP (p : Nat × Nat) : Prop := p.1 < 256 ∧ p.2 < 256
structure pairB (P : Program) (T K V : Nat) : Prop where
  map : P.underlying T = some (.map K V)
  law : WideMaps.KeyLaw P K
  key : ∀ p, SmP p → ∃ l, keyOf P K (pairV p) = some l
theorem u8_wf {n : Nat} (h : n < 256) : (Lit.int .u8 (n : Int)).wf = true := by
  simp [Lit.wf, IntKind.min, IntKind.max, IntKind.signed, IntKind.bits]
  omega
theorem pairB.of {P : Program} {T K V e k : Nat} (hm : P.underlying T = some (.map K V)) (hK : P.underlying K = some (.array 2 e)) (he : P.underlying e = some (.int .u8)) (hcK : P.cellsOf K = 2) (hce : P.cellsOf e = 1) (hk : P.keyType K = true)
    (h2 : P.keyTypeAt 2 K = true) (ht : P.tiled 2 K = true) (hs : P.types.size = k + 1) : pairB P T K V where
  map := hm
  law := deep_law (m := 2) (by decide) h2 ht (by rw [hK])
  key := fun p hp => by
    have h1 : P.keyLits (k + 1) e [.int .u8 (p.1 : Int)] = some [.int .u8 (p.1 : Int)] := by
      unfold Program.keyLits; simp only [he]; rw [if_pos ⟨trivial, u8_wf hp.1⟩]
    have h2 : P.keyLits (k + 1) e [.int .u8 (p.2 : Int)] = some [.int .u8 (p.2 : Int)] := by
      unfold Program.keyLits; simp only [he]; rw [if_pos ⟨trivial, u8_wf hp.2⟩]
    have h3 : P.keyLits (P.types.size + 1) K (pairV p).cells.toList = some [.int .u8 (p.1 : Int), .int .u8 (p.2 : Int)] := by
      rw [hs]
      unfold Program.keyLits
      simp only [hK, pairV, Value.cells, hcK, hce]
      rw [if_pos (by simp)]
      simp [List.range_succ, h1, h2]
    refine ⟨.string (keyBytes [.int .u8 (p.1 : Int), .int .u8 (p.2 : Int)]), ?_⟩
    unfold keyOf
    simp only [hK]
    rw [if_pos (by simp [hk, Value.formed, pairV, hK, hcK]), h3]
    rfl
variable {C : Ctx} {ops : Array Oper} {st : St} {rest : List Oper} {R : St → Prop} {t : Tmp} {ty : TypeId} {pos : String} {aft : Array Edge} {g : Option (Nat × Bool)}

end Go.GH
namespace Go.GH
open Go
variable {α : Type} {C : Ctx} {ops : Array Oper} {st : St} {rest : List Oper} {R : St → Prop} {t : Tmp} {ty : TypeId} {pos : String} {aft : Array Edge} {g : Option (Nat × Bool)}

end Go.GH
namespace Go.GH
open Go

def inlB (n : Nat) (ss : List (Nat ⊕ Nat)) : Bool := ss.all (fun x => match x with | .inl j => Nat.blt j n | .inr _ => true)
inductive NeedIs (D s : List (Nat × DV)) : List (Nat ⊕ Nat) → List (Nat × DV) → Prop
  | nil : NeedIs D s [] []
  | inl {j : Nat} {ss : List (Nat ⊕ Nat)} {nd : List (Nat × DV)} (k t : Nat) (d : DV) (hk : k + j + 1 = D.length) (h : D[k]? = some (t, d)) (r : NeedIs D s ss nd) : NeedIs D s (.inl j :: ss) ((t, d) :: nd)
  | inr {t : Nat} {ss : List (Nat ⊕ Nat)} {nd : List (Nat × DV)} (d : DV) (h : getL s t = some d) (k : NeedIs D s ss nd) : NeedIs D s (.inr t :: ss) ((t, d) :: nd)
theorem NeedIs.eq {D s : List (Nat × DV)} : ∀ {ss : List (Nat ⊕ Nat)} {nd : List (Nat × DV)}, NeedIs D s ss nd → needOf D.reverse s ss = nd
  | _, _, .nil => rfl
  | _, _, .inl (j := j) k t d hk h r => by
    have e : D.reverse[j]? = some (t, d) := by rw [List.getElem?_reverse (by omega), show D.length - 1 - j = k by omega, h]
    simp only [needOf, e, r.eq]
  | _, _, .inr d h k => by simp only [needOf, h, k.eq]
inductive DOk (C : Ctx) (ops : Array Oper) (n : Nat) (H : DHeap) (s : List (Nat × DV)) : List (Nat × DV) → List Oper → List (List (Nat ⊕ Nat)) → List (Nat × DV) → Prop
  | nil {D : List (Nat × DV)} : DOk C ops n H s D [] [] []
  | cons {D E nd : List (Nat × DV)} {o : Oper} {os : List Oper} {ss : List (Nat ⊕ Nat)} {sss : List (List (Nat ⊕ Nat))} (t : Nat) (d : DV) (hj : inlB D.length ss = true) (hn : NeedIs D s ss nd)
      (h : ∀ rest, SOps C ops [o] ⟨n, nd ++ rest, H⟩ (fun st' => st' = ⟨n, (t, d) :: (nd ++ rest), H⟩)) (k : DOk C ops n H s ((t, d) :: D) os sss E) :
      DOk C ops n H s D (o :: os) (ss :: sss) ((t, d) :: E)
theorem needOf_more {D E s : List (Nat × DV)} : ∀ {ss : List (Nat ⊕ Nat)}, inlB D.length ss = true → needOf (D ++ E) s ss = needOf D s ss
  | [], _ => rfl
  | .inl j :: r, h => by
    simp only [inlB, List.all_cons, Bool.and_eq_true] at h
    have hj := Nat.le_of_ble_eq_true h.1
    simp only [needOf, List.getElem?_append_left (show j < D.length from hj), needOf_more (E := E) (s := s) (ss := r) h.2]
  | .inr t :: r, h => by
    simp only [inlB, List.all_cons, Bool.and_eq_true] at h
    simp only [needOf, needOf_more (E := E) (s := s) (ss := r) h.2]
theorem DOk.ops {C : Ctx} {ops : Array Oper} {n : Nat} {H : DHeap} {s : List (Nat × DV)} : ∀ {D E : List (Nat × DV)} {os : List Oper} {sss : List (List (Nat ⊕ Nat))}, DOk C ops n H s D os sss E → OpsOk C ops n H os (sss.map (needOf (D.reverse ++ E) s)) E
  | _, _, _, _, .nil => OpsOk.nil
  | D, _, _, _, .cons (E := E) t d hj hn h k => by
    rw [List.map_cons, needOf_more (by rw [List.length_reverse]; exact hj), hn.eq]
    have e : D.reverse ++ (t, d) :: E = ((t, d) :: D).reverse ++ E := by simp
    rw [e]
    exact OpsOk.cons h k.ops
theorem SCode.drawAuto {C : Ctx} {id : Nat} {l : List Oper} {n : Nat} {s : List (Nat × DV)} {H : DHeap} {Q : Exit → St → Prop} {E : List (Nat × DV)} (hm : C.P.follows .mixedOrders = true) (ts : List Nat) (srcs : List (List (Nat ⊕ Nat)))
    (hB : drawB l ts srcs = true) (hd : distB ts = true) (hops : DOk C l.toArray n H s [] l srcs E) (hts : E.map (·.1) = ts) (hQ : Q .normal ⟨n, E ++ s, H⟩) : SCode C (.region id l.toArray true) ⟨n, s, H⟩ Q :=
  SCode.drawPure hm E ts srcs _ hts hB hd rfl hops.ops hQ
end Go.GH
namespace Go.GH
open Go

theorem rep_tup0 {w : World} {F : Nat → Prop} {v : Value} {d d' : DV} {ds : List DV} (hd : ∀ (w : World) (F : Nat → Prop) (v : Value), Rep w F v d → Rep w F v d') (h : Rep w F v (.tup (d :: ds))) : Rep w F v (.tup (d' :: ds)) := by
  cases h with
  | tup hl hr =>
    refine .tup (by simpa using hl) (fun j x e hj he => ?_)
    cases j with
    | zero => simp only [List.getElem?_cons_zero, Option.some.injEq] at he; subst he; exact hd _ _ _ (hr 0 x d hj rfl)
    | succ j => exact hr (j + 1) x e hj (by simpa using he)
end Go.GH
namespace Go.GH
open Go Go.RowKit

/-- The same rules with, or without, own blocks from before. -/
abbrev Ctx.imp (C : Ctx) : Ctx := ⟨C.P, C.E, false⟩
abbrev Ctx.pur (C : Ctx) : Ctx := ⟨C.P, C.E, true⟩
theorem Act.eval_with (a : Act) (ds : List Deferred) : ({ a with defers := ds } : Act).eval = a.eval := by funext x; cases x <;> rfl
theorem upon_marks {P : Program} {o : Oper} {a : Act} {K K' : Act → World → Prop} {Q : Exit → Act → World → Prop} (ds : List Deferred) (hK : ∀ a w, K a w → K' { a with defers := a.defers ++ ds } w) :
    ∀ r : Result Next, o.upon P a K Q r → o.upon P { a with defers := a.defers ++ ds } K' (fun e a' w' => ∃ a0 : Act, a' = { a0 with defers := a0.defers ++ ds } ∧ Q e a0 w') r := by
  have hput : ∀ (b : Act) (v : Value), ({ b with defers := b.defers ++ ds } : Act).put o.dst v = { (b.put o.dst v) with defers := (b.put o.dst v).defers ++ ds } := fun b v => by cases o.dst <;> rfl
  have hL : LetsOut Q → LetsOut (fun e a' w' => ∃ a0 : Act, a' = { a0 with defers := a0.defers ++ ds } ∧ Q e a0 w') := fun ⟨a, w, h⟩ => ⟨_, w, a, rfl, h⟩
  intro r h
  cases r with
  | halt x w => cases x <;> first | exact ⟨a, rfl, h⟩ | exact h.elim
  | ok x w =>
    cases x with
    | value v => rw [Oper.upon_value, hput]; exact hK _ _ h
    | skip => rw [Oper.upon_skip, hput]; exact hK _ _ h
    | defer d =>
      have h' := hK _ _ h
      rw [Oper.upon_defer]
      have e := hput { a with defers := d :: a.defers } undef
      exact e ▸ h'
    | enter f args =>
      refine Calls.mono h (fun e w' q => ?_)
      cases e with
      | returned v => dsimp only; rw [hput]; exact hK _ _ q
      | panicked c => exact ⟨a, rfl, q⟩
      | outgrown => exact hL q
    | row row args => exact Rows.mono h (fun v w' r => by rw [hput]; exact hK _ _ r)
    | _ => exact h.elim
theorem wpList_marks {P : Program} {ops : Array Oper} {Q : Exit → Act → World → Prop} (ds : List Deferred) : ∀ (l : List Oper) (a : Act) (w : World), wpList P ops Q l a w →
    wpList P ops (fun e a' w' => ∃ a0 : Act, a' = { a0 with defers := a0.defers ++ ds } ∧ Q e a0 w') l { a with defers := a.defers ++ ds } w
  | [], a, w, h => ⟨a, rfl, h⟩
  | o :: l, a, w, h => by
    have ih := wpList_marks (P := P) (ops := ops) (Q := Q) ds l
    unfold wpList at h ⊢
    by_cases hw : Region.wanted o (yielded ops a.tmps) = true
    · rw [if_pos hw] at h ⊢
      rcases h with h | ⟨h1, a0, w0, h2⟩
      · left
        unfold Oper.wp at h ⊢
        rw [Act.eval_with]
        exact upon_marks ds ih _ h
      · right
        refine ⟨?_, _, w0, a0, rfl, h2⟩
        unfold Oper.asks at h1 ⊢
        rw [Act.eval_with]
        exact h1
    · rw [if_neg hw] at h ⊢
      have := ih _ _ h
      have e : ({ a with defers := a.defers ++ ds } : Act).put o.dst undef = { (a.put o.dst undef) with defers := (a.put o.dst undef).defers ++ ds } := by cases o.dst <;> rfl
      rw [e]
      exact this

/-- A frame that bears the mark of a range over a function. -/
def SimM (C : Ctx) (base : Base) (st : St) (a : Act) (w : World) : Prop :=
  ∃ F D, SimF C.E base F st { a with defers := [] } w ∧ a.defers = [{ target := .collected D, args := #[] }] ∧ w.heap[D]? = some (.deferred (some [])) ∧ ¬ F D ∧ (∀ p ∈ st.heap, p.1 ≠ D) ∧ base.w.heap.size ≤ D
def SimB (C : Ctx) (base : Base) (m : Bool) (st : St) (a : Act) (w : World) : Prop := match m with
  | false => Sim C.E base st a w
  | true => SimM C base st a w
def SMCode (C : Ctx) (c : Code) (m : Bool) (st : St) (Q : Exit → Bool → St → Prop) : Prop :=
  ∀ base, C.ok base → ∀ a w, SimB C base m st a w → c.wp C.P (fun e a' w' => ∃ m' st', Q e m' st' ∧ SimB C base m' st' a' w') a w
def thenM (C : Ctx) (y : Code) (Q : Exit → Bool → St → Prop) : Exit → Bool → St → Prop
  | .normal, m, st => SMCode C y m st Q
  | e, m, st => Q e m st
def blockM (id : Nat) (Q : Exit → Bool → St → Prop) : Exit → Bool → St → Prop
  | .exit id', m, st => if id' = id then Q .normal m st else Q (.exit id') m st
  | e, m, st => Q e m st
section
variable {C : Ctx} {m : Bool} {st : St} {Q : Exit → Bool → St → Prop}
theorem SMCode.of {c : Code} (h : SCode C c st (fun e st' => Q e false st')) : SMCode C c false st Q :=
  fun base ok a w hs => wp_mono (h base ok a w hs) (fun _ _ _ ⟨st', q, s⟩ => ⟨false, st', q, s⟩)
theorem SMCode.ret (h : Q .ret m st) : SMCode C .ret m st Q := fun _ _ _ _ hs => wp_ret ⟨m, st, h, hs⟩
theorem SMCode.seq {x y : Code} (h : SMCode C x m st (thenM C y Q)) : SMCode C (.seq x y) m st Q := fun base ok a w hs =>
  wp_seq (wp_mono (h base ok a w hs) (fun e a' w' ⟨m', st', q, s⟩ => by
    cases e <;> first | exact q base ok a' w' s | exact ⟨m', st', q, s⟩))
/-- Ahead of the statement: code as ever. -/
theorem SMCode.seqS {x y : Code} (h : SCode C x st (fun e st' => thenM C y Q e false st')) : SMCode C (.seq x y) false st Q := SMCode.seq (SMCode.of h)
theorem SMCode.seqRS {id : Nat} {ls : List Oper} {y : Code} (h : SOps C ls.toArray ls st (fun st' => SMCode C y false st' Q)) : SMCode C (.seq (.region id ls.toArray false) y) false st Q := SMCode.seqS (SCode.region h)
theorem SimF.weakM {base : Base} {a : Act} {w : World} {st' : St} (hl : st'.Le st) (h : SimM C base st a w) : SimM C base st' a w := by
  obtain ⟨F, D, h1, h2, h3, h4, h5, h6⟩ := h
  refine ⟨F, D, h1.weaken hl, h2, h3, h4, fun p hp => ?_, h6⟩
  obtain ⟨l, k1, k2⟩ := hl.heap
  exact h5 p (k2.subset (k1.mem_iff.1 hp))
theorem SMCode.weaken {c : Code} {st' : St} (hl : st'.Le st) (h : SMCode C c m st' Q) : SMCode C c m st Q := fun base ok a w hs => by
  cases m with
  | false => obtain ⟨F, hs⟩ := hs; exact h base ok a w ⟨F, hs.weaken hl⟩
  | true => exact h base ok a w (SimF.weakM hl hs)
theorem SMCode.block {id : Nat} {c : Code} (h : SMCode C c m st (blockM id Q)) : SMCode C (.block id c) m st Q := fun base ok a w hs =>
  wp_block (wp_mono (h base ok a w hs) (fun e a' w' ⟨m', st', q, s⟩ => by
    cases e with
    | exit id' =>
      simp only [blockM, Exit.inBlock] at *
      split
      · rename_i e; rw [if_pos e] at q; exact ⟨m', st', q, s⟩
      · rename_i e; rw [if_neg e] at q; exact ⟨m', st', q, s⟩
    | _ => exact ⟨m', st', q, s⟩))
/-- A region behind the statement. -/
theorem SMCode.region {id : Nat} {ls : List Oper} (h : SOps C.imp ls.toArray ls st (fun st' => Q .normal true st')) : SMCode C (.region id ls.toArray false) true st Q := by
  intro base ok a w ⟨F, D, hs, hd, hD, hF, hH, hb⟩
  have h1 := h ⟨w, F, _⟩ (fun hp => by cases hp) _ w ⟨F, hs.rebase⟩ (fun e a' w' => e = .normal ∧ ∃ st', Q .normal true st' ∧ Sim C.E ⟨w, F, fun b => b ∈ st.heap.map (·.1)⟩ st' a' w') (fun st' a' w' r s => ⟨rfl, st', r, s⟩)
  have h2 := wpList_marks [{ target := .collected D, args := #[] }] _ _ _ h1
  have e : ({ ({ a with defers := [] } : Act) with defers := ({ a with defers := [] } : Act).defers ++ [{ target := .collected D, args := #[] }] } : Act) = a := by
    show ({ tmps := a.tmps, defers := [] ++ [_] } : Act) = a
    rw [List.nil_append, ← hd]
  rw [e] at h2
  refine wp_mono (wp_region_lit h2) ?_
  rintro e a' w' ⟨a0, rfl, rfl, st', q, F', s⟩
  have hDl := (Array.getElem?_eq_some_iff.1 hD).1
  have hk : ¬ D ∈ st.heap.map (·.1) := fun hm => by obtain ⟨p, hp, e⟩ := List.mem_map.1 hm; exact hH p hp e
  refine ⟨true, st', q, F', D, ?_, by rw [s.defers]; rfl, (s.keep.block D hDl hk).trans hD, fun hF' => ?_, fun p hp e => ?_, hb⟩
  · have e2 : ({ ({ a0 with defers := a0.defers ++ [{ target := .collected D, args := #[] }] } : Act) with defers := [] } : Act) = a0 := by
      show ({ tmps := a0.tmps, defers := [] } : Act) = a0
      rw [← s.defers]
    rw [e2]
    exact hs.back s (fun b hb => by
      obtain ⟨p, hp, rfl⟩ := List.mem_map.1 hb
      exact (hs.heap p hp).1)
  · rcases (s.lt D hF').2 with x | x
    · exact hF x
    · exact absurd hDl (Nat.not_lt.2 x)
  · rcases (s.heap p hp).1 with x | x
    · exact hk (e ▸ x)
    · rw [e] at x; exact absurd hDl (Nat.not_lt.2 x)
theorem SMCode.seqR {id : Nat} {ls : List Oper} {y : Code} (h : SOps C.imp ls.toArray ls st (fun st' => SMCode C y true st' Q)) : SMCode C (.seq (.region id ls.toArray false) y) true st Q :=
  SMCode.seq (SMCode.region h)
theorem SimF.rebaseT {E : Env} {base : Base} {F : Nat → Prop} {st : St} {a : Act} {w : World} (h : SimF E base F st a w) (T : Nat → Prop) (h1 : ∀ p ∈ st.heap, T p.1) (h2 : ∀ b, T b → b < w.heap.size) : SimF E ⟨w, F, T⟩ F st a w where
  keep := Step.refl _ _
  base_lt := h2
  sub := fun _ x => x
  lt := fun b hb => ⟨(h.lt b hb).1, .inl hb⟩
  env := h.env
  size := h.size
  slots := h.slots
  heap := fun p hp => ⟨.inl (h1 p hp), (h.heap p hp).2⟩
  keys := h.keys
  defers := h.defers
theorem SimF.keysLt {E : Env} {base : Base} {F : Nat → Prop} {st : St} {a : Act} {w : World} (h : SimF E base F st a w) {b : Nat} (hb : b ∈ st.heap.map (·.1)) : b < w.heap.size ∧ ¬ F b := by
  obtain ⟨p, hp, rfl⟩ := List.mem_map.1 hb
  exact ⟨(h.heap p hp).2.2.lt, (h.heap p hp).2.1⟩

/-- 'for x := range g { .. }', each round leaving by the body's end. -/
theorem SMCode.range {g : Operand} {p : Tmp} {asg bd : Code} {f : FuncId} {ds xs : List DV} (hg : st.val g = some (.fn f ds)) (hit : GIter C.P C.E f ds xs) (Inv : Nat → DHeap → Prop) (h0 : Inv 0 st.heap) (hp : Nat.blt p st.n = true)
    (hround : ∀ i x l H, xs[i]? = some x → Inv i H → SRound C.imp l asg ⟨st.n, (p, x) :: st.slots, H⟩ (fun e st1 => e = .normal ∧ SRound C.imp l bd st1 (fun e st2 => e = .normal ∧ Inv (i + 1) st2.heap)))
    (hdone : ∀ H, Inv xs.length H → Q .normal true ⟨st.n, st.slots, H⟩) : SMCode C (.rangeFunc g #[p] asg bd) false st Q := by
  intro base ok a w ⟨F, hs⟩
  refine (wpIn_wide (n := 0)).1 (wpIn_rangeFunc (F := Fence.wide) (n := 0) ?_)
  intro fn _
  have h3 := hs.val hg
  generalize hv : a.eval g = v at h3
  cases h3 with
  | @fn _ us _ hl hr =>
  obtain ⟨rec, hrec⟩ : ∃ rec : LoopState → Loop, rec = fun s => { state := s, pending := none, fn, tmps := a.tmps, params := #[p], assign := asg, body := bd, defers := w.heap.size } := ⟨_, rfl⟩
  obtain ⟨W1, hW1⟩ : ∃ W1, (w.alloc (.deferred (some []))).alloc (.loop (rec .ready)) = W1 := ⟨_, rfl⟩
  have hL1 : W1.heap[w.heap.size + 1]? = some (.loop (rec .ready)) := by
    rw [← hW1]; have := World.alloc_heap_new (w.alloc (.deferred (some []))) (.loop (rec .ready)); rwa [World.size_alloc] at this
  have hD1 : W1.heap[w.heap.size]? = some (.deferred (some [])) := by
    rw [← hW1]; exact (Below.heap_alloc _ _ _ (by simp)).trans (World.alloc_heap_new w _)
  have hst1 : Step (fun _ => False) w W1 := by rw [← hW1]; exact (Step.alloc _ w _).trans (Step.alloc _ _ _)
  have hne : ∀ s, (rec s).defers = w.heap.size ∧ (rec s).params = #[p] ∧ (rec s).tmps = a.tmps ∧ (rec s).state = s ∧ (rec s).pending = none ∧ (rec s).fn = fn ∧ (rec s).assign = asg ∧ (rec s).body = bd := fun s => by rw [hrec]; exact ⟨rfl, rfl, rfl, rfl, rfl, rfl, rfl, rfl⟩
  have hrs : ∀ s s', { rec s with state := s' } = rec s' := fun s s' => by rw [hrec]
  have hrs2 : ∀ s s', { rec s with state := s', pending := none } = rec s' := fun s s' => by rw [hrec]
  obtain ⟨J, hJ⟩ : ∃ J : JT, J = fun i w' F' T => ∃ H, Inv i H ∧ SimF C.E base F' ⟨st.n, st.slots, H⟩ a w' ∧ w'.heap[w.heap.size + 1]? = some (.loop (rec .ready)) ∧ w'.heap[w.heap.size]? = some (.deferred (some [])) ∧
      (∀ q ∈ H, T q.1) ∧ T (w.heap.size + 1) ∧ T w.heap.size ∧ (∀ q ∈ H, q.1 ≠ w.heap.size + 1 ∧ q.1 ≠ w.heap.size) ∧ (∀ b, T b → base.own b ∨ base.w.heap.size ≤ b) ∧ (∀ b, T b → b < w'.heap.size ∧ ¬ F' b) := ⟨_, rfl⟩
  have hbw : base.w.heap.size ≤ w.heap.size := hs.keep.size
  have hnoF : ∀ b, w.heap.size ≤ b → ¬ F b := fun b hb hF => absurd (hs.lt b hF).1 (Nat.not_lt.2 hb)
  have hKeep : YKeeps J := by
    rw [hJ]
    rintro i w1 F1 T1 w2 F2 ⟨H, hI, hs1, k1, k2, k3, k4, k5, k6, k7, k8⟩ hst hF hF2
    have hT2 : ∀ b, T1 b → b < w2.heap.size ∧ ¬ F2 b := fun b hb => ⟨Nat.lt_of_lt_of_le (k8 b hb).1 hst.size, fun x => by
      rcases (hF2 b x).2 with y | y
      · exact (k8 b hb).2 y
      · exact absurd (k8 b hb).1 (Nat.not_lt.2 y)⟩
    exact ⟨H, hI, (hs1.world hst).wider hF (fun b hb => ⟨(hF2 b hb).1, (hF2 b hb).2.imp id (fun x => Nat.le_trans hs1.keep.size x)⟩) (fun q hq => (hT2 _ (k3 q hq)).2),
      (hst.block _ (k8 _ k4).1 (fun x => x)).trans k1, (hst.block _ (k8 _ k5).1 (fun x => x)).trans k2, k3, k4, k5, k6, k7, hT2⟩
  have hRounds : YRounds C.P C.E (w.heap.size + 1) xs J := by
    intro i x hx w1 F1 T1 v hE hlt hTT hj hv1
    have hj' := hj
    rw [hJ] at hj
    obtain ⟨H, hI, hs1, k1, k2, k3, k4, k5, k6, k7, k8⟩ := hj
    have hy := run_yield (P := C.P) (args := #[v]) k1 (by rw [(hne _).2.1]; rfl)
    rw [(hne .ready).2.1, (hne .ready).2.2.1, (hne .ready).2.2.2.2.2.1, (hne .ready).2.2.2.2.2.2.1, (hne .ready).2.2.2.2.2.2.2] at hy
    refine ⟨fn, _, asg, bd, hy, roundIn_of_wpIn (F := Fence.wide) trivial ?_⟩
    clear hy
    have ha : ({ tmps := (#[p].zip #[v]).foldl (fun tmps (t, a) => tmps.setIfInBounds t a) a.tmps, defers := [] } : Act) = a.put (some p) v := by
      rw [show (#[p].zip #[v]).foldl (fun tmps (t, a) => tmps.setIfInBounds t a) a.tmps = a.tmps.setIfInBounds p v by simp]
      show _ = ({ tmps := a.tmps.setIfInBounds p v, defers := a.defers } : Act)
      rw [hs1.defers]
    rw [ha]
    have hkH : ∀ b, b ∈ H.map (·.1) → T1 b := fun b hb => by obtain ⟨q, hq, rfl⟩ := List.mem_map.1 hb; exact k3 q hq
    have hlH : ¬ (w.heap.size + 1) ∈ H.map (·.1) := fun hm => by obtain ⟨q, hq, e⟩ := List.mem_map.1 hm; exact (k6 q hq).1 e
    have hDH : ¬ w.heap.size ∈ H.map (·.1) := fun hm => by obtain ⟨q, hq, e⟩ := List.mem_map.1 hm; exact (k6 q hq).2 e
    have s1 := (hs1.rebase).put (t := p) (x := v) (d := x) (by simpa using hp) hv1
    refine wpIn_mono (hround i x (w.heap.size + 1) H hx hI ⟨w1, F1, fun b => b ∈ H.map (·.1)⟩ (fun hq => by cases hq) _ w1 ⟨F1, s1⟩) ?_
    rintro e a1 w2 ⟨st1, ⟨rfl, hb⟩, F2, s2⟩
    have hl2 : w2.heap[w.heap.size + 1]? = some (.loop (rec .ready)) := (s2.keep.block _ (k8 _ k4).1 hlH).trans k1
    have hD2 : w2.heap[w.heap.size]? = some (.deferred (some [])) := (s2.keep.block _ (k8 _ k5).1 hDH).trans k2
    have hlF2 : ∀ b, T1 b → ¬ F2 b := fun b hb x => by
      rcases (s2.lt b x).2 with y | y
      · exact (k8 b hb).2 y
      · exact absurd (k8 b hb).1 (Nat.not_lt.2 y)
    have hk1 : ∀ q ∈ st1.heap, T1 q.1 ∨ w1.heap.size ≤ q.1 := fun q hq => (s2.heap q hq).1.imp (hkH _) id
    have hl1n : ∀ q ∈ st1.heap, q.1 ≠ w.heap.size + 1 ∧ q.1 ≠ w.heap.size := fun q hq => ⟨fun e => by
        rcases (s2.heap q hq).1 with y | y
        · exact hlH (e ▸ y)
        · exact absurd (k8 _ k4).1 (Nat.not_lt.2 (e ▸ y)), fun e => by
        rcases (s2.heap q hq).1 with y | y
        · exact hDH (e ▸ y)
        · exact absurd (k8 _ k5).1 (Nat.not_lt.2 (e ▸ y))⟩
    refine ⟨_, run_beginRound hl2 (hne _).2.2.2.1, ?_⟩
    rw [hrs]
    have st2 := Step.putObj (.loop (rec .busy)) hl2 rfl
    have hlt2 := (Array.getElem?_eq_some_iff.1 hl2).1
    have s3 := ((s2.rebaseT (fun b => b ∈ st1.heap.map (·.1) ∨ b = w.heap.size + 1) (fun q hq => .inl (List.mem_map.2 ⟨q, hq, rfl⟩)) (fun b hb => hb.elim (fun h => (s2.keysLt h).1) (fun h => h ▸ hlt2))).stepT st2 (fun b hF e => hlF2 _ k4 (e ▸ hF)) (fun q hq e => (hl1n q hq).1 e) (fun b e => .inl (.inr e))).rebase
    have hl3 : (w2.putObj (w.heap.size + 1) (.loop (rec .busy))).heap[w.heap.size + 1]? = some (.loop (rec .busy)) := World.putObj_heap_same hlt2
    have hD3 : (w2.putObj (w.heap.size + 1) (.loop (rec .busy))).heap[w.heap.size]? = some (.deferred (some [])) := (World.putObj_heap_other (by omega)).trans hD2
    have hl1k : ¬ (w.heap.size + 1) ∈ st1.heap.map (·.1) := fun hm => by obtain ⟨q, hq, e⟩ := List.mem_map.1 hm; exact (hl1n q hq).1 e
    have hD1k : ¬ w.heap.size ∈ st1.heap.map (·.1) := fun hm => by obtain ⟨q, hq, e⟩ := List.mem_map.1 hm; exact (hl1n q hq).2 e
    have hsz3 : w2.heap.size ≤ (w2.putObj (w.heap.size + 1) (.loop (rec .busy))).heap.size := st2.size
    generalize w2.putObj (w.heap.size + 1) (.loop (rec .busy)) = W3 at *
    refine wpIn_mono (hb ⟨W3, F2, _⟩ (fun hq => by cases hq) a1 W3 ⟨F2, s3⟩) ?_
    rintro e a2 w4 ⟨st2', ⟨rfl, hI2⟩, F4, s4⟩
    have hl4 : w4.heap[w.heap.size + 1]? = some (.loop (rec .busy)) := (s4.keep.block _ (Array.getElem?_eq_some_iff.1 hl3).1 hl1k).trans hl3
    have hD4 : w4.heap[w.heap.size]? = some (.deferred (some [])) := (s4.keep.block _ (Array.getElem?_eq_some_iff.1 hD3).1 hD1k).trans hD3
    refine ⟨_, _, run_endRound none hl4, rfl, ?_⟩
    rw [show ({ rec .busy with state := if (none : Option Code).isNone then .ready else .done, pending := none } : Loop) = rec .ready from hrs2 _ _]
    have st5 := Step.putObj (.loop (rec .ready)) hl4 rfl
    have hlt4 := (Array.getElem?_eq_some_iff.1 hl4).1
    have hl5 : (w4.putObj (w.heap.size + 1) (.loop (rec .ready))).heap[w.heap.size + 1]? = some (.loop (rec .ready)) := World.putObj_heap_same hlt4
    have hD5 : (w4.putObj (w.heap.size + 1) (.loop (rec .ready))).heap[w.heap.size]? = some (.deferred (some [])) := (World.putObj_heap_other (by omega)).trans hD4
    generalize w4.putObj (w.heap.size + 1) (.loop (rec .ready)) = W5 at *
    have hw12 : w1.heap.size ≤ w2.heap.size := s2.keep.size
    have hw34 : W3.heap.size ≤ w4.heap.size := s4.keep.size
    have hF14 : ∀ b, F1 b → F4 b := fun b hb => s4.sub b (s2.sub b hb)
    have hF41 : ∀ b, F4 b → b < W5.heap.size ∧ (F1 b ∨ w1.heap.size ≤ b) := fun b hb => ⟨Nat.lt_of_lt_of_le (s4.lt b hb).1 st5.size, by
      rcases (s4.lt b hb).2 with y | y
      · exact (s2.lt b y).2
      · exact .inr (by have : W3.heap.size ≤ b := y; omega)⟩
    have hT1F : ∀ b, T1 b → ¬ F4 b := fun b hb x => by
      rcases (hF41 b x).2 with y | y
      · exact (k8 b hb).2 y
      · exact absurd (k8 b hb).1 (Nat.not_lt.2 y)
    have hk2 : ∀ q ∈ st2'.heap, T1 q.1 ∨ w1.heap.size ≤ q.1 := fun q hq => by
      rcases (s4.heap q hq).1 with y | y
      · obtain ⟨q', hq', e⟩ := List.mem_map.1 y
        rw [← e]; exact hk1 q' hq'
      · exact .inr (by have : W3.heap.size ≤ q.1 := y; omega)
    have hk2n : ∀ q ∈ st2'.heap, q.1 ≠ w.heap.size + 1 ∧ q.1 ≠ w.heap.size := fun q hq => by
      have hl3' := (Array.getElem?_eq_some_iff.1 hl3).1
      refine ⟨fun e => ?_, fun e => ?_⟩
      · rcases (s4.heap q hq).1 with y | y
        · exact hl1k (e ▸ y)
        · have : W3.heap.size ≤ q.1 := y; omega
      · rcases (s4.heap q hq).1 with y | y
        · exact hD1k (e ▸ y)
        · have : W3.heap.size ≤ q.1 := y; omega
    have hT' : ∀ b, (b ∈ st2'.heap.map (·.1) ∨ b = w.heap.size + 1 ∨ b = w.heap.size) → b < W5.heap.size ∧ ¬ F4 b ∧ (T1 b ∨ w1.heap.size ≤ b) := fun b hb => by
      rcases hb with hb | rfl | rfl
      · obtain ⟨q, hq, rfl⟩ := List.mem_map.1 hb
        exact ⟨Nat.lt_of_lt_of_le (s4.heap q hq).2.2.lt st5.size, (s4.heap q hq).2.1, hk2 q hq⟩
      · exact ⟨(Array.getElem?_eq_some_iff.1 hl5).1, hT1F _ k4, .inl k4⟩
      · exact ⟨(Array.getElem?_eq_some_iff.1 hD5).1, hT1F _ k5, .inl k5⟩
    have kall : Step T1 w1 W5 := by
      refine Step.then (Step.then (Step.then (s2.keep.mono (fun i _ h => hkH i h)) st2 (fun i hi e => e ▸ k4)) s4.keep (fun i hi hb => ?_)) st5 (fun i hi e => e ▸ k4)
      obtain ⟨q, hq, rfl⟩ := List.mem_map.1 hb
      rcases hk1 q hq with y | y
      · exact y
      · exact absurd hi (Nat.not_lt.2 y)
    have hown : ∀ b, (T1 b ∨ w1.heap.size ≤ b) → base.own b ∨ base.w.heap.size ≤ b := fun b hb => hb.elim (k7 b) (fun y => .inr (Nat.le_trans hs1.keep.size y))
    refine ⟨F4, _, hF14, hF41, hT', kall, ?_⟩
    rw [hJ]
    have hblk : ∀ b, F1 b → W5.heap[b]? = w1.heap[b]? := fun b hb => kall.block b (hlt b hb) (fun ht => (k8 b ht).2 hb)
    refine ⟨st2'.heap, hI2, ?_, hl5, hD5, fun q hq => .inl (List.mem_map.2 ⟨q, hq, rfl⟩), .inr (.inl rfl), .inr (.inr rfl), hk2n, fun b hb => hown b (hT' b hb).2.2, fun b hb => ⟨(hT' b hb).1, (hT' b hb).2.1⟩⟩
    exact {
      keep := hs1.keep.then kall (fun i hi hb => (k7 i hb).resolve_right (by omega))
      base_lt := hs1.base_lt
      sub := fun b hb => hF14 b (hs1.sub b hb)
      lt := fun b hb => ⟨(hF41 b hb).1, (hF41 b hb).2.elim (fun y => (hs1.lt b y).2) (fun y => .inr (Nat.le_trans hs1.keep.size y))⟩
      env := C.E.mono hblk hF14 hs1.env
      size := hs1.size
      slots := fun t d ht => ⟨(hs1.slots t d ht).1, (hs1.slots t d ht).2.mono hblk kall.shape hF14⟩
      heap := fun q hq => by
        obtain ⟨y1, y2, y3⟩ := s4.heap q hq
        exact ⟨hown _ (hk2 q hq), y2, y3.mono (st5.block _ y3.lt (fun e => (hk2n q hq).1 e)) (fun b hb => st5.block b (s4.lt b hb).1 (fun e => hT1F _ k4 (e ▸ hb))) st5.shape (fun _ x => x)⟩
      keys := s4.keys
      defers := hs1.defers }
  have hJ0 : J 0 W1 F (fun b => b ∈ st.heap.map (·.1) ∨ b = w.heap.size + 1 ∨ b = w.heap.size) := by
    rw [hJ]
    have hlt1 := (Array.getElem?_eq_some_iff.1 hL1).1
    refine ⟨st.heap, h0, hs.world hst1, hL1, hD1, fun q hq => .inl (List.mem_map.2 ⟨q, hq, rfl⟩), .inr (.inl rfl), .inr (.inr rfl), fun q hq => ?_, fun b hb => ?_, fun b hb => ?_⟩
    · have := (hs.heap q hq).2.2.lt
      omega
    · rcases hb with hb | rfl | rfl
      · obtain ⟨q, hq, rfl⟩ := List.mem_map.1 hb; exact (hs.heap q hq).1
      · exact .inr (by omega)
      · exact .inr (by omega)
    · rcases hb with hb | rfl | rfl
      · exact ⟨Nat.lt_of_lt_of_le (hs.keysLt hb).1 hst1.size, (hs.keysLt hb).2⟩
      · exact ⟨hlt1, hnoF _ (by omega)⟩
      · exact ⟨by omega, hnoF _ (by omega)⟩
  refine ⟨w.heap.size + 1, [{ target := .collected w.heap.size, args := #[] }], W1, { target := .fn (.func f) us, args := #[.func (.yield (w.heap.size + 1)) #[] #[]] }, W1, f, #[.func (.yield (w.heap.size + 1)) #[] #[]] ++ us, W1, ?_, ?_, fun _ _ => trivial, ?_, fun e => by simp [Fence.wide] at e, ?_⟩
  · rw [← hW1, hrec]; exact run_enterLoop_outer _ _ _ _ _
  · simp only [resolve, hv]
    simp [go_sem]
  · simp only [invoke]
    exact run_callFunc hit.1 _ _
  · refine (callsIn_wide (n := 0 - 1)).2 (Calls.mono (hit.2 (w.heap.size + 1) J W1 F _ us hKeep hRounds (hs.world hst1).env (fun b hb => ((hs.world hst1).lt b hb).1) (fun b hb => ?_) hJ0 hl (fun j x d h1 h2 => (hr j x d h1 h2).mono (fun b hb => hst1.block b (hs.lt b hb).1 (fun x => x)) hst1.shape (fun _ x => x))) ?_)
    · have := hJ0
      rw [hJ] at this
      obtain ⟨_, _, _, _, _, _, _, _, _, _, k8⟩ := this
      exact k8 b hb
    · rintro e w5 ⟨⟨v, rfl⟩, F5, T5, hj⟩
      rw [hJ] at hj
      obtain ⟨H, hI, hs1, k1, k2, k3, k4, k5, k6, k7, k8⟩ := hj
      refine ⟨none, _, (run_endLoop k1 (by rw [(hne _).2.2.2.1]; simp)).trans (by rw [(hne .ready).2.2.2.2.1]), true, _, hdone H hI, F5, w.heap.size, ?_, by rw [hs.defers]; rfl, (World.putObj_heap_other (by omega)).trans k2, (k8 _ k5).2, fun q hq => (k6 q hq).2, hbw⟩
      have e : ({ ({ a with defers := [{ target := .collected w.heap.size, args := #[] }] ++ a.defers } : Act) with defers := [] } : Act) = a := by
        show ({ tmps := a.tmps, defers := [] } : Act) = a
        rw [← hs.defers]
      rw [e]
      exact hs1.stepT (T := (· = w.heap.size + 1)) (Step.putObj _ k1 rfl) (fun b hF e => (k8 _ k4).2 (e ▸ hF)) (fun q hq e => (k6 q hq).1 e) (fun b e => k7 b (e ▸ k4))

/-! ### a piece that leaves the own blocks as they are -/
theorem upon_mono {P : Program} {o : Oper} {a : Act} {K K' : Act → World → Prop} {Q Q' : Exit → Act → World → Prop} (hK : ∀ a w, K a w → K' a w) (hQ : ∀ e a w, e ≠ .normal → Q e a w → Q' e a w) :
    ∀ r : Result Next, o.upon P a K Q r → o.upon P a K' Q' r := by
  have hL : LetsOut Q → LetsOut Q' := fun ⟨a, w, h⟩ => ⟨a, w, hQ _ _ _ (by simp) h⟩
  intro r h
  cases r with
  | halt x w => cases x <;> first | exact hQ _ _ _ (by simp) h | exact h.elim
  | ok x w =>
    cases x with
    | value v => exact hK _ _ h
    | skip => exact hK _ _ h
    | defer d => exact hK _ _ h
    | enter f args =>
      refine Calls.mono h (fun e w' q => ?_)
      cases e with
      | returned v => exact hK _ _ q
      | panicked c => exact hQ _ _ _ (by simp) q
      | outgrown => exact hL q
    | row row args => exact Rows.mono h (fun v w' r => hK _ _ r)
    | _ => exact h.elim
theorem SOps.frame1 {o : Oper} {rest : List Oper} {ops : Array Oper} {R : St → Prop} {n1 : Nat} {sl1 : List (Nat × DV)} (h : SOps C.pur ops [o] ⟨st.n, st.slots, []⟩ (fun st' => st' = ⟨n1, sl1, []⟩)) (k : SOps C ops rest ⟨n1, sl1, st.heap⟩ R) : SOps C ops (o :: rest) st R := by
  intro base ok a w ⟨F, hs⟩ Q hQ
  have s0 : SimF C.E ⟨w, F, fun _ => False⟩ F ⟨st.n, st.slots, []⟩ a w := { (hs.rebase.weaken (st' := ⟨st.n, st.slots, []⟩) ⟨rfl, fun t d ht => .inl ht, [], .refl _, List.nil_sublist _⟩) with
    keep := Step.refl _ _
    base_lt := fun b hb => hb.elim
    heap := fun p hp => by cases hp }
  have h1 := h ⟨w, F, fun _ => False⟩ (fun _ b hb => hb) a w ⟨F, s0⟩ (fun e a' w' => e = .normal ∧ wpList C.P ops Q rest a' w') (fun st' a' w' r ⟨F', s⟩ => ⟨rfl, by
    subst r
    refine k base ok a' w' ⟨F', ?_⟩ Q hQ
    have s2 := hs.back s (fun b hb => hb.elim)
    have hT : ∀ p ∈ st.heap, ¬ F' p.1 := fun p hp hF' => by
      rcases (s.lt p.1 hF').2 with x | x
      · exact (hs.heap p hp).2.1 x
      · exact absurd (hs.heap p hp).2.2.lt (Nat.not_lt.2 x)
    exact { s2 with
      heap := fun p hp => by
        obtain ⟨y1, y2, y3⟩ := hs.heap p hp
        exact ⟨y1, hT p hp, y3.mono (s.keep.block _ y3.lt (fun x => x)) (fun b hb => s.keep.block b (hs.lt b hb).1 (fun x => x)) s.keep.shape s.sub⟩
      keys := hs.keys }⟩)
  unfold wpList at h1 ⊢
  by_cases hw : Region.wanted o (yielded ops a.tmps) = true
  · rw [if_pos hw] at h1 ⊢
    rcases h1 with h1 | ⟨h2, a0, w0, h3⟩
    · exact .inl (upon_mono (fun a w q => q.2) (fun e a w he q => absurd q.1 he) _ h1)
    · cases h3.1
  · rw [if_neg hw] at h1 ⊢
    exact h1.2
/-- A box that holds a map which is written no more. -/
theorem SOps.freezePinMap {ops : Array Oper} {l : List Oper} {R : St → Prop} {t : Nat} (i : Nat) {b : Nat} {es : List (Value × DV)} (hp : C.pu = true) (hi : st.heap[i]? = some (b, .map es)) (hd : st.get t = some (.ipin [.mp b]))
    (h : SOps C ops l ⟨st.n, (t, .ipin [.imap es]) :: st.slots, st.heap.eraseIdx i⟩ R) : SOps C ops l st R :=
  SOps.letGoAs i hp hi hd (fun w F v ho hv => by
    obtain ⟨ents, clock, k1, k2, k3⟩ := ho
    cases hv with
    | ipin xs hF hc hr =>
      refine .ipin xs (.inl hF) (fun j d hj => ?_) (fun j d hj => ?_)
      · cases j with
        | zero => exact hc 0 (.mp b) rfl
        | succ j => cases hj
      · cases j with
        | zero =>
          obtain rfl := Option.some.inj hj
          have h0 := hr 0 (.mp b) rfl
          generalize xs 0 = x at h0
          cases h0 with
          | mp =>
            refine .imap (fun i => ((ents[i]?).map (·.val)).getD undef) (.inr rfl) k1 k2 (fun i p hp => ?_) (fun i p hp => ?_)
            · obtain ⟨e, he, hk, _⟩ := k3 i p hp
              simp [he, hk]
            · obtain ⟨e, he, _, hr'⟩ := k3 i p hp
              simp only [he, Option.map_some, Option.getD_some]
              exact hr'.mono (fun _ _ => rfl) (fun _ _ x => x) (fun _ x => .inl x)
        | succ j => cases hj) h

/-- The contract of a function that holds a range over a function. -/
theorem GCall.bodyM {f : FuncId} {fn : Func} {c : Code} {ds : List DV} {H : DHeap} {R : DV → DHeap → Prop} (hf : C.P.funcs[f]? = some fn) (hb : fn.body = some c)
    (hpu : C.pu = true → H = []) (hname : (fn.name == "runtime.NumGoroutine") = false) (hn : Nat.ble ds.length fn.ntmps = true)
    (h : SMCode C c false (St.init fn.ntmps ds H) (fun e _ st => endQ C.P fn.results R e st)) : GCall C.P C.E f ds H R := by
  refine ⟨by simp [hasBody, hf, hb, hname], ?_⟩
  intro w F vs hE hF hvs hr hH hk
  have hn' := Nat.le_of_ble_eq_true hn
  refine callsIn_wide.1 (callsIn_of_wp_marks (F := Fence.wide) (n := 0) hf hb trivial ?_)
  have hsim : SimF C.E ⟨w, F, fun b => b ∈ H.map (·.1)⟩ F (St.init fn.ntmps ds H) { tmps := vs ++ Array.replicate (fn.ntmps - vs.size) undef, defers := [] } w := {
    keep := Step.refl _ _
    base_lt := fun b hb => by
      obtain ⟨p, hp, rfl⟩ := List.mem_map.1 hb
      exact (hH p hp).2.lt
    sub := fun _ h => h
    lt := fun b hb => ⟨hF b hb, .inl hb⟩
    env := hE
    size := by simp [hvs, St.init]; omega
    slots := fun t d ht => by
      obtain ⟨_, h2⟩ := enum_get ds 0 t d ht
      simp only [Nat.sub_zero] at h2
      have hlt := (List.getElem?_eq_some_iff.1 h2).1
      refine ⟨Nat.lt_of_lt_of_le hlt hn', ?_⟩
      have hlt' : t < vs.size := hvs ▸ hlt
      have e : (vs ++ Array.replicate (fn.ntmps - vs.size) undef).getD t undef = vs[t] := by
        simp [Array.getD_eq_getD_getElem?, Array.getElem?_append, hlt']
      rw [e]
      exact hr t _ d (Array.getElem?_eq_getElem hlt') h2
    heap := fun p hp => ⟨.inl (List.mem_map.2 ⟨p, hp, rfl⟩), (hH p hp).1, (hH p hp).2⟩
    keys := hk
    defers := rfl }
  have hok : C.ok ⟨w, F, fun b => b ∈ H.map (·.1)⟩ := fun hp b hb => by rw [hpu hp] at hb; cases hb
  refine wpIn_wide.2 (wp_mono (h _ hok _ _ ⟨F, hsim⟩) ?_)
  rintro e a' w' ⟨m', st', q, s⟩
  have fin : ∀ d, Res C.P st' fn.results d → R d st'.heap → LeavesInM Fence.wide 0 C.P fn a'.tmps (CPost C.E w F H R) a'.defers .returning w' := fun d hres hR => by
    cases m' with
    | false =>
      obtain ⟨F', s⟩ := s
      obtain ⟨x, hx, hrep⟩ := run_results s hres
      rw [s.defers]
      exact ⟨x, hx, x, d, st'.heap, F', rfl, hR, s.sub, s.lt, hrep, s.heap, s.keys, s.keep⟩
    | true =>
      obtain ⟨F', D, s, hd, hD, hFD, hH', hbD⟩ := s
      have k := Step.putObj (.deferred none) hD rfl
      have s2 := s.stepT k (fun b hF e => hFD (e ▸ hF)) (fun q hq e => hH' q hq e) (fun b e => .inr (e ▸ hbD))
      obtain ⟨x, hx, hrep⟩ := run_results s2 hres
      rw [hd]
      exact ⟨by simp, .inl ⟨D, _, rfl, run_takeDeferred hD, x, hx, x, d, st'.heap, F', rfl, hR, s2.sub, s2.lt, hrep, s2.heap, s2.keys, s2.keep⟩⟩
  cases e with
  | normal => obtain ⟨d, h1, h2⟩ := q; exact fin d h1 h2
  | ret => obtain ⟨d, h1, h2⟩ := q; exact fin d h1 h2
  | _ => exact q.elim
end
/-- A row that the call has grown is let go with its result. -/
theorem GCall.cleanAcc {P : Program} {E : Env} {f : FuncId} {ds : List DV} {e sz : Nat} {x : DV} {es : List (List DV)} (h : GCall P E f ds [] (fun d H => ∃ k, d = .tup [accD sz k es, x] ∧ ∀ p ∈ accH e sz k es, p ∈ H)) : GCall P E f ds [] (fun d H => d = .tup [.isl false sz es, x] ∧ H = []) :=
  ⟨h.1, fun w F vs hE hF hl hr h1 h2 => (h.2 w F vs hE hF hl hr h1 h2).mono (fun e' w' ⟨u, d, H', F', e1, e2, e3, e4, e5, e6, e7, e8⟩ => by
    obtain ⟨k, rfl, hk⟩ := e2
    cases es with
    | nil => exact ⟨u, _, [], F', e1, ⟨rfl, rfl⟩, e3, e4, rep_tup0 (fun _ _ _ h => nil_isl h) e5, (fun p hp => by cases hp), List.nodup_nil, e8⟩
    | cons y ys =>
      obtain ⟨p1, p2, p3⟩ := e6 _ (hk _ (List.mem_cons_self ..))
      have p1' : w.heap.size ≤ k := p1.resolve_left (fun hm => by cases hm)
      refine ⟨u, _, [], fun c => F' c ∨ c = k, e1, ⟨rfl, rfl⟩, fun b hb => .inl (e3 b hb), fun b hb => ?_, ?_, (fun p hp => by cases hp), List.nodup_nil, e8⟩
      · rcases hb with hb | rfl
        · exact e4 b hb
        · exact ⟨p3.lt, .inr p1'⟩
      · cases e5 with
        | tup hl' hr' =>
          refine .tup (by simpa using hl') (fun j x' d' hj hd' => ?_)
          cases j with
          | zero =>
            simp only [List.getElem?_cons_zero, Option.some.injEq] at hd'
            subst hd'
            exact rep_row p3 (hr' 0 x' _ hj rfl)
          | succ j => exact (hr' (j + 1) x' d' hj (by simpa using hd')).mono (fun _ _ => rfl) (fun _ _ h => h) (fun _ h => .inl h))⟩
end Go.GH
namespace Go.GH
open Go

abbrev Ids := Nat → Nat
/-- A chain: its operations, and what its memory is after so many of them. -/
structure Chn where
  T : List Nat
  Y : List Nat → Nat → DHeap
def Chn.X (x : Chn) (b : Ids) (c : Nat) : DHeap := x.Y (x.T.map b) c
def Chn.at (L : Nat → Bool) (b : Ids) (x : Chn) : DHeap := x.X b (cntL L x.T)
inductive NeedG (D : List (Ids → ORes)) (s : List (Nat × DV)) (b : Ids) : List (Nat ⊕ Nat) → List (Nat × DV) → Prop
  | nil : NeedG D s b [] []
  | inl {j : Nat} {ss : List (Nat ⊕ Nat)} {nd : List (Nat × DV)} {r : Ids → ORes} (k t : Nat) (d : DV) (hk : k + j + 1 = D.length) (h : D[k]? = some r) (h2 : r b = some (t, d)) (q : NeedG D s b ss nd) : NeedG D s b (.inl j :: ss) ((t, d) :: nd)
  | inr {t : Nat} {ss : List (Nat ⊕ Nat)} {nd : List (Nat × DV)} (d : DV) (h : getL s t = some d) (q : NeedG D s b ss nd) : NeedG D s b (.inr t :: ss) ((t, d) :: nd)
/-- What each operation does. 'none': it reads alone; 'some (m, c)': it is number c of chain m. -/
inductive GOk (C : Ctx) (ops : Array Oper) (n : Nat) (base : DHeap) (s : List (Nat × DV)) (xs : List Chn) : List (Ids → ORes) → List Oper → List (List (Nat ⊕ Nat)) → List (Option (Nat × Nat)) → List (List Nat) → List (Ids → ORes) → Prop
  | nil {D : List (Ids → ORes)} : GOk C ops n base s xs D [] [] [] [] []
  | pure {D E : List (Ids → ORes)} {o : Oper} {os : List Oper} {ss : List (Nat ⊕ Nat)} {sss : List (List (Nat ⊕ Nat))} {cls : List (Option (Nat × Nat))} {Ss : List (List Nat)} (S : List Nat) (g : List Nat → ORes) {nd : Ids → List (Nat × DV)} (hj : inlB D.length ss = true) (hn : ∀ b, NeedG D s b ss (nd b))
      (h : ∀ b rest ext, SOps C ops [o] ⟨n, nd b ++ rest, base ++ ext⟩ (fun st' => st' = ⟨n, (g (S.map b)).toList ++ (nd b ++ rest), base ++ ext⟩)) (k : GOk C ops n base s xs ((fun b => g (S.map b)) :: D) os sss cls Ss E) : GOk C ops n base s xs D (o :: os) (ss :: sss) (none :: cls) (S :: Ss) ((fun b => g (S.map b)) :: E)
  | act {D E : List (Ids → ORes)} {o : Oper} {os : List Oper} {ss : List (Nat ⊕ Nat)} {sss : List (List (Nat ⊕ Nat))} {cls : List (Option (Nat × Nat))} {Ss : List (List Nat)} {m c : Nat} {x : Chn} (S : List Nat) (g : List Nat → ORes) {nd : Ids → List (Nat × DV)} (hx : xs[m]? = some x) (hc : x.T[c]? = some D.length) (hj : inlB D.length ss = true) (hn : ∀ b, NeedG D s b ss (nd b))
      (h : ∀ b rest ext, SOps C ops [o] ⟨n, nd b ++ rest, base ++ (x.X b c ++ ext)⟩ (fun st' => ∃ b', (∀ k, k ≠ D.length → b' k = b k) ∧ (⟨n, (g (S.map b')).toList ++ (nd b ++ rest), base ++ (x.X b' (c + 1) ++ ext)⟩ : St).Le st')) (k : GOk C ops n base s xs ((fun b => g (S.map b)) :: D) os sss cls Ss E) :
      GOk C ops n base s xs D (o :: os) (ss :: sss) (some (m, c) :: cls) (S :: Ss) ((fun b => g (S.map b)) :: E)
theorem needO_more {D E : List ORes} {s : List (Nat × DV)} : ∀ {ss : List (Nat ⊕ Nat)}, inlB D.length ss = true → needO (D ++ E) s ss = needO D s ss
  | [], _ => rfl
  | .inl j :: r, h => by
    simp only [inlB, List.all_cons, Bool.and_eq_true] at h
    have hj := Nat.le_of_ble_eq_true h.1
    simp only [needO, List.getElem?_append_left (show j < D.length from hj), needO_more (E := E) (s := s) (ss := r) h.2]
  | .inr t :: r, h => by
    simp only [inlB, List.all_cons, Bool.and_eq_true] at h
    simp only [needO, needO_more (E := E) (s := s) (ss := r) h.2]
theorem NeedG.eq {D : List (Ids → ORes)} {s : List (Nat × DV)} {b : Ids} : ∀ {ss : List (Nat ⊕ Nat)} {nd : List (Nat × DV)}, NeedG D s b ss nd → needO (D.reverse.map (fun r => r b)) s ss = nd
  | _, _, .nil => rfl
  | _, _, .inl (j := j) (r := r) k t d hk h h2 q => by
    have e : (D.reverse.map (fun r => r b))[j]? = some (some (t, d)) := by
      rw [List.getElem?_map, List.getElem?_reverse (by omega), show D.length - 1 - j = k by omega, h]
      simp [h2]
    simp only [needO, e, q.eq]
  | _, _, .inr d h q => by simp only [needO, h, q.eq]
/-- Operation i: its sources, its class, what it does. -/
theorem GOk.at {C : Ctx} {ops : Array Oper} {n : Nat} {base : DHeap} {s : List (Nat × DV)} {xs : List Chn} : ∀ {D E : List (Ids → ORes)} {os : List Oper} {sss : List (List (Nat ⊕ Nat))} {cls : List (Option (Nat × Nat))} {Ss : List (List Nat)}, GOk C ops n base s xs D os sss cls Ss E → ∀ (i : Nat) o, os[i]? = some o →
    ∃ (ss : List (Nat ⊕ Nat)) (cl : Option (Nat × Nat)) (r : Ids → ORes) (nd : Ids → List (Nat × DV)), sss[i]? = some ss ∧ cls[i]? = some cl ∧ E[i]? = some r ∧ (∀ b, needO ((D.reverse ++ E).map (fun r => r b)) s ss = nd b) ∧
      (cl = none → ∀ b rest ext, SOps C ops [o] ⟨n, nd b ++ rest, base ++ ext⟩ (fun st' => st' = ⟨n, (r b).toList ++ (nd b ++ rest), base ++ ext⟩)) ∧
      (∀ m c, cl = some (m, c) → ∃ x, xs[m]? = some x ∧ x.T[c]? = some (D.length + i) ∧ ∀ b rest ext, SOps C ops [o] ⟨n, nd b ++ rest, base ++ (x.X b c ++ ext)⟩ (fun st' => ∃ b', (∀ k, k ≠ D.length + i → b' k = b k) ∧ (⟨n, (r b').toList ++ (nd b ++ rest), base ++ (x.X b' (c + 1) ++ ext)⟩ : St).Le st'))
  | _, _, _, _, _, _, .nil, i, o, hi => by simp at hi
  | D, _, _, _, _, _, .pure (E := E) (ss := ss) S g (nd := nd) hj hn h k, 0, o, hi => by
    simp only [List.getElem?_cons_zero, Option.some.injEq] at hi
    subst hi
    refine ⟨ss, none, fun b => g (S.map b), nd, rfl, rfl, rfl, fun b => ?_, fun _ => h, fun m c e => by cases e⟩
    rw [List.map_append, needO_more (by simpa using hj)]
    exact (hn b).eq
  | D, _, _, _, _, _, .act (E := E) (ss := ss) (m := m) (c := c) (x := x) S g (nd := nd) hx hc hj hn h k, 0, o, hi => by
    simp only [List.getElem?_cons_zero, Option.some.injEq] at hi
    subst hi
    refine ⟨ss, some (m, c), fun b => g (S.map b), nd, rfl, rfl, rfl, fun b => ?_, (fun e => by cases e), fun m' c' e => ?_⟩
    · rw [List.map_append, needO_more (by simpa using hj)]
      exact (hn b).eq
    · simp only [Option.some.injEq, Prod.mk.injEq] at e
      obtain ⟨rfl, rfl⟩ := e
      exact ⟨x, hx, by simpa using hc, h⟩
  | D, _, _, _, _, _, .pure (E := E) S g hj hn h k, i + 1, o, hi => by
    obtain ⟨ss, cl, r', nd, h1, h2, h3, h4, h5, h6⟩ := k.at i o (by simpa using hi)
    refine ⟨ss, cl, r', nd, by simpa using h1, by simpa using h2, by simpa using h3, ?_, h5, ?_⟩
    · simpa using h4
    · simpa [Nat.add_assoc, Nat.add_comm 1 i] using h6
  | D, _, _, _, _, _, .act (E := E) S g hx hc hj hn h k, i + 1, o, hi => by
    obtain ⟨ss, cl, r', nd, h1, h2, h3, h4, h5, h6⟩ := k.at i o (by simpa using hi)
    refine ⟨ss, cl, r', nd, by simpa using h1, by simpa using h2, by simpa using h3, ?_, h5, ?_⟩
    · simpa using h4
    · simpa [Nat.add_assoc, Nat.add_comm 1 i] using h6
end Go.GH
namespace Go.GH
open Go Go.RowKit

section
variable {C : Ctx} {E : Env} {base : Base} {F : Nat → Prop} {st : St} {a : Act} {w : World} {ops : Array Oper} {rest : List Oper} {R : St → Prop}
  {t : Tmp} {ty : TypeId} {pos : String} {aft : Array Edge} {g : Option (Nat × Bool)}

end
end Go.GH
namespace Go.GH
open Go Go.RowKit
section
variable {C : Ctx} {E : Env} {base : Base} {F : Nat → Prop} {st : St} {a : Act} {w : World} {ops : Array Oper} {rest : List Oper} {R : St → Prop}
  {t : Tmp} {ty : TypeId} {pos : String} {aft : Array Edge} {g : Option (Nat × Bool)}
end
theorem SCode.drawAuto1 {C : Ctx} {id : Nat} {l : List Oper} {n : Nat} {s : List (Nat × DV)} {H : DHeap} {Q : Exit → St → Prop} {E : List (Nat × DV)} {o : Oper} (m f : Nat) (hm : C.P.follows .mixedOrders = true) (ts : List Nat) (srcs : List (List (Nat ⊕ Nat)))
    (hB : drawB (l.take m) ts srcs = true) (hd : distB ts = true) (hord : ordB l = true) (hseq : seqB l m f = true) (hml : (l.take m).length = m) (hl : l.drop m = [o]) (hops : DOk C l.toArray n H s [] (l.take m) srcs E) (hts : E.map (·.1) = ts)
    (hQ : SOps C l.toArray [o] ⟨n, E ++ s, H⟩ (fun st => Q .normal st)) : SCode C (.region id l.toArray true) ⟨n, s, H⟩ Q :=
  SCode.drawSeqAt m (fun st => Q .normal st) f hm E ts srcs _ hts hB hd hord hseq hml rfl hops.ops
    (by rw [hl]; exact .cons (fun st hle => SOps.weaken hle hQ) .nil) (fun st h => ⟨st, ⟨rfl, fun t d h => .inl h, _, .refl _, List.Sublist.refl _⟩, h⟩)
end Go.GH
namespace Go.GH
open Go Go.RowKit
section
variable {C : Ctx} {st : St} {ops : Array Oper} {R : St → Prop} {t : Tmp}
end
end Go.GH
namespace Go.GH
open Go Go.Proofs
variable {E : Env}
theorem elemB_28_2_8 : elemB Tryd.prog 28 2 8 = true := by kernel_rfl
theorem placesB_28 : placesB Tryd.prog 28 [(0, 1), (1, 1)] = true := by kernel_rfl
theorem aIndices (a : List Letter)  : GCall Tryd.prog E 57 [DLs a] [] (fun d H => d = DMap a ∧ H = []) := by
  refine GCall.body (C := ⟨Tryd.prog, E, true⟩) Tryd.func57 rfl (fun _ => rfl) (by kernel_rfl) rfl ?_
  refine SCode.seqR ?_
  refine SOps.assign rfl ?_
  refine SOps.nil ?_
  refine SCode.seqR ?_
  refine SOps.move rfl ?_
  refine SOps.lenM rfl sliceB_22_28_2 ?_
  refine SOps.makeMapN mapB_89 rfl (fun b0 hb_0 => ?_)
  refine SOps.assign rfl ?_
  refine SOps.nil ?_
  refine SCode.seq ?_
  refine SCode.seqR ?_
  refine SOps.move rfl ?_
  refine SOps.lenM rfl sliceB_22_28_2 ?_
  refine SOps.move rfl ?_
  refine SOps.nil ?_
  refine SCode.block ?_
  refine SCode.loop3 (fun (i : Nat) (es : List (Int × Nat)) (b : Nat) => (⟨33, [(0, DLs a), (2, .v (.map none)), (3, .mp b), (11, DLs a), (12, .v (.int .i64 (a.length : Int))), (13, .v (.int .i64 (i : Int)))], [(b, .map (es.map encE))]⟩ : St)) (fun (i : Nat) (es : List (Int × Nat)) (b : Nat) => i ≤ a.length ∧ mapFrom (a.drop i) i es = mapOf a) (fun (i : Nat) (es : List (Int × Nat)) (b : Nat) => a.length - i) (0) ([]) (b0) (by exact ⟨by omega, by rw [List.drop_zero]; rfl⟩) (St.Le.of ⟨(by first | rfl | (show some _ = some _; simp)), (by first | rfl | (show some _ = some _; simp)), (by first | rfl | (show some _ = some _; simp)), (by first | rfl | (show some _ = some _; simp)), (by first | rfl | (show some _ = some _; simp)), (by first | rfl | (show some _ = some _; simp)), trivial⟩ rfl (by first | rfl | (simp))) ?_
  rintro i es b ⟨hi, hm⟩
  refine SCode.fact (isl_len (t := 0) rfl) (fun hB => ?_)
  simp only [List.length_map, lenB] at hB
  refine SCode.seqR ?_
  refine SOps.bin rfl rfl rfl ?_
  refine SOps.nil ?_
  refine SCode.seq ?_
  refine SCode.cond rfl (fun hc1 => ?_) (fun hc1 => ?_)
  · try simp only [nmL] at hc1
    refine SCode.skip ?_
    show SCode _ _ _ _
    refine SCode.seq ?_
    refine SCode.block ?_
    refine SCode.seqR ?_
    refine SOps.move rfl ?_
    refine SOps.indexM (i) rfl rfl sliceB_22_28_2 (by omega) (by omega) ?_
    refine SOps.loadPinA rfl aggB_28_2 (Nat.le_of_ble_eq_true rfl) ?_
    refine SOps.alloc (sz := 2) zeroIs_28 (fun b1 hb_1 => ?_)
    refine SOps.assign rfl ?_
    refine SOps.storeAM 0 rfl rfl aggB_28_2 rfl ?_
    refine SOps.freezeRef (t := 5) 0 0 rfl rfl rfl rfl rfl ?_
    refine SOps.nil ?_
    refine SCode.seqR ?_
    refine SOps.move rfl ?_
    refine SOps.fieldPin rfl fieldB_28_0_0 ?_
    refine SOps.loadPin rfl flatB_21 ?_
    refine SOps.lookupOM 0 (findE es (a[i]).rune) (fun i => DV.v (.int .i64 ((i : Nat) : Int))) rfl rfl rfl mapB_89 (keys_enc _) zeroIs_3 (lookup_enc _ _) (fun y2 hy2 => ?_) (fun hy2 => ?_)
    · have hfe : es.any (·.1 == (a[i]).rune) = true := by cases h : es.any (·.1 == (a[i]).rune) with | true => rfl | false => rw [findE_none.2 h] at hy2; cases hy2
      refine SOps.move rfl ?_
      refine SOps.extract rfl rfl ?_
      refine SOps.extract rfl rfl ?_
      refine SOps.assign rfl ?_
      refine SOps.assign rfl ?_
      refine SOps.nil ?_
      refine SCode.seqR ?_
      refine SOps.move rfl ?_
      refine SOps.un rfl rfl ?_
      refine SOps.nil ?_
      refine SCode.cond rfl (fun h => by cases h) (fun _ => ?_)
      refine SCode.skip ?_
      show SCode _ _ _ _
      refine SCode.region ?_
      refine SOps.addI rfl rfl (by omega) (by omega) ?_
      refine SOps.move rfl ?_
      refine SOps.nil ?_
      first
        | exact ⟨i + 1, _, b, ⟨by omega, by rw [← hm, mapFrom_step (show i < a.length by omega)]⟩, by omega, St.Le.of ⟨rfl, rfl, rfl, rfl, rfl, rfl, trivial⟩ rfl (congrArg (fun x => [(b, DO.map x)]) (upd_enc _ _ _ hfe).symm)⟩
        | exact ⟨i + 1, es, b, ⟨by omega, by rw [← hm, mapFrom_step (show i < a.length by omega), mapAdd, if_pos hfe]⟩, by omega, St.Le.of ⟨rfl, rfl, rfl, rfl, rfl, rfl, trivial⟩⟩
    · have hfe := hy2
      refine SOps.move rfl ?_
      refine SOps.extract rfl rfl ?_
      refine SOps.extract rfl rfl ?_
      refine SOps.assign rfl ?_
      refine SOps.assign rfl ?_
      refine SOps.nil ?_
      refine SCode.seqR ?_
      refine SOps.move rfl ?_
      refine SOps.un rfl rfl ?_
      refine SOps.nil ?_
      refine SCode.cond rfl (fun _ => ?_) (fun h => by cases h)
      refine SCode.region ?_
      refine SOps.move rfl ?_
      refine SOps.fieldPin rfl fieldB_28_0_0 ?_
      refine SOps.loadPin rfl flatB_21 ?_
      refine SOps.move rfl ?_
      refine SOps.mapUpdate 0 rfl rfl rfl rfl mapB_89 rfl (keys_enc _) ?_
      refine SOps.nil ?_
      show SCode _ _ _ _
      refine SCode.region ?_
      refine SOps.addI rfl rfl (by omega) (by omega) ?_
      refine SOps.move rfl ?_
      refine SOps.nil ?_
      first
        | exact ⟨i + 1, _, b, ⟨by omega, by rw [← hm, mapFrom_step (show i < a.length by omega)]⟩, by omega, St.Le.of ⟨rfl, rfl, rfl, rfl, rfl, rfl, trivial⟩ rfl (congrArg (fun x => [(b, DO.map x)]) (upd_enc _ _ _ hfe).symm)⟩
        | exact ⟨i + 1, es, b, ⟨by omega, by rw [← hm, mapFrom_step (show i < a.length by omega), mapAdd, if_pos hfe]⟩, by omega, St.Le.of ⟨rfl, rfl, rfl, rfl, rfl, rfl, trivial⟩⟩
  · try simp only [nmL] at hc1
    refine SCode.exit ?_
    show SCode _ _ _ _
    refine SCode.seqR ?_
    obtain rfl : es = mapOf a := by rw [← hm, List.drop_eq_nil_of_le (by omega)]; rfl
    refine SOps.freezeMap (t := 3) 0 rfl rfl rfl ?_
    refine SOps.move rfl ?_
    refine SOps.assign rfl ?_
    refine SOps.nil ?_
    refine SCode.drop ?_
    refine SCode.ret ?_
    exact ⟨_, Res.one (.tmp rfl), rfl, rfl⟩
theorem aIndex (a : List Letter) (r : Int)  : GCall Tryd.prog E 32 [DLs a, .v (.int .i32 r)] [] (fun d H => d = .v (.int .i64 (idxI a r)) ∧ H = []) := by
  refine GCall.body (C := ⟨Tryd.prog, E, true⟩) Tryd.func32 rfl (fun _ => rfl) (by kernel_rfl) rfl ?_
  refine SCode.seqR ?_
  refine SOps.assign rfl ?_
  refine SOps.nil ?_
  refine SCode.seq ?_
  refine SCode.seqR ?_
  refine SOps.move rfl ?_
  refine SOps.callP (aIndices _) rfl ?_
  rintro _ rfl
  refine SOps.move rfl ?_
  refine SOps.lookupIM (idx a r) (fun i => DV.v (.int .i64 ((i : Nat) : Int))) rfl rfl mapB_89 (keys_enc _) zeroIs_3 (lookup_mapOf _ _) (fun y1 hy1 => ?_) (fun hy1 => ?_)
  · refine SOps.move rfl ?_
    refine SOps.extract rfl rfl ?_
    refine SOps.extract rfl rfl ?_
    refine SOps.assign rfl ?_
    refine SOps.assign rfl ?_
    refine SOps.nil ?_
    refine SCode.seqR ?_
    refine SOps.move rfl ?_
    refine SOps.nil ?_
    refine SCode.cond rfl (fun _ => ?_) (fun h => by cases h)
    refine SCode.seqR ?_
    refine SOps.move rfl ?_
    refine SOps.assign rfl ?_
    refine SOps.nil ?_
    refine SCode.ret ?_
    exact ⟨_, Res.one (.tmp rfl), by rw [idxI_some hy1]; rfl, rfl⟩
  · refine SOps.move rfl ?_
    refine SOps.extract rfl rfl ?_
    refine SOps.extract rfl rfl ?_
    refine SOps.assign rfl ?_
    refine SOps.assign rfl ?_
    refine SOps.nil ?_
    refine SCode.seqR ?_
    refine SOps.move rfl ?_
    refine SOps.nil ?_
    refine SCode.cond rfl (fun h => by cases h) (fun _ => ?_)
    refine SCode.skip ?_
    show SCode _ _ _ _
    refine SCode.seqR ?_
    refine SOps.assign rfl ?_
    refine SOps.nil ?_
    refine SCode.ret ?_
    exact ⟨_, Res.one (.tmp rfl), by rw [idxI_none hy1], rfl⟩
theorem aValid (a : List Letter)  : GCall Tryd.prog E 31 [DLs a] [] (fun d H => d = .v (.bool (validA a)) ∧ H = []) := by
  refine GCall.body (C := ⟨Tryd.prog, E, true⟩) Tryd.func31 rfl (fun _ => rfl) (by kernel_rfl) rfl ?_
  refine SCode.seqR ?_
  refine SOps.assign rfl ?_
  refine SOps.nil ?_
  refine SCode.seq ?_
  refine SCode.seqR ?_
  refine SOps.move rfl ?_
  refine SOps.lenM rfl sliceB_22_28_2 ?_
  refine SOps.bin rfl rfl rfl ?_
  refine SOps.move rfl ?_
  refine SOps.caseB 8 rfl (fun hb1 => ?_) (fun hb1 => ?_)
  · try simp only [nmL] at hb1
    refine SOps.skip rfl ?_
    refine SOps.skip rfl ?_
    refine SOps.skip rfl ?_
    refine SOps.pick rfl rfl ?_
    refine SOps.nil ?_
    refine SCode.cond rfl (fun _ => ?_) (fun h => by cases h)
    refine SCode.seqR ?_
    refine SOps.assign rfl ?_
    refine SOps.nil ?_
    refine SCode.ret ?_
    exact ⟨_, Res.one (.tmp rfl), congrArg (fun b => DV.v (.bool b)) (Bool.eq_false_iff.2 (fun h => by have := (validA_iff.1 h).1; omega)).symm, rfl⟩
  · try simp only [nmL] at hb1
    refine SOps.move rfl ?_
    refine SOps.lenM rfl sliceB_22_28_2 ?_
    refine SOps.bin rfl rfl rfl ?_
    refine SOps.pick rfl rfl ?_
    refine SOps.nil ?_
    refine SCode.cond rfl (fun hc2 => ?_) (fun hc2 => ?_)
    · try simp only [nmL] at hc2
      refine SCode.seqR ?_
      refine SOps.assign rfl ?_
      refine SOps.nil ?_
      refine SCode.ret ?_
      exact ⟨_, Res.one (.tmp rfl), congrArg (fun b => DV.v (.bool b)) (Bool.eq_false_iff.2 (fun h => by have := (validA_iff.1 h).1; omega)).symm, rfl⟩
    · try simp only [nmL] at hc2
      refine SCode.skip ?_
      show SCode _ _ _ _
      refine SCode.seq ?_
      refine SCode.seqR ?_
      refine SOps.move rfl ?_
      refine SOps.lenM rfl sliceB_22_28_2 ?_
      refine SOps.move rfl ?_
      refine SOps.nil ?_
      refine SCode.block ?_
      refine SCode.loop1 (fun (i : Nat) => (⟨35, [(0, DLs a), (2, .v (.bool false)), (13, DLs a), (14, .v (.int .i64 (a.length : Int))), (15, .v (.int .i64 (i : Int)))], []⟩ : St)) (fun (i : Nat) => i ≤ a.length ∧ ∀ l ∈ a.take i, goodR l.rune = true) (fun (i : Nat) => a.length - i) (0) (by simp) (St.Le.of ⟨(by first | rfl | (show some _ = some _; simp)), (by first | rfl | (show some _ = some _; simp)), (by first | rfl | (show some _ = some _; simp)), (by first | rfl | (show some _ = some _; simp)), (by first | rfl | (show some _ = some _; simp)), trivial⟩ rfl (by first | rfl | (simp))) ?_
      rintro i ⟨hi, hf⟩
      refine SCode.fact (isl_len (t := 0) rfl) (fun hB => ?_)
      simp only [List.length_map, lenB] at hB
      refine SCode.seqR ?_
      refine SOps.bin rfl rfl rfl ?_
      refine SOps.nil ?_
      refine SCode.seq ?_
      refine SCode.cond rfl (fun hc3 => ?_) (fun hc3 => ?_)
      · try simp only [nmL] at hc3
        refine SCode.skip ?_
        show SCode _ _ _ _
        refine SCode.seq ?_
        refine SCode.block ?_
        refine SCode.seqR ?_
        refine SOps.indexM (i) rfl rfl sliceB_22_28_2 (by first | omega | (simp only [List.length_map, lenB]; exact Nat.le_trans (mapOf_len a) (by omega))) (by first | omega | (simp only [List.length_map, lenB]; exact Nat.le_trans (mapOf_len a) (by omega))) ?_
        refine SOps.loadPinA rfl aggB_28_2 (Nat.le_of_ble_eq_true rfl) ?_
        refine SOps.alloc (sz := 2) zeroIs_28 (fun b0 hb_0 => ?_)
        refine SOps.storeAM 0 rfl rfl aggB_28_2 rfl ?_
        refine SOps.freezeRef (t := 4) 0 0 rfl rfl rfl rfl rfl ?_
        refine SOps.nil ?_
        refine SCode.seqR ?_
        refine SOps.fieldPin rfl fieldB_28_0_0 ?_
        refine SOps.loadPin rfl flatB_21 ?_
        refine SOps.bin rfl rfl rfl ?_
        refine SOps.move rfl ?_
        refine SOps.caseB 22 rfl (fun hb4 => ?_) (fun hb4 => ?_)
        · try simp only [nmL] at hb4
          refine SOps.skip rfl ?_
          refine SOps.skip rfl ?_
          refine SOps.skip rfl ?_
          refine SOps.skip rfl ?_
          refine SOps.pick rfl rfl ?_
          refine SOps.nil ?_
          refine SCode.cond rfl (fun _ => ?_) (fun h => by cases h)
          refine SCode.seqR ?_
          refine SOps.assign rfl ?_
          refine SOps.nil ?_
          refine SCode.ret ?_
          exact ⟨_, Res.one (.tmp rfl), congrArg (fun b => DV.v (.bool b)) (Bool.eq_false_iff.2 (fun h => by have := goodR_split.1 ((validA_iff.1 h).2.1 _ (List.getElem_mem (show i < a.length by omega))); omega)).symm, rfl⟩
        · try simp only [nmL] at hb4
          refine SOps.fieldPin rfl fieldB_28_0_0 ?_
          refine SOps.loadPin rfl flatB_21 ?_
          refine SOps.callP (uValidRune _) rfl ?_
          rintro _ rfl
          refine SOps.un rfl rfl ?_
          refine SOps.pick rfl rfl ?_
          refine SOps.nil ?_
          refine SCode.cond rfl (fun hc5 => ?_) (fun hc5 => ?_)
          · try simp only [nmL] at hc5
            refine SCode.seqR ?_
            refine SOps.assign rfl ?_
            refine SOps.nil ?_
            refine SCode.ret ?_
            exact ⟨_, Res.one (.tmp rfl), congrArg (fun b => DV.v (.bool b)) (Bool.eq_false_iff.2 (fun h => by have := goodR_split.1 ((validA_iff.1 h).2.1 _ (List.getElem_mem (show i < a.length by omega))); rw [this.2] at hc5; cases hc5)).symm, rfl⟩
          · try simp only [nmL] at hc5
            refine SCode.skip ?_
            show SCode _ _ _ _
            refine SCode.region ?_
            refine SOps.addI rfl rfl (by first | omega | (simp only [List.length_map, lenB]; exact Nat.le_trans (mapOf_len a) (by omega))) (by first | omega | (simp only [List.length_map, lenB]; exact Nat.le_trans (mapOf_len a) (by omega))) ?_
            refine SOps.move rfl ?_
            refine SOps.nil ?_
            exact ⟨i + 1, by exact ⟨by omega, take_more hf (by omega) (goodR_split.2 ⟨hb4, hc5⟩)⟩, by omega, (St.Le.of ⟨(by first | rfl | (show some _ = some _; simp)), (by first | rfl | (show some _ = some _; simp)), (by first | rfl | (show some _ = some _; simp)), (by first | rfl | (show some _ = some _; simp)), (by first | rfl | (show some _ = some _; simp)), trivial⟩ rfl (by first | rfl | (simp)))⟩
      · try simp only [nmL] at hc3
        refine SCode.exit ?_
        show SCode _ _ _ _
        refine SCode.seqR ?_
        refine SOps.move rfl ?_
        refine SOps.callP (aIndices _) rfl ?_
        rintro _ rfl
        refine SOps.lenMapI rfl mapB_89 (by first | omega | (simp only [List.length_map, lenB]; exact Nat.le_trans (mapOf_len a) (by omega))) ?_
        refine SOps.move rfl ?_
        refine SOps.lenM rfl sliceB_22_28_2 ?_
        refine SOps.bin rfl rfl rfl ?_
        refine SOps.assign rfl ?_
        refine SOps.nil ?_
        refine SCode.ret ?_
        exact ⟨_, Res.one (.tmp rfl), congrArg (fun b => DV.v (.bool b)) (Eq.symm (by rw [Bool.eq_iff_iff, validA_iff']; simp only [beq_iff_eq, List.length_map]; exact ⟨fun h => by have := h.2.2; omega, fun h => ⟨⟨by omega, by omega⟩, all_of (by omega) hf, by omega⟩⟩)), rfl⟩
theorem aIsWord (hV : VS E) (a : List Letter) (s : ByteArray)  : GCall Tryd.prog E 67 [DLs a, .v (.string s)] [] (fun d H => d = .v (.bool (isWordA a s)) ∧ H = []) := by
  refine GCall.body (C := ⟨Tryd.prog, E, true⟩) Tryd.func67 rfl (fun _ => rfl) (by kernel_rfl) rfl ?_
  refine SCode.seqR ?_
  refine SOps.assign rfl ?_
  refine SOps.nil ?_
  refine SCode.seq ?_
  refine SCode.seqR ?_
  refine SOps.move rfl ?_
  refine SOps.callP (hV _) rfl ?_
  rintro _ rfl
  refine SOps.un rfl rfl ?_
  refine SOps.nil ?_
  refine SCode.cond rfl (fun hc1 => ?_) (fun hc1 => ?_)
  · try simp only [nmL] at hc1
    refine SCode.seqR ?_
    refine SOps.assign rfl ?_
    refine SOps.nil ?_
    refine SCode.ret ?_
    exact ⟨_, Res.one (.tmp rfl), congrArg (fun b => DV.v (.bool b)) (Eq.symm (by rw [isWordA, overA, hc1]; rfl)), rfl⟩
  · try simp only [nmL] at hc1
    refine SCode.skip ?_
    show SCode _ _ _ _
    refine SCode.seqR ?_
    refine SOps.move rfl ?_
    refine SOps.callP (aIndices _) rfl ?_
    rintro _ rfl
    refine SOps.assign rfl ?_
    refine SOps.assign rfl ?_
    refine SOps.nil ?_
    refine SCode.seq ?_
    refine SCode.seqR ?_
    refine SOps.move rfl ?_
    refine SOps.rangeStr rfl strB_9 (fun b0 hb_0 => ?_)
    refine SOps.nil ?_
    refine SCode.block ?_
    refine SCode.loop3 (fun (p : Nat) (n : Nat) (b : Nat) => (⟨33, [(1, .v (.string s)), (4, .v (.bool false)), (5, DMap a), (6, .v (.int .i64 (n : Int))), (17, .it b)], [(b, .iter s p)]⟩ : St)) (fun (p : Nat) (n : Nat) (b : Nat) => n ≤ p ∧ n + (runesAt s p).length = (runes s).length ∧ (runesAt s p).all (fun r => (idx a r).isSome) = (runes s).all (fun r => (idx a r).isSome)) (fun (p : Nat) (n : Nat) (b : Nat) => s.size - p) (0) (0) (b0) (by exact ⟨Nat.le_refl _, by rw [Nat.zero_add]; rfl, rfl⟩) (St.Le.of ⟨(by first | rfl | (show some _ = some _; simp)), (by first | rfl | (show some _ = some _; simp)), (by first | rfl | (show some _ = some _; simp)), (by first | rfl | (show some _ = some _; simp)), (by first | rfl | (show some _ = some _; simp)), trivial⟩ rfl (by first | rfl | (simp))) ?_
    rintro p n b ⟨hn, hl, hf⟩
    refine SCode.fact (v_scal (t := 1) rfl) (fun hS => ?_)
    simp only [scal, lenB] at hS
    refine SCode.seqR ?_
    refine SOps.next 0 rfl rfl (fun hn2 => ?_) (fun hn2 => ?_) (by first | omega | (simp only [lenB]; omega))
    · refine SOps.extract rfl rfl ?_
      refine SOps.nil ?_
      refine SCode.seq ?_
      refine SCode.cond rfl (fun _ => ?_) (fun h => by cases h)
      refine SCode.skip ?_
      show SCode _ _ _ _
      refine SCode.block ?_
      refine SCode.seqR ?_
      refine SOps.extract rfl rfl ?_
      refine SOps.assign rfl ?_
      refine SOps.nil ?_
      refine SCode.seq ?_
      refine SCode.seqR ?_
      refine SOps.move rfl ?_
      refine SOps.move rfl ?_
      refine SOps.lookupIM (idx a ((Utf8.decode s p).1 : Int)) (fun i => DV.v (.int .i64 ((i : Nat) : Int))) rfl rfl mapB_89 (keys_enc _) zeroIs_3 (lookup_mapOf _ _) (fun y3 hy3 => ?_) (fun hy3 => ?_)
      · refine SOps.move rfl ?_
        refine SOps.extract rfl rfl ?_
        refine SOps.extract rfl rfl ?_
        refine SOps.assign rfl ?_
        refine SOps.assign rfl ?_
        refine SOps.nil ?_
        refine SCode.seqR ?_
        refine SOps.move rfl ?_
        refine SOps.un rfl rfl ?_
        refine SOps.nil ?_
        refine SCode.cond rfl (fun h => by cases h) (fun _ => ?_)
        refine SCode.skip ?_
        show SCode _ _ _ _
        refine SCode.region ?_
        refine SOps.move rfl ?_
        refine SOps.addI rfl rfl (by first | omega | (simp only [lenB]; omega)) (by first | omega | (simp only [lenB]; omega)) ?_
        refine SOps.assign rfl ?_
        refine SOps.nil ?_
        exact ⟨p + (Utf8.decode s p).2, n + 1, b, by refine ⟨by have := decode_w s p; omega, by rw [← hl, runes_len_step hn2]; omega, ?_⟩; rw [← hf, runes_step hn2, hy3]; rfl, by have := decode_w s p; omega, (St.Le.of ⟨(by first | rfl | (show some _ = some _; simp)), (by first | rfl | (show some _ = some _; simp)), (by first | rfl | (show some _ = some _; simp)), (by first | rfl | (show some _ = some _; simp)), (by first | rfl | (show some _ = some _; simp)), trivial⟩ rfl (by first | rfl | (simp)))⟩
      · refine SOps.move rfl ?_
        refine SOps.extract rfl rfl ?_
        refine SOps.extract rfl rfl ?_
        refine SOps.assign rfl ?_
        refine SOps.assign rfl ?_
        refine SOps.nil ?_
        refine SCode.seqR ?_
        refine SOps.move rfl ?_
        refine SOps.un rfl rfl ?_
        refine SOps.nil ?_
        refine SCode.cond rfl (fun _ => ?_) (fun h => by cases h)
        refine SCode.seqR ?_
        refine SOps.assign rfl ?_
        refine SOps.nil ?_
        refine SCode.drop ?_
        refine SCode.ret ?_
        exact ⟨_, Res.one (.tmp rfl), congrArg (fun b => DV.v (.bool b)) (Eq.symm (by rw [isWordA, overA, ← hf, runes_step hn2, hy3]; simp)), rfl⟩
    · refine SOps.extract rfl rfl ?_
      refine SOps.nil ?_
      refine SCode.seq ?_
      refine SCode.cond rfl (fun h => by cases h) (fun _ => ?_)
      refine SCode.exit ?_
      show SCode _ _ _ _
      refine SCode.seqR ?_
      refine SOps.move rfl ?_
      refine SOps.bin rfl rfl rfl ?_
      refine SOps.assign rfl ?_
      refine SOps.nil ?_
      refine SCode.drop ?_
      refine SCode.ret ?_
      exact ⟨_, Res.one (.tmp rfl), congrArg (fun b => DV.v (.bool b)) (Eq.symm (by rw [isWordA, overA, hc1, ← hf, ← hl, runesAt_ge hn2]; rw [Bool.eq_iff_iff]; simp; omega)), rfl⟩
theorem indexByte_any : ∀ l : List UInt8, decide (0 ≤ Lib.indexByte l 61) = l.any (fun b => b == 61)
  | [] => rfl
  | b :: l => by
    have ih := indexByte_any l
    have hg := Lib.indexByte_ge l 61
    rw [Lib.indexByte, List.any_cons]
    cases hb : (b == 61) with
    | true => rfl
    | false =>
      rw [Bool.false_or, ← ih, if_neg (by simp)]
      split
      · rename_i h; rw [beq_iff_eq] at h; simp [h]
      · rename_i h
        have h2 : Lib.indexByte l 61 ≠ -1 := fun e => h (by rw [e]; rfl)
        rw [decide_eq_true (by omega), decide_eq_true (by omega)]
theorem indexByte_le : ∀ l : List UInt8, Lib.indexByte l 61 ≤ l.length
  | [] => by decide
  | b :: l => by
    have ih := indexByte_le l
    have hg := Lib.indexByte_ge l 61
    rw [Lib.indexByte, List.length_cons]
    split
    · omega
    · split <;> omega
theorem args2 {w : World} {F : Nat → Prop} {vs : Array Value} {x y : Value} (hl : vs.size = 2) (hr : ∀ (j : Nat) (v : Value) (d : DV), vs[j]? = some v → [DV.v x, DV.v y][j]? = some d → Rep w F v d) : vs = #[x, y] := by
  have h0 := hr 0 vs[0] (.v x) (Array.getElem?_eq_getElem (by omega)) rfl
  have h1 := hr 1 vs[1] (.v y) (Array.getElem?_eq_getElem (by omega)) rfl
  apply Array.ext
  · simpa using hl
  · intro i h2 h3
    rcases (show i = 0 ∨ i = 1 by omega) with rfl | rfl
    · exact h0.inv_v.1
    · exact h1.inv_v.1
theorem sByte (s : ByteArray) (hs : s.size ≤ 1048576) : GCall Tryd.prog E 33 [.v (.string s), .v (.int .u8 61)] [] (fun d H => (∃ n : Int, d = .v (.int .i64 n) ∧ decide (0 ≤ n) = hasEq s) ∧ H = []) :=
  GCall.mono (GCall.ofCalls (x := .int .i64 (Lib.indexByte s.data.toList 61)) (by kernel_rfl) (has_i64 (by have := Lib.indexByte_ge s.data.toList 61; omega) (by have := indexByte_le s.data.toList; have : s.data.toList.length = s.size := (by simp); omega)) (fun w F vs hE hl hr => by
    obtain rfl := args2 hl hr
    have := Any.strings_IndexByte (P := Tryd.prog) (ρ := Tryd.laysByte_ren) Tryd.laysByte s 61 w
    exact this.mono fun e w' ⟨h1, h2⟩ => ⟨h1, h2 ▸ RowKit.Below.refl _ _⟩)) (fun d H h => ⟨⟨_, h.1, indexByte_any _⟩, h.2⟩)
theorem zeroBld : zeroIs Tryd.prog 100 (.agg #[.pointer none, .slice none 0 0]) := by unfold zeroIs; kernel_rfl
theorem sLClone (a : List Letter) (ha : a.length ≤ 1000000) : GCall Tryd.prog E 30 [DLs a] [] (fun d H => (d = .v (.slice none 0 0) ∧ H = [] ∧ a = []) ∨ ∃ b, d = .sl b 2 0 a.length ∧ H = [(b, .row 28 2 (a.map encL))]) := by
  refine GCall.body (C := ⟨Tryd.prog, E, true⟩) Tryd.func30 rfl (fun _ => rfl) (by kernel_rfl) rfl ?_
  refine SCode.seqR ?_
  refine SOps.assign rfl ?_
  refine SOps.nil ?_
  refine SCode.seq ?_
  refine SCode.seqR ?_
  refine SOps.move rfl ?_
  refine SOps.eqNilS Tryd.underlying22 rfl rfl (fun c0 hz0 => ?_)
  refine SOps.nil ?_
  refine SCode.cond rfl (fun hc1 => ?_) (fun hc1 => ?_)
  · try simp only [nmL] at hc1
    have ha0 : a = [] := List.map_eq_nil_iff.1 (hz0 hc1)
    refine SCode.seqR ?_
    refine SOps.assign rfl ?_
    refine SOps.nil ?_
    refine SCode.ret ?_
    exact ⟨_, Res.one (.tmp rfl), .inl ⟨rfl, rfl, ha0⟩⟩
  · try simp only [nmL] at hc1
    refine SCode.skip ?_
    show SCode _ _ _ _
    refine SCode.seqR ?_
    refine SOps.litO sliceB_22_28_2 zeroIs_28 rfl (fun b1 hb_1 => ?_)
    refine SOps.move rfl ?_
    refine SOps.appendOwnE 0 sliceB_22_28_2 elemB_28_2_8 rfl rfl rfl (by simp) SrcD.isl (by simp [lenB]; omega) (by simp; omega) (fun bC => ?_)
    refine SOps.assign rfl ?_
    refine SOps.nil ?_
    refine SCode.ret ?_
    exact ⟨_, Res.one (.tmp rfl), .inr ⟨bC, by simp, rfl⟩⟩
theorem cExtended (a : List Letter) (ha : a.length ≤ 1000000) : GCall Tryd.prog E 12 [DLs a] [] (fun d H => d = DLs (extA a) ∧ H = []) := by
  refine GCall.body (C := ⟨Tryd.prog, E, true⟩) Tryd.func12 rfl (fun _ => rfl) (by kernel_rfl) rfl ?_
  refine SCode.seqR ?_
  refine SOps.assign rfl ?_
  refine SOps.nil ?_
  refine SCode.seqR ?_
  refine SOps.move rfl ?_
  refine SOps.callH [] [] [] (sLClone a ha) rfl rfl (fun d H hR => ?_)
  rcases hR with ⟨rfl, rfl, rfl⟩ | ⟨bk, rfl, rfl⟩
  · refine SOps.buildM placesB_28 zeroIs_28 rfl rfl ?_
    refine SOps.litF rfl sliceB_22_28_2 zeroIs_28 rfl ?_
    refine SOps.appendNil sliceB_22_28_2 elemB_28_2_8 rfl rfl SrcD.isl (by simp) (by simp [lenB]) (by simp) (fun bA _ => ?_)
    refine SOps.freezeS (t := 7) 0 rfl rfl rfl (by simp) ?_
    refine SOps.assign rfl ?_
    refine SOps.nil ?_
    refine SCode.ret ?_
    exact ⟨_, Res.one (.tmp rfl), by first | rfl | (show DV.isl false 2 (a.map encL ++ [encL eqL]) = DV.isl false 2 ((a ++ [eqL]).map encL); rw [List.map_append]; rfl), rfl⟩
  · refine SOps.buildM placesB_28 zeroIs_28 rfl rfl ?_
    refine SOps.litF rfl sliceB_22_28_2 zeroIs_28 rfl ?_
    refine SOps.appendOwn 0 sliceB_22_28_2 elemB_28_2_8 rfl rfl rfl (by simp) SrcD.isl (by simp) (by simp [lenB]; omega) (by simp; omega) (fun bA _ => ?_)
    refine SOps.freezeS (t := 7) 0 rfl rfl rfl (by simp) ?_
    refine SOps.assign rfl ?_
    refine SOps.nil ?_
    refine SCode.ret ?_
    exact ⟨_, Res.one (.tmp rfl), by first | rfl | (show DV.isl false 2 (a.map encL ++ [encL eqL]) = DV.isl false 2 ((a ++ [eqL]).map encL); rw [List.map_append]; rfl), rfl⟩
end Go.GH
namespace Go.GH
open Go Go.Proofs
variable {E : Env}
theorem fieldB_65_0_0 : fieldB Tryd.prog 65 0 0 = true := by kernel_rfl
theorem fieldB_65_1_1 : fieldB Tryd.prog 65 1 1 = true := by kernel_rfl
theorem flatB_22 : flatB Tryd.prog 22 = true := by kernel_rfl
theorem flatB_23 : flatB Tryd.prog 23 = true := by kernel_rfl
theorem casc_word {x : List Letter} {l : List Rule} {s : ByteArray} (h : (cascX (traceR x l s)).2 = 0) : (runes (cascX (traceR x l s)).1).length ≤ 40 ∧ utf8R (cascX (traceR x l s)).1 = true := by
  have := (casc_filter (p := fun _ => false) (fun r _ => ⟨fun _ => rfl, fun _ _ => rfl⟩) h).2
  rw [consS_eq, Bool.and_eq_true, Bool.and_eq_true, decide_eq_true_eq] at this
  exact ⟨this.1.2, this.1.1⟩
theorem encs_size4 : ∀ rs : List Int, (encs rs).size ≤ 4 * rs.length
  | [] => Nat.le_refl _
  | r :: rs => by
    have h1 := encs_size4 rs
    have h2 := encode_size r
    rw [show encs (r :: rs) = Utf8.encode r ++ encs rs from rfl, ByteArray.size_append, List.length_cons]
    omega
theorem utf8_size {s : ByteArray} (h : utf8R s = true) : s.size ≤ 4 * (runes s).length := by
  have := encs_size4 (runes s)
  rwa [encs_runes h] at this
theorem ba_list (s : ByteArray) : (⟨s.data.toList.toArray⟩ : ByteArray) = s := by cases s; simp
theorem cValid (hV : VS E) (a : List Letter) (l : List Rule) (hr : ∀ r ∈ l, SmR r) : GCall Tryd.prog E 13 [DLs a, DRs l] [] (fun d H => d = .v (.bool (validS a l)) ∧ H = []) := by
  refine GCall.body (C := ⟨Tryd.prog, E, true⟩) Tryd.func13 rfl (fun _ => rfl) (by kernel_rfl) rfl ?_
  refine SCode.seqR ?_
  refine SOps.assign rfl ?_
  refine SOps.nil ?_
  refine SCode.seq ?_
  refine SCode.seqR ?_
  refine SOps.move rfl ?_
  refine SOps.callP (aValid _) rfl ?_
  rintro _ rfl
  refine SOps.un rfl rfl ?_
  refine SOps.move rfl ?_
  refine SOps.caseB 11 rfl (fun hb1 => ?_) (fun hb1 => ?_)
  · try simp only [nmL] at hb1
    refine SOps.skip rfl ?_
    refine SOps.skip rfl ?_
    refine SOps.skip rfl ?_
    refine SOps.pick rfl rfl ?_
    refine SOps.move rfl ?_
    refine SOps.skip rfl ?_
    refine SOps.skip rfl ?_
    refine SOps.skip rfl ?_
    refine SOps.pick rfl rfl ?_
    refine SOps.nil ?_
    refine SCode.cond rfl (fun _ => ?_) (fun h => by cases h)
    refine SCode.seqR ?_
    refine SOps.assign rfl ?_
    refine SOps.nil ?_
    refine SCode.ret ?_
    exact ⟨_, Res.one (.tmp rfl), congrArg (fun b => DV.v (.bool b)) (Eq.symm (Bool.eq_false_iff.2 (fun h => by obtain ⟨v1, v2, v3, v4⟩ := validS_iff.1 h; have v5 := idxI_none v2; first | omega | simp_all))), rfl⟩
  · try simp only [nmL] at hb1
    refine SOps.move rfl ?_
    refine SOps.callP (aIndex _ _) rfl ?_
    rintro _ rfl
    refine SOps.bin rfl rfl rfl ?_
    refine SOps.pick rfl rfl ?_
    refine SOps.move rfl ?_
    refine SOps.caseB 16 rfl (fun hb2 => ?_) (fun hb2 => ?_)
    · try simp only [nmL] at hb2
      refine SOps.skip rfl ?_
      refine SOps.skip rfl ?_
      refine SOps.skip rfl ?_
      refine SOps.pick rfl rfl ?_
      refine SOps.nil ?_
      refine SCode.cond rfl (fun _ => ?_) (fun h => by cases h)
      refine SCode.seqR ?_
      refine SOps.assign rfl ?_
      refine SOps.nil ?_
      refine SCode.ret ?_
      exact ⟨_, Res.one (.tmp rfl), congrArg (fun b => DV.v (.bool b)) (Eq.symm (Bool.eq_false_iff.2 (fun h => by obtain ⟨v1, v2, v3, v4⟩ := validS_iff.1 h; have v5 := idxI_none v2; first | omega | simp_all))), rfl⟩
    · try simp only [nmL] at hb2
      refine SOps.move rfl ?_
      refine SOps.lenM rfl sliceB_23_47_6 ?_
      refine SOps.bin rfl rfl rfl ?_
      refine SOps.pick rfl rfl ?_
      refine SOps.nil ?_
      refine SCode.cond rfl (fun hc3 => ?_) (fun hc3 => ?_)
      · try simp only [nmL] at hc3
        refine SCode.seqR ?_
        refine SOps.assign rfl ?_
        refine SOps.nil ?_
        refine SCode.ret ?_
        exact ⟨_, Res.one (.tmp rfl), congrArg (fun b => DV.v (.bool b)) (Eq.symm (Bool.eq_false_iff.2 (fun h => by obtain ⟨v1, v2, v3, v4⟩ := validS_iff.1 h; have v5 := idxI_none v2; first | omega | simp_all))), rfl⟩
      · try simp only [nmL] at hc3
        refine SCode.skip ?_
        show SCode _ _ _ _
        refine SCode.seqR ?_
        have hal : a.length ≤ 64 := by have := validA_iff.1 (show validA a = true by simp_all); omega
        refine SOps.move rfl ?_
        refine SOps.callP (cExtended _ (by omega)) rfl ?_
        rintro _ rfl
        refine SOps.assign rfl ?_
        refine SOps.nil ?_
        refine SCode.seq ?_
        refine SCode.seqR ?_
        refine SOps.move rfl ?_
        refine SOps.lenM rfl sliceB_23_47_6 ?_
        refine SOps.move rfl ?_
        refine SOps.nil ?_
        refine SCode.block ?_
        refine SCode.loop1 (fun (i : Nat) => (⟨45, [(5, DLs (extA a)), (23, DRs l), (24, .v (.int .i64 ((l.length : Nat) : Int))), (25, .v (.int .i64 (i : Int)))], []⟩ : St)) (fun (i : Nat) => i ≤ l.length ∧ ∀ r ∈ l.take i, r.fr ≠ 61 ∧ hasEq r.«to» = false ∧ validR (extA a) r = true) (fun (i : Nat) => l.length - i) (0) (by simp) (St.Le.of ⟨(by first | rfl | (show some _ = some _; simp)), (by first | rfl | (show some _ = some _; simp)), (by first | rfl | (show some _ = some _; simp)), (by first | rfl | (show some _ = some _; simp)), trivial⟩ rfl (by first | rfl | (simp))) ?_
        rintro i ⟨hi, hf⟩
        refine SCode.seqR ?_
        refine SOps.bin rfl rfl rfl ?_
        refine SOps.nil ?_
        refine SCode.seq ?_
        refine SCode.cond rfl (fun hc4 => ?_) (fun hc4 => ?_)
        · try simp only [nmL] at hc4
          refine SCode.skip ?_
          show SCode _ _ _ _
          refine SCode.seq ?_
          refine SCode.block ?_
          refine SCode.seqR ?_
          have hri := hr _ (List.getElem_mem (show i < l.length by omega))
          refine SOps.indexM (i) rfl rfl sliceB_23_47_6 (by first | omega | (simp only [lenB]; omega)) (by first | omega | (simp only [lenB]; omega)) ?_
          refine SOps.loadPinA rfl aggB_47_6 (Nat.le_of_ble_eq_true rfl) ?_
          refine SOps.alloc (sz := 6) zeroIs_47 (fun b0 hb_0 => ?_)
          refine SOps.storeAM 0 rfl rfl aggB_47_6 rfl ?_
          refine SOps.freezeRef (t := 7) 0 0 rfl rfl rfl rfl rfl ?_
          refine SOps.nil ?_
          refine SCode.seqR ?_
          refine SOps.fieldPin rfl fieldB_47_0_0 ?_
          refine SOps.loadPin rfl flatB_21 ?_
          refine SOps.bin rfl rfl rfl ?_
          refine SOps.move rfl ?_
          refine SOps.caseB 32 rfl (fun hb5 => ?_) (fun hb5 => ?_)
          · try simp only [nmL] at hb5
            refine SOps.skip rfl ?_
            refine SOps.skip rfl ?_
            refine SOps.skip rfl ?_
            refine SOps.skip rfl ?_
            refine SOps.pick rfl rfl ?_
            refine SOps.move rfl ?_
            refine SOps.skip rfl ?_
            refine SOps.skip rfl ?_
            refine SOps.skip rfl ?_
            refine SOps.skip rfl ?_
            refine SOps.pick rfl rfl ?_
            refine SOps.nil ?_
            refine SCode.cond rfl (fun _ => ?_) (fun h => by cases h)
            refine SCode.seqR ?_
            refine SOps.assign rfl ?_
            refine SOps.nil ?_
            refine SCode.ret ?_
            exact ⟨_, Res.one (.tmp rfl), congrArg (fun b => DV.v (.bool b)) (Eq.symm (Bool.eq_false_iff.2 (fun h => by obtain ⟨v1, v2, v3, v4⟩ := validS_iff.1 h; obtain ⟨v5, v6, v7⟩ := v4 _ (List.getElem_mem (show i < l.length by omega)); simp_all))), rfl⟩
          · try simp only [nmL] at hb5
            refine SOps.fieldPin rfl fieldB_47_1_1 ?_
            refine SOps.loadPin rfl flatB_9 ?_
            refine SOps.callP (sByte _ hri.1) rfl ?_
            rintro _ ⟨n9, rfl, hn9⟩
            refine SOps.bin rfl rfl rfl ?_
            refine SOps.reSlot (t := 36) rfl (show _ = DV.v (.bool (hasEq (l[i]).«to»)) from congrArg (fun b => DV.v (.bool b)) (hn9)) ?_
            refine SOps.pick rfl rfl ?_
            refine SOps.move rfl ?_
            refine SOps.caseB 38 rfl (fun hb6 => ?_) (fun hb6 => ?_)
            · try simp only [nmL] at hb6
              refine SOps.skip rfl ?_
              refine SOps.skip rfl ?_
              refine SOps.skip rfl ?_
              refine SOps.skip rfl ?_
              refine SOps.pick rfl rfl ?_
              refine SOps.nil ?_
              refine SCode.cond rfl (fun _ => ?_) (fun h => by cases h)
              refine SCode.seqR ?_
              refine SOps.assign rfl ?_
              refine SOps.nil ?_
              refine SCode.ret ?_
              exact ⟨_, Res.one (.tmp rfl), congrArg (fun b => DV.v (.bool b)) (Eq.symm (Bool.eq_false_iff.2 (fun h => by obtain ⟨v1, v2, v3, v4⟩ := validS_iff.1 h; obtain ⟨v5, v6, v7⟩ := v4 _ (List.getElem_mem (show i < l.length by omega)); simp_all))), rfl⟩
            · try simp only [nmL] at hb6
              refine SOps.move rfl ?_
              refine SOps.loadPinA rfl aggB_47_6 (Nat.le_of_ble_eq_true rfl) ?_
              refine SOps.callP (rValid hV _ _ hri) rfl ?_
              rintro _ rfl
              refine SOps.un rfl rfl ?_
              refine SOps.pick rfl rfl ?_
              refine SOps.nil ?_
              refine SCode.cond rfl (fun hc7 => ?_) (fun hc7 => ?_)
              · try simp only [nmL] at hc7
                refine SCode.seqR ?_
                refine SOps.assign rfl ?_
                refine SOps.nil ?_
                refine SCode.ret ?_
                exact ⟨_, Res.one (.tmp rfl), congrArg (fun b => DV.v (.bool b)) (Eq.symm (Bool.eq_false_iff.2 (fun h => by obtain ⟨v1, v2, v3, v4⟩ := validS_iff.1 h; obtain ⟨v5, v6, v7⟩ := v4 _ (List.getElem_mem (show i < l.length by omega)); simp_all))), rfl⟩
              · try simp only [nmL] at hc7
                refine SCode.skip ?_
                show SCode _ _ _ _
                refine SCode.region ?_
                refine SOps.addI rfl rfl (by first | omega | (simp only [lenB]; omega)) (by first | omega | (simp only [lenB]; omega)) ?_
                refine SOps.move rfl ?_
                refine SOps.nil ?_
                exact ⟨i + 1, by exact ⟨by omega, take_more hf (by omega) ⟨by simp_all, by simp_all, by simp_all⟩⟩, by omega, (St.Le.of ⟨(by first | rfl | (show some _ = some _; simp)), (by first | rfl | (show some _ = some _; simp)), (by first | rfl | (show some _ = some _; simp)), (by first | rfl | (show some _ = some _; simp)), trivial⟩ rfl (by first | rfl | (simp)))⟩
        · try simp only [nmL] at hc4
          refine SCode.exit ?_
          show SCode _ _ _ _
          refine SCode.seqR ?_
          refine SOps.assign rfl ?_
          refine SOps.nil ?_
          refine SCode.ret ?_
          exact ⟨_, Res.one (.tmp rfl), congrArg (fun b => DV.v (.bool b)) (Eq.symm (validS_iff.2 ⟨by simp_all, by cases hx : idx a 61 with | none => rfl | some k => (have := idxI_some hx; omega), by omega, all_of (by omega) hf⟩)), rfl⟩
theorem cWords (hV : VS E) (a : List Letter) (l : List ByteArray)  : GCall Tryd.prog E 39 [DLs a, DStrs l] [] (fun d H => d = .v (.bool (l.all (isWordA a))) ∧ H = []) := by
  refine GCall.body (C := ⟨Tryd.prog, E, true⟩) Tryd.func39 rfl (fun _ => rfl) (by kernel_rfl) rfl ?_
  refine SCode.seqR ?_
  refine SOps.assign rfl ?_
  refine SOps.nil ?_
  refine SCode.seq ?_
  refine SCode.seqR ?_
  refine SOps.move rfl ?_
  refine SOps.lenM rfl sliceB_35_9_1 ?_
  refine SOps.move rfl ?_
  refine SOps.nil ?_
  refine SCode.block ?_
  refine SCode.loop1 (fun (i : Nat) => (⟨18, [(0, DLs a), (7, DStrs l), (8, .v (.int .i64 ((l.length : Nat) : Int))), (9, .v (.int .i64 (i : Int)))], []⟩ : St)) (fun (i : Nat) => i ≤ l.length ∧ ∀ s ∈ l.take i, isWordA a s = true) (fun (i : Nat) => l.length - i) (0) (by simp) (St.Le.of ⟨(by first | rfl | (show some _ = some _; simp)), (by first | rfl | (show some _ = some _; simp)), (by first | rfl | (show some _ = some _; simp)), (by first | rfl | (show some _ = some _; simp)), trivial⟩ rfl (by first | rfl | (simp))) ?_
  rintro i ⟨hi, hf⟩
  refine SCode.fact (isl_len (t := 7) rfl) (fun hB => ?_)
  simp only [List.length_map, lenB] at hB
  refine SCode.seqR ?_
  refine SOps.bin rfl rfl rfl ?_
  refine SOps.nil ?_
  refine SCode.seq ?_
  refine SCode.cond rfl (fun hc1 => ?_) (fun hc1 => ?_)
  · try simp only [nmL] at hc1
    refine SCode.skip ?_
    show SCode _ _ _ _
    refine SCode.seq ?_
    refine SCode.block ?_
    refine SCode.seqR ?_
    refine SOps.indexM (i) rfl rfl sliceB_35_9_1 (by first | omega | (simp only [lenB]; omega)) (by first | omega | (simp only [lenB]; omega)) ?_
    refine SOps.loadPin rfl flatB_9 ?_
    refine SOps.assign rfl ?_
    refine SOps.nil ?_
    refine SCode.seqR ?_
    refine SOps.move rfl ?_
    refine SOps.move rfl ?_
    refine SOps.callP (aIsWord hV _ _) rfl ?_
    rintro _ rfl
    refine SOps.un rfl rfl ?_
    refine SOps.nil ?_
    refine SCode.cond rfl (fun hc2 => ?_) (fun hc2 => ?_)
    · try simp only [nmL] at hc2
      refine SCode.seqR ?_
      refine SOps.assign rfl ?_
      refine SOps.nil ?_
      refine SCode.ret ?_
      exact ⟨_, Res.one (.tmp rfl), congrArg (fun b => DV.v (.bool b)) (Eq.symm (Bool.eq_false_iff.2 (fun h => by rw [List.all_eq_true] at h; have := h _ (List.getElem_mem (show i < l.length by omega)); simp_all))), rfl⟩
    · try simp only [nmL] at hc2
      refine SCode.skip ?_
      show SCode _ _ _ _
      refine SCode.region ?_
      refine SOps.addI rfl rfl (by first | omega | (simp only [lenB]; omega)) (by first | omega | (simp only [lenB]; omega)) ?_
      refine SOps.move rfl ?_
      refine SOps.nil ?_
      exact ⟨i + 1, by exact ⟨by omega, take_more hf (by omega) (by simp_all)⟩, by omega, (St.Le.of ⟨(by first | rfl | (show some _ = some _; simp)), (by first | rfl | (show some _ = some _; simp)), (by first | rfl | (show some _ = some _; simp)), (by first | rfl | (show some _ = some _; simp)), trivial⟩ rfl (by first | rfl | (simp)))⟩
  · try simp only [nmL] at hc1
    refine SCode.exit ?_
    show SCode _ _ _ _
    refine SCode.seqR ?_
    refine SOps.assign rfl ?_
    refine SOps.nil ?_
    refine SCode.ret ?_
    exact ⟨_, Res.one (.tmp rfl), congrArg (fun b => DV.v (.bool b)) (Eq.symm (List.all_eq_true.2 (all_of (by omega) hf))), rfl⟩
theorem jAttach (hV : VS E) (a : List Letter) (l : List Rule) (h c : ByteArray) (hr : ∀ r ∈ l, SmR r) (h1 : utf8R h = true) (h2 : utf8R c = true) (w1 : (runes h).length ≤ 40) (w2 : (runes c).length ≤ 40) : GCall Tryd.prog E 40 [.agg [DLs (extA a), DRs l], .v (.string h), .v (.string c)] [] (fun d H => d = tupA (attE a l h c) ∧ H = []) := by
  have hu1 := utf8_size h1
  have hu2 := utf8_size h2
  refine GCall.body (C := ⟨Tryd.prog, E, true⟩) Tryd.func40 rfl (fun _ => rfl) (by kernel_rfl) rfl ?_
  refine SCode.seqR ?_
  refine SOps.boxAM rfl rfl ?_
  refine SOps.assign rfl ?_
  refine SOps.assign rfl ?_
  refine SOps.nil ?_
  refine SCode.seq ?_
  refine SCode.seqR ?_
  refine SOps.move rfl ?_
  refine SOps.callP (uRuneCount _) rfl ?_
  rintro _ rfl
  refine SOps.addI rfl rfl (by first | omega | (simp only [lenB]; omega)) (by first | omega | (simp only [lenB]; omega)) ?_
  refine SOps.move rfl ?_
  refine SOps.callP (uRuneCount _) rfl ?_
  rintro _ rfl
  refine SOps.addI rfl rfl (by first | omega | (simp only [lenB]; omega)) (by first | omega | (simp only [lenB]; omega)) ?_
  refine SOps.bin rfl rfl rfl ?_
  refine SOps.nil ?_
  refine SCode.cond rfl (fun hc1 => ?_) (fun hc1 => ?_)
  · try simp only [nmL] at hc1
    refine SCode.seqR ?_
    refine SOps.assign rfl ?_
    refine SOps.assign rfl ?_
    refine SOps.nil ?_
    refine SCode.ret ?_
    exact ⟨_, Res.two (.tmp rfl) (.tmp rfl), (by unfold attE; rw [if_pos (by omega)]; rfl), rfl⟩
  · try simp only [nmL] at hc1
    refine SCode.skip ?_
    show SCode _ _ _ _
    refine SCode.seqR ?_
    have hjs : (joinE h c).size ≤ 1048576 := by show (h ++ eqB ++ c).size ≤ _; rw [ByteArray.size_append, ByteArray.size_append, show eqB.size = 1 from rfl]; omega
    refine SOps.fieldPin rfl fieldB_65_0_0 ?_
    refine SOps.loadPin rfl flatB_22 ?_
    refine SOps.fieldPin rfl fieldB_65_1_1 ?_
    refine SOps.loadPin rfl flatB_23 ?_
    refine SOps.move rfl ?_
    refine SOps.concat rfl rfl (by simp only [lenB, ByteArray.size_append]; have : (ByteArray.mk #[61]).size = 1 := rfl; omega) ?_
    refine SOps.move rfl ?_
    refine SOps.concat rfl rfl (by simp only [lenB, ByteArray.size_append]; have : (ByteArray.mk #[61]).size = 1 := rfl; omega) ?_
    refine SOps.callP (rCascade hV (extA a) l (joinE h c) hr hjs) rfl ?_
    rintro _ rfl
    refine SOps.move rfl ?_
    refine SOps.extract rfl rfl ?_
    refine SOps.extract rfl rfl ?_
    refine SOps.assign rfl ?_
    refine SOps.assign rfl ?_
    refine SOps.nil ?_
    refine SCode.seq ?_
    refine SCode.seqR ?_
    refine SOps.move rfl ?_
    refine SOps.bin rfl rfl rfl ?_
    refine SOps.nil ?_
    refine SCode.cond rfl (fun hc2 => ?_) (fun hc2 => ?_)
    · try simp only [nmL] at hc2
      refine SCode.seqR ?_
      refine SOps.move rfl ?_
      refine SOps.assign rfl ?_
      refine SOps.assign rfl ?_
      refine SOps.nil ?_
      refine SCode.ret ?_
      exact ⟨_, Res.two (.tmp rfl) (.tmp rfl), (by unfold attE; rw [if_neg (by omega), if_neg (show ¬ (cascE a l h c).2 = 0 from hc2)]; rfl), rfl⟩
    · try simp only [nmL] at hc2
      refine SCode.skip ?_
      show SCode _ _ _ _
      refine SCode.seqR ?_
      have hcw := casc_word (show (cascX (traceR (extA a) l (joinE h c))).2 = 0 from hc2)
      change (runes (cascE a l h c).1).length ≤ 40 ∧ utf8R (cascE a l h c).1 = true at hcw
      have hws := utf8_size hcw.2
      refine SOps.allocV (sz := 2) zeroBld (fun b0 hb_0 => ?_)
      refine SOps.nil ?_
      refine SCode.seq ?_
      refine SCode.seqR ?_
      refine SOps.move rfl ?_
      refine SOps.rangeStr rfl strB_9 (fun b1 hb_1 => ?_)
      refine SOps.nil ?_
      refine SCode.block ?_
      refine SCode.loop5 (fun (p : Nat) (b : Nat) (g : Nat) (u : Bool) (bs : List UInt8) => (⟨45, [(10, .vref b0 100 2), (36, .it b)], [(b, .iter (cascE a l h c).1 p)] ++ bldH b0 g u bs⟩ : St)) (fun (p : Nat) (b : Nat) (g : Nat) (u : Bool) (bs : List UInt8) => bs ++ (encs ((runesAt (cascE a l h c).1 p).filter (fun r => !decide (r = 61)))).data.toList = (encs ((runes (cascE a l h c).1).filter (fun r => !decide (r = 61)))).data.toList) (fun (p : Nat) (b : Nat) (g : Nat) (u : Bool) (bs : List UInt8) => (cascE a l h c).1.size - p) (0) (b1) (0) (false) ([]) (by rfl) (St.Le.of ⟨(by first | rfl | (show some _ = some _; simp)), (by first | rfl | (show some _ = some _; simp)), trivial⟩ rfl (by first | rfl | (simp))) ?_
      rintro p b g u bs hf
      have hbl : bs.length ≤ 8388608 := by have h8 := congrArg List.length hf; rw [List.length_append] at h8; have h9 := encs_size4 ((runes (cascE a l h c).1).filter (fun r => !decide (r = 61))); have h10 := List.length_filter_le (fun r => !decide (r = 61)) (runes (cascE a l h c).1); have h11 : (encs ((runes (cascE a l h c).1).filter (fun r => !decide (r = 61)))).data.toList.length = (encs ((runes (cascE a l h c).1).filter (fun r => !decide (r = 61)))).size := (by simp); omega
      refine SCode.seqR ?_
      refine SOps.next 0 rfl rfl (fun hn3 => ?_) (fun hn3 => ?_) (by first | omega | (simp only [lenB]; omega))
      · refine SOps.extract rfl rfl ?_
        refine SOps.nil ?_
        refine SCode.seq ?_
        refine SCode.cond rfl (fun _ => ?_) (fun h => by cases h)
        refine SCode.skip ?_
        show SCode _ _ _ _
        refine SCode.block ?_
        refine SCode.seqR ?_
        refine SOps.extract rfl rfl ?_
        refine SOps.assign rfl ?_
        refine SOps.nil ?_
        refine SCode.seqR ?_
        refine SOps.move rfl ?_
        refine SOps.bin rfl rfl rfl ?_
        refine SOps.nil ?_
        refine SCode.cond rfl (fun hc4 => ?_) (fun hc4 => ?_)
        · try simp only [nmL] at hc4
          refine SCode.region ?_
          refine SOps.move rfl ?_
          refine SOps.callR (bldH _ _ _ _) [_] (bWriteRune _ _ _ _ _ (decode_valid _ _) (by omega)) rfl rfl ?_
          rintro _ _ ⟨g7, n7, rfl, rfl⟩
          refine SOps.nil ?_
          first
            | exact ⟨p + (Utf8.decode (cascE a l h c).1 p).2, b, g7, true, bs ++ encBy _, by rw [← hf, runesAt_lt hn3, List.filter_cons, if_pos (by simp_all), encs_cons_data, List.append_assoc], by have := decode_w (cascE a l h c).1 p; omega, St.Le.of ⟨rfl, rfl,  trivial⟩ rfl rfl⟩
            | exact ⟨p + (Utf8.decode (cascE a l h c).1 p).2, b, g, u, bs, by rw [← hf, runesAt_lt hn3, List.filter_cons, if_neg (by simp_all)], by have := decode_w (cascE a l h c).1 p; omega, St.Le.of ⟨rfl, rfl,  trivial⟩ rfl rfl⟩
        · try simp only [nmL] at hc4
          refine SCode.skip ?_
          first
            | exact ⟨p + (Utf8.decode (cascE a l h c).1 p).2, b, g7, true, bs ++ encBy _, by rw [← hf, runesAt_lt hn3, List.filter_cons, if_pos (by simp_all), encs_cons_data, List.append_assoc], by have := decode_w (cascE a l h c).1 p; omega, St.Le.of ⟨rfl, rfl,  trivial⟩ rfl rfl⟩
            | exact ⟨p + (Utf8.decode (cascE a l h c).1 p).2, b, g, u, bs, by rw [← hf, runesAt_lt hn3, List.filter_cons, if_neg (by simp_all)], by have := decode_w (cascE a l h c).1 p; omega, St.Le.of ⟨rfl, rfl,  trivial⟩ rfl rfl⟩
      · refine SOps.extract rfl rfl ?_
        refine SOps.nil ?_
        refine SCode.seq ?_
        refine SCode.cond rfl (fun h => by cases h) (fun _ => ?_)
        refine SCode.exit ?_
        show SCode _ _ _ _
        refine SCode.seqR ?_
        refine SOps.callR (bldH _ _ _ _) [_] (bString _ _ _ _ (by omega)) rfl rfl ?_
        rintro _ _ ⟨rfl, rfl⟩
        refine SOps.assign rfl ?_
        refine SOps.assign rfl ?_
        refine SOps.nil ?_
        refine SCode.drop ?_
        refine SCode.ret ?_
        have hbs : bs = (dropE (cascE a l h c).1).data.toList := by rw [runesAt_ge hn3] at hf; rw [← List.append_nil bs]; exact hf
        exact ⟨_, Res.two (.tmp rfl) (.tmp rfl), (by unfold attE; rw [if_neg (by omega), if_pos (show (cascE a l h c).2 = 0 from hc2), hbs, ba_list]; rfl), rfl⟩
end Go.GH
namespace Go.GH
open Go Go.Proofs
variable {E : Env}
theorem aggB_50_2 : aggB Tryd.prog 50 2 = true := by kernel_rfl
theorem aggB_65_2 : aggB Tryd.prog 65 2 = true := by kernel_rfl
theorem fieldB_50_0_0 : fieldB Tryd.prog 50 0 0 = true := by kernel_rfl
theorem fieldB_50_1_1 : fieldB Tryd.prog 50 1 1 = true := by kernel_rfl
theorem flatB_35 : flatB Tryd.prog 35 = true := by kernel_rfl
theorem placesB_65 : placesB Tryd.prog 65 [(0, 1), (1, 1)] = true := by kernel_rfl
theorem zeroIs_65 : zeroIs Tryd.prog 65 (.agg #[.slice none 0 0, .slice none 0 0]) := by unfold zeroIs; kernel_rfl
def allR (a : List Letter) (l : List Rule) (s : Sg) : ByteArray × Int := if validS a l && isWordA a s.host && s.cls.all (isWordA a) then allE a l s.host s.cls else (⟨#[]⟩, 1)
theorem word_facts {a : List Letter} {s : ByteArray} (h : isWordA a s = true) : overA a s = true ∧ utf8R s = true ∧ (runes s).length ≤ 40 ∧ s.size ≤ 160 := by
  have h1 := isWordA_over h
  have h2 := (overA_iff.1 h1.1).1
  exact ⟨h1.1, h2, h1.2, by have := utf8_size h2; omega⟩
theorem att_word {a : List Letter} {l : List Rule} {h c : ByteArray} (h1 : isWordA a h = true) (h2 : isWordA a c = true) (he : (attE a l h c).2 = 0) : isWordA a (attE a l h c).1 = true := by
  have := att_keep (word_facts h1).1 (word_facts h2).1 he
  unfold isWordA
  rw [this.1, Bool.true_and]
  exact decide_eq_true this.2.1
theorem jAll (hV : VS E) (a : List Letter) (l : List Rule) (sg : Sg) (hr : ∀ r ∈ l, SmR r) (hh : isWordA a sg.host = true) (hc : ∀ c ∈ sg.cls, isWordA a c = true) : GCall Tryd.prog E 50 [.agg [DLs (extA a), DRs l], .agg (encSg sg)] [] (fun d H => d = tupA (allE a l sg.host sg.cls) ∧ H = []) := by
  refine GCall.body (C := ⟨Tryd.prog, E, true⟩) Tryd.func50 rfl (fun _ => rfl) (by kernel_rfl) rfl ?_
  refine SCode.seqR ?_
  refine SOps.boxAM rfl rfl ?_
  refine SOps.boxAM rfl rfl ?_
  refine SOps.assign rfl ?_
  refine SOps.assign rfl ?_
  refine SOps.nil ?_
  refine SCode.seqR ?_
  refine SOps.fieldPin rfl fieldB_50_0_0 ?_
  refine SOps.loadPin rfl flatB_9 ?_
  refine SOps.assign rfl ?_
  refine SOps.nil ?_
  refine SCode.seq ?_
  refine SCode.seqR ?_
  refine SOps.fieldPin rfl fieldB_50_1_1 ?_
  refine SOps.loadPin rfl flatB_35 ?_
  refine SOps.lenM rfl sliceB_35_9_1 ?_
  refine SOps.move rfl ?_
  refine SOps.nil ?_
  refine SCode.block ?_
  refine SCode.loop2 (fun (i : Nat) (f : ByteArray) => (⟨33, [(2, .ipin [DLs (extA a), DRs l]), (6, .v (.string f)), (14, DStrs sg.cls), (15, .v (.int .i64 ((sg.cls.length : Nat) : Int))), (16, .v (.int .i64 (i : Int)))], []⟩ : St)) (fun (i : Nat) (f : ByteArray) => i ≤ sg.cls.length ∧ isWordA a f = true ∧ allE a l f (sg.cls.drop i) = allE a l sg.host sg.cls) (fun (i : Nat) (f : ByteArray) => sg.cls.length - i) (0) (sg.host) (by exact ⟨Nat.zero_le _, hh, rfl⟩) (St.Le.of ⟨(by first | rfl | (show some _ = some _; simp)), (by first | rfl | (show some _ = some _; simp)), (by first | rfl | (show some _ = some _; simp)), (by first | rfl | (show some _ = some _; simp)), (by first | rfl | (show some _ = some _; simp)), trivial⟩ rfl (by first | rfl | (simp))) ?_
  rintro i f ⟨hi, hfw, hf⟩
  refine SCode.fact (isl_len (t := 14) rfl) (fun hB => ?_)
  simp only [List.length_map, lenB] at hB
  refine SCode.seqR ?_
  refine SOps.bin rfl rfl rfl ?_
  refine SOps.nil ?_
  refine SCode.seq ?_
  refine SCode.cond rfl (fun hc1 => ?_) (fun hc1 => ?_)
  · try simp only [nmL] at hc1
    refine SCode.skip ?_
    show SCode _ _ _ _
    refine SCode.seq ?_
    refine SCode.block ?_
    refine SCode.seqR ?_
    have hil : i < sg.cls.length := by omega
    have hci := hc _ (List.getElem_mem hil)
    have hdr : sg.cls.drop i = sg.cls[i] :: sg.cls.drop (i + 1) := List.drop_eq_getElem_cons hil
    have hq1 := word_facts hfw
    have hq2 := word_facts hci
    refine SOps.indexM (i) rfl rfl sliceB_35_9_1 (by first | omega | (simp only [lenB]; omega)) (by first | omega | (simp only [lenB]; omega)) ?_
    refine SOps.loadPin rfl flatB_9 ?_
    refine SOps.assign rfl ?_
    refine SOps.nil ?_
    refine SCode.seqR ?_
    refine SOps.loadPinA rfl aggB_65_2 (Nat.le_of_ble_eq_true rfl) ?_
    refine SOps.move rfl ?_
    refine SOps.move rfl ?_
    refine SOps.callP (jAttach hV _ _ _ _ hr hq1.2.1 hq2.2.1 hq1.2.2.1 hq2.2.2.1) rfl ?_
    rintro _ rfl
    refine SOps.move rfl ?_
    refine SOps.extract rfl rfl ?_
    refine SOps.extract rfl rfl ?_
    refine SOps.assign rfl ?_
    refine SOps.assign rfl ?_
    refine SOps.nil ?_
    refine SCode.seq ?_
    refine SCode.seqR ?_
    refine SOps.move rfl ?_
    refine SOps.bin rfl rfl rfl ?_
    refine SOps.nil ?_
    refine SCode.cond rfl (fun hc2 => ?_) (fun hc2 => ?_)
    · try simp only [nmL] at hc2
      refine SCode.seqR ?_
      refine SOps.move rfl ?_
      refine SOps.assign rfl ?_
      refine SOps.assign rfl ?_
      refine SOps.nil ?_
      refine SCode.ret ?_
      exact ⟨_, Res.two (.tmp rfl) (.tmp rfl), (by rw [← hf, hdr, allE, if_neg hc2]; rfl), rfl⟩
    · try simp only [nmL] at hc2
      refine SCode.skip ?_
      show SCode _ _ _ _
      refine SCode.region ?_
      refine SOps.move rfl ?_
      refine SOps.assign rfl ?_
      refine SOps.nil ?_
      show SCode _ _ _ _
      refine SCode.region ?_
      refine SOps.addI rfl rfl (by first | omega | (simp only [lenB]; omega)) (by first | omega | (simp only [lenB]; omega)) ?_
      refine SOps.move rfl ?_
      refine SOps.nil ?_
      exact ⟨i + 1, (attE a l f (sg.cls[i])).1, ⟨by omega, att_word hfw hci hc2, by rw [← hf, hdr, allE, if_pos hc2]⟩, by omega, St.Le.of ⟨rfl, rfl, rfl, rfl, rfl, trivial⟩⟩
  · try simp only [nmL] at hc1
    refine SCode.exit ?_
    show SCode _ _ _ _
    refine SCode.seqR ?_
    refine SOps.move rfl ?_
    refine SOps.assign rfl ?_
    refine SOps.assign rfl ?_
    refine SOps.nil ?_
    refine SCode.ret ?_
    exact ⟨_, Res.two (.tmp rfl) (.tmp rfl), (by rw [← hf, List.drop_eq_nil_of_le (by omega)]; rfl), rfl⟩
theorem cAttach (hV : VS E) (a : List Letter) (l : List Rule) (h c : ByteArray) (hr : ∀ r ∈ l, SmR r) : GCall Tryd.prog E 16 [DLs a, DRs l, .v (.string h), .v (.string c)] [] (fun d H => d = tupA (attR a l h c) ∧ H = []) := by
  refine GCall.body (C := ⟨Tryd.prog, E, true⟩) Tryd.func16 rfl (fun _ => rfl) (by kernel_rfl) rfl ?_
  refine SCode.seqR ?_
  refine SOps.assign rfl ?_
  refine SOps.assign rfl ?_
  refine SOps.nil ?_
  refine SCode.seq ?_
  refine SCode.seqR ?_
  refine SOps.move rfl ?_
  refine SOps.move rfl ?_
  refine SOps.callP (cValid hV _ _ (by assumption)) rfl ?_
  rintro _ rfl
  refine SOps.un rfl rfl ?_
  refine SOps.move rfl ?_
  refine SOps.caseB 14 rfl (fun hb1 => ?_) (fun hb1 => ?_)
  · try simp only [nmL] at hb1
    refine SOps.skip rfl ?_
    refine SOps.skip rfl ?_
    refine SOps.skip rfl ?_
    refine SOps.skip rfl ?_
    refine SOps.skip rfl ?_
    refine SOps.skip rfl ?_
    refine SOps.pick rfl rfl ?_
    refine SOps.nil ?_
    refine SCode.cond rfl (fun _ => ?_) (fun h => by cases h)
    refine SCode.seqR ?_
    refine SOps.assign rfl ?_
    refine SOps.assign rfl ?_
    refine SOps.nil ?_
    refine SCode.ret ?_
    exact ⟨_, Res.two (.tmp rfl) (.tmp rfl), (by unfold attR; first | (rw [if_pos (by simp_all)]; done) | (rw [if_pos (by simp_all)]; rfl) | (rw [if_neg (by simp_all)]; rfl)), rfl⟩
  · try simp only [nmL] at hb1
    refine SOps.move rfl ?_
    refine SOps.move rfl ?_
    refine SOps.move rfl ?_
    refine SOps.litF rfl sliceB_35_9_1 zeroIs_9 rfl ?_
    refine SOps.callP (cWords hV a [h, c]) rfl ?_
    rintro _ rfl
    refine SOps.un rfl rfl ?_
    refine SOps.pick rfl rfl ?_
    refine SOps.nil ?_
    refine SCode.cond rfl (fun hc2 => ?_) (fun hc2 => ?_)
    · try simp only [nmL] at hc2
      refine SCode.seqR ?_
      refine SOps.assign rfl ?_
      refine SOps.assign rfl ?_
      refine SOps.nil ?_
      refine SCode.ret ?_
      exact ⟨_, Res.two (.tmp rfl) (.tmp rfl), (by unfold attR; first | (rw [if_pos (by simp_all)]; done) | (rw [if_pos (by simp_all)]; rfl) | (rw [if_neg (by simp_all)]; rfl)), rfl⟩
    · try simp only [nmL] at hc2
      refine SCode.skip ?_
      show SCode _ _ _ _
      refine SCode.seqR ?_
      have hvs : validS a l = true := by simp_all
      have hal : a.length ≤ 64 := by have := validA_iff.1 (validS_iff.1 hvs).1; omega
      have hwh : isWordA a h = true := by simp_all
      have hwc : isWordA a c = true := by simp_all
      have hq1 := word_facts hwh
      have hq2 := word_facts hwc
      refine SOps.move rfl ?_
      refine SOps.callP (cExtended _ (by omega)) rfl ?_
      rintro _ rfl
      refine SOps.move rfl ?_
      refine SOps.buildM placesB_65 zeroIs_65 rfl rfl ?_
      refine SOps.move rfl ?_
      refine SOps.move rfl ?_
      refine SOps.callP (jAttach hV a _ _ _ hr hq1.2.1 hq2.2.1 hq1.2.2.1 hq2.2.2.1) rfl ?_
      rintro _ rfl
      refine SOps.extract rfl rfl ?_
      refine SOps.extract rfl rfl ?_
      refine SOps.assign rfl ?_
      refine SOps.assign rfl ?_
      refine SOps.nil ?_
      refine SCode.ret ?_
      exact ⟨_, Res.two (.tmp rfl) (.tmp rfl), (by unfold attR; first | (rw [if_pos (by simp_all)]; done) | (rw [if_pos (by simp_all)]; rfl) | (rw [if_neg (by simp_all)]; rfl)), rfl⟩
theorem cAttachAll (hV : VS E) (a : List Letter) (l : List Rule) (sg : Sg) (hr : ∀ r ∈ l, SmR r) : GCall Tryd.prog E 25 [DLs a, DRs l, .agg (encSg sg)] [] (fun d H => d = tupA (allR a l sg) ∧ H = []) := by
  refine GCall.body (C := ⟨Tryd.prog, E, true⟩) Tryd.func25 rfl (fun _ => rfl) (by kernel_rfl) rfl ?_
  refine SCode.seqR ?_
  refine SOps.boxAM rfl rfl ?_
  refine SOps.assign rfl ?_
  refine SOps.assign rfl ?_
  refine SOps.nil ?_
  refine SCode.seq ?_
  refine SCode.seqR ?_
  refine SOps.move rfl ?_
  refine SOps.move rfl ?_
  refine SOps.callP (cValid hV _ _ (by assumption)) rfl ?_
  rintro _ rfl
  refine SOps.un rfl rfl ?_
  refine SOps.move rfl ?_
  refine SOps.caseB 12 rfl (fun hb1 => ?_) (fun hb1 => ?_)
  · try simp only [nmL] at hb1
    refine SOps.skip rfl ?_
    refine SOps.skip rfl ?_
    refine SOps.skip rfl ?_
    refine SOps.skip rfl ?_
    refine SOps.skip rfl ?_
    refine SOps.skip rfl ?_
    refine SOps.pick rfl rfl ?_
    refine SOps.move rfl ?_
    refine SOps.skip rfl ?_
    refine SOps.skip rfl ?_
    refine SOps.skip rfl ?_
    refine SOps.skip rfl ?_
    refine SOps.skip rfl ?_
    refine SOps.pick rfl rfl ?_
    refine SOps.nil ?_
    refine SCode.cond rfl (fun _ => ?_) (fun h => by cases h)
    refine SCode.seqR ?_
    refine SOps.assign rfl ?_
    refine SOps.assign rfl ?_
    refine SOps.nil ?_
    refine SCode.ret ?_
    exact ⟨_, Res.two (.tmp rfl) (.tmp rfl), (by unfold allR; first | (rw [if_pos (by simp_all)]; done) | (rw [if_pos (by simp_all)]; rfl) | (rw [if_neg (by simp_all)]; rfl)), rfl⟩
  · try simp only [nmL] at hb1
    refine SOps.move rfl ?_
    refine SOps.fieldPin rfl fieldB_50_0_0 ?_
    refine SOps.loadPin rfl flatB_9 ?_
    refine SOps.litF rfl sliceB_35_9_1 zeroIs_9 rfl ?_
    refine SOps.callP (cWords hV a [sg.host]) rfl ?_
    rintro _ rfl
    refine SOps.un rfl rfl ?_
    refine SOps.pick rfl rfl ?_
    refine SOps.move rfl ?_
    refine SOps.caseB 20 rfl (fun hb2 => ?_) (fun hb2 => ?_)
    · try simp only [nmL] at hb2
      refine SOps.skip rfl ?_
      refine SOps.skip rfl ?_
      refine SOps.skip rfl ?_
      refine SOps.skip rfl ?_
      refine SOps.skip rfl ?_
      refine SOps.pick rfl rfl ?_
      refine SOps.nil ?_
      refine SCode.cond rfl (fun _ => ?_) (fun h => by cases h)
      refine SCode.seqR ?_
      refine SOps.assign rfl ?_
      refine SOps.assign rfl ?_
      refine SOps.nil ?_
      refine SCode.ret ?_
      exact ⟨_, Res.two (.tmp rfl) (.tmp rfl), (by unfold allR; first | (rw [if_pos (by simp_all)]; done) | (rw [if_pos (by simp_all)]; rfl) | (rw [if_neg (by simp_all)]; rfl)), rfl⟩
    · try simp only [nmL] at hb2
      refine SOps.move rfl ?_
      refine SOps.fieldPin rfl fieldB_50_1_1 ?_
      refine SOps.loadPin rfl flatB_35 ?_
      refine SOps.callP (cWords hV _ _) rfl ?_
      rintro _ rfl
      refine SOps.un rfl rfl ?_
      refine SOps.pick rfl rfl ?_
      refine SOps.nil ?_
      refine SCode.cond rfl (fun hc3 => ?_) (fun hc3 => ?_)
      · try simp only [nmL] at hc3
        refine SCode.seqR ?_
        refine SOps.assign rfl ?_
        refine SOps.assign rfl ?_
        refine SOps.nil ?_
        refine SCode.ret ?_
        exact ⟨_, Res.two (.tmp rfl) (.tmp rfl), (by unfold allR; first | (rw [if_pos (by simp_all)]; done) | (rw [if_pos (by simp_all)]; rfl) | (rw [if_neg (by simp_all)]; rfl)), rfl⟩
      · try simp only [nmL] at hc3
        refine SCode.skip ?_
        show SCode _ _ _ _
        refine SCode.seq ?_
        have hvs : validS a l = true := by simp_all
        have hal : a.length ≤ 64 := by have := validA_iff.1 (validS_iff.1 hvs).1; omega
        have hwh : isWordA a sg.host = true := by simp_all
        have hwc : ∀ c ∈ sg.cls, isWordA a c = true := by simp_all
        apply SCode.drawAuto mixed_ [27, 28, 29, 30, 31, 32, 33, 34, 6, 7] [[.inr 0], [.inl 0], [.inr 1], [.inl 1, .inl 2], [.inr 5], [.inl 3, .inl 4], [.inl 5], [.inl 5], [.inl 6], [.inl 7]]
        · kernel_rfl
        · kernel_rfl
        · apply DOk.cons 27 
          · rfl
          · exact (NeedIs.inr _ rfl NeedIs.nil)
          · intro rest
            refine SOps.move rfl ?_
            exact SOps.nil rfl
          apply DOk.cons 28 
          · rfl
          · exact (NeedIs.inl 0 _ _ rfl rfl NeedIs.nil)
          · intro rest
            refine SOps.callP (cExtended _ (by omega)) rfl ?_
            rintro _ rfl
            exact SOps.nil rfl
          apply DOk.cons 29 
          · rfl
          · exact (NeedIs.inr _ rfl NeedIs.nil)
          · intro rest
            refine SOps.move rfl ?_
            exact SOps.nil rfl
          apply DOk.cons 30 
          · rfl
          · exact (NeedIs.inl 1 _ _ rfl rfl (NeedIs.inl 0 _ _ rfl rfl NeedIs.nil))
          · intro rest
            refine SOps.buildM placesB_65 zeroIs_65 rfl rfl ?_
            exact SOps.nil rfl
          apply DOk.cons 31 
          · rfl
          · exact (NeedIs.inr _ rfl NeedIs.nil)
          · intro rest
            refine SOps.loadPinA rfl aggB_50_2 (Nat.le_of_ble_eq_true rfl) ?_
            exact SOps.nil rfl
          apply DOk.cons 32 
          · rfl
          · exact (NeedIs.inl 1 _ _ rfl rfl (NeedIs.inl 0 _ _ rfl rfl NeedIs.nil))
          · intro rest
            refine SOps.callP (jAll hV _ _ _ (by assumption) (by assumption) (by assumption)) rfl ?_
            rintro _ rfl
            exact SOps.nil rfl
          apply DOk.cons 33 
          · rfl
          · exact (NeedIs.inl 0 _ _ rfl rfl NeedIs.nil)
          · intro rest
            refine SOps.extract rfl rfl ?_
            exact SOps.nil rfl
          apply DOk.cons 34 
          · rfl
          · exact (NeedIs.inl 1 _ _ rfl rfl NeedIs.nil)
          · intro rest
            refine SOps.extract rfl rfl ?_
            exact SOps.nil rfl
          apply DOk.cons 6 
          · rfl
          · exact (NeedIs.inl 1 _ _ rfl rfl NeedIs.nil)
          · intro rest
            refine SOps.assign rfl ?_
            exact SOps.nil rfl
          apply DOk.cons 7 
          · rfl
          · exact (NeedIs.inl 1 _ _ rfl rfl NeedIs.nil)
          · intro rest
            refine SOps.assign rfl ?_
            exact SOps.nil rfl
          exact DOk.nil
        · rfl
        · show SCode _ _ _ _
          refine SCode.ret ?_
          exact ⟨_, Res.two (.tmp rfl) (.tmp rfl), (by unfold allR; first | (rw [if_pos (by simp_all)]; done) | (rw [if_pos (by simp_all)]; rfl) | (rw [if_neg (by simp_all)]; rfl)), rfl⟩
end Go.GH
namespace Go.GH
open Go
theorem look_upd {d : TypeDesc} {k k' : Value} {v : DV} (hk : isKey d k = true) (hk' : isKey d k' = true) : ∀ (es : List (Value × DV)), (∀ p ∈ es, isKey d p.1 = true) → lookupL (updL es k v) k' = if sameKey k' k then some v else lookupL es k'
  | [], _ => rfl
  | p :: es, hs => by
    have hp := hs p (List.mem_cons_self ..)
    have ih := look_upd (v := v) hk hk' es (fun q hq => hs q (List.mem_cons_of_mem _ hq))
    rw [updL]
    by_cases h : sameKey k p.1 = true
    · rw [if_pos h]
      have e := (sameKey_iff hk hp).1 h
      simp only [lookupL]
      rw [← e]
      split <;> rfl
    · rw [if_neg h]
      simp only [lookupL]
      rw [ih]
      by_cases h2 : sameKey k' p.1 = true
      · rw [if_pos h2, if_pos h2]
        have e := (sameKey_iff hk' hp).1 h2
        rw [if_neg]
        intro h3
        have e3 := (sameKey_iff hk' hk).1 h3
        exact h ((sameKey_iff hk hp).2 (e3.symm.trans e))
      · rw [if_neg h2, if_neg h2]
theorem keys_upd {d : TypeDesc} {k : Value} {v : DV} (hk : isKey d k = true) : ∀ (es : List (Value × DV)), (∀ p ∈ es, isKey d p.1 = true) → ∀ p ∈ updL es k v, isKey d p.1 = true
  | [], _, p, hp => by rw [updL, List.mem_singleton] at hp; subst hp; exact hk
  | q :: es, hs, p, hp => by
    rw [updL] at hp
    split at hp
    · rcases List.mem_cons.1 hp with rfl | hp
      · exact hk
      · exact hs p (List.mem_cons_of_mem _ hp)
    · rcases List.mem_cons.1 hp with rfl | hp
      · exact hs p (List.mem_cons_self ..)
      · exact keys_upd hk es (fun q hq => hs q (List.mem_cons_of_mem _ hq)) p hp
def KI (es : List (Value × DV)) : Prop := ∀ p ∈ es, isKey (.int .i32) p.1 = true
def KS (es : List (Value × DV)) : Prop := ∀ p ∈ es, isKey .string p.1 = true
def tT : DV := .v (.bool true)
/-- A set of runes. -/
structure SetI (es : List (Value × DV)) (ks : List Int) : Prop where
  keys : KI es
  look : ∀ r : Int, lookupL es (.int .i32 r) = (if ks.contains r then some () else none).map (fun _ => tT)
theorem SetI.nil : SetI [] [] := ⟨(fun p hp => by cases hp), fun r => rfl⟩
theorem SetI.add {es : List (Value × DV)} {ks : List Int} (h : SetI es ks) (r : Int) : SetI (updL es (.int .i32 r) tT) (ks ++ [r]) := by
  refine ⟨keys_upd rfl es h.keys, fun q => ?_⟩
  rw [look_upd (d := .int .i32) rfl rfl es h.keys, h.look]
  by_cases e : q = r
  · subst e; simp [sameKey]
  · simp [sameKey, e]
/-- A set of strings. -/
structure SetS (es : List (Value × DV)) (ks : List ByteArray) : Prop where
  keys : KS es
  look : ∀ s : ByteArray, lookupL es (.string s) = (if memS s ks then some () else none).map (fun _ => tT)
theorem SetS.nil : SetS [] [] := ⟨(fun p hp => by cases hp), fun r => rfl⟩
theorem SetS.add {es : List (Value × DV)} {ks : List ByteArray} (h : SetS es ks) (r : ByteArray) : SetS (updL es (.string r) tT) (ks ++ [r]) := by
  refine ⟨keys_upd rfl es h.keys, fun q => ?_⟩
  rw [look_upd (d := .string) rfl rfl es h.keys, h.look, memS_snoc]
  by_cases e : q = r
  · subst e; simp [sameKey]
  · have e2 : ¬ r = q := fun x => e x.symm
    simp [sameKey, e, e2]
/-- What strings are mapped to what f says. -/
structure MapS (f : ByteArray → ByteArray) (es : List (Value × DV)) (ks : List ByteArray) : Prop where
  keys : KS es
  look : ∀ s : ByteArray, lookupL es (.string s) = (if memS s ks then some (f s) else none).map (fun x => DV.v (.string x))
theorem MapS.nil (f : ByteArray → ByteArray) : MapS f [] [] := ⟨(fun p hp => by cases hp), fun r => rfl⟩
theorem MapS.add {f : ByteArray → ByteArray} {es : List (Value × DV)} {ks : List ByteArray} (h : MapS f es ks) (r : ByteArray) : MapS f (updL es (.string r) (.v (.string (f r)))) (ks ++ [r]) := by
  refine ⟨keys_upd rfl es h.keys, fun q => ?_⟩
  rw [look_upd (d := .string) rfl rfl es h.keys, h.look, memS_snoc]
  by_cases e : q = r
  · subst e; simp [sameKey]
  · have e2 : ¬ r = q := fun x => e x.symm
    simp [sameKey, e, e2]
theorem SetS.more {es : List (Value × DV)} {ks : List ByteArray} (h : SetS es ks) {r : ByteArray} (hr : memS r ks = true) : SetS es (ks ++ [r]) := by
  refine ⟨h.keys, fun q => ?_⟩
  rw [h.look, memS_snoc]
  by_cases e : r = q
  · subst e; rw [hr]; rfl
  · simp [e]
theorem take_next {α : Type} {l : List α} {i : Nat} (h : i < l.length) : l.take (i + 1) = l.take i ++ [l[i]] := by
  rw [List.take_succ, List.getElem?_eq_getElem h]; rfl
theorem chg_nil (r : Int) : chg [] r = false := rfl
theorem chg_cons (q : Rule) (l : List Rule) (r : Int) : chg (q :: l) r = ((decide (q.fr = r) || (runes q.«to»).contains r) || chg l r) := rfl
end Go.GH
namespace Go.GH
open Go Go.Proofs
variable {E : Env}
theorem mapB_109 : mapB Tryd.prog 109 9 4 (.string) := ⟨by kernel_rfl, by kernel_rfl⟩
theorem sHasPrefix (s p : ByteArray) (hs : s.size ≤ 1048576) : GCall Tryd.prog E 88 [.v (.string s), .v (.string p)] [] (fun d H => d = .v (.bool (prefB p s)) ∧ H = []) := by
  refine GCall.body (C := ⟨Tryd.prog, E, true⟩) Tryd.func88 rfl (fun _ => rfl) (by kernel_rfl) rfl ?_
  refine SCode.seqR ?_
  refine SOps.assign rfl ?_
  refine SOps.nil ?_
  refine SCode.seqR ?_
  refine SOps.move rfl ?_
  refine SOps.lenStr rfl strB_9 ?_
  refine SOps.move rfl ?_
  refine SOps.lenStr rfl strB_9 ?_
  refine SOps.bin rfl rfl rfl ?_
  refine SOps.move rfl ?_
  refine SOps.caseB 10 rfl (fun hb1 => ?_) (fun hb1 => ?_)
  · try simp only [nmL] at hb1
    refine SOps.move rfl ?_
    refine SOps.move rfl ?_
    refine SOps.lenStr rfl strB_9 ?_
    refine SOps.sliceStr (0) (p.size) strB_9 rfl .none (.at (p.size) rfl (by first | omega | (simp only [lenB]; omega))) (by first | omega | (simp only [lenB]; omega)) (by first | omega | (simp only [lenB]; omega)) ?_
    refine SOps.move rfl ?_
    refine SOps.bin rfl rfl rfl ?_
    refine SOps.pick rfl rfl ?_
    refine SOps.assign rfl ?_
    refine SOps.nil ?_
    refine SCode.ret ?_
    have hps : p.size ≤ 1048576 ∨ ¬ p.size ≤ s.size := by omega
    exact ⟨_, Res.one (.tmp rfl), congrArg (fun b => DV.v (.bool b)) (by unfold prefB; first | (rw [decide_eq_true (show p.size ≤ s.size by omega), Bool.true_and]; done) | (rw [decide_eq_true (show p.size ≤ s.size by omega), Bool.true_and]; rfl) | (rw [decide_eq_false (show ¬ p.size ≤ s.size by omega)]; rfl)), rfl⟩
  · try simp only [nmL] at hb1
    refine SOps.skip rfl ?_
    refine SOps.skip rfl ?_
    refine SOps.skip rfl ?_
    refine SOps.skip rfl ?_
    refine SOps.skip rfl ?_
    refine SOps.skip rfl ?_
    refine SOps.pick rfl rfl ?_
    refine SOps.assign rfl ?_
    refine SOps.nil ?_
    refine SCode.ret ?_
    have hps : p.size ≤ 1048576 ∨ ¬ p.size ≤ s.size := by omega
    exact ⟨_, Res.one (.tmp rfl), congrArg (fun b => DV.v (.bool b)) (by unfold prefB; first | (rw [decide_eq_true (show p.size ≤ s.size by omega), Bool.true_and]; done) | (rw [decide_eq_true (show p.size ≤ s.size by omega), Bool.true_and]; rfl) | (rw [decide_eq_false (show ¬ p.size ≤ s.size by omega)]; rfl)), rfl⟩
theorem sCutPrefix0 (s p : ByteArray) (hs : s.size ≤ 1048576) : GCall Tryd.prog E 75 [.v (.string s), .v (.string p)] [] (fun d H => d = .tup [.v (.string (cutP (s, true) p).1), .v (.bool (cutP (s, true) p).2)] ∧ H = []) := by
  refine GCall.body (C := ⟨Tryd.prog, E, true⟩) Tryd.func75 rfl (fun _ => rfl) (by kernel_rfl) rfl ?_
  refine SCode.seqR ?_
  refine SOps.assign rfl ?_
  refine SOps.assign rfl ?_
  refine SOps.nil ?_
  refine SCode.seq ?_
  refine SCode.seqR ?_
  refine SOps.move rfl ?_
  refine SOps.move rfl ?_
  refine SOps.callP (sHasPrefix _ _ (by assumption)) rfl ?_
  rintro _ rfl
  refine SOps.un rfl rfl ?_
  refine SOps.nil ?_
  refine SCode.cond rfl (fun hc1 => ?_) (fun hc1 => ?_)
  · try simp only [nmL] at hc1
    have hpb : prefB p s = false := hc1
    refine SCode.seqR ?_
    refine SOps.move rfl ?_
    refine SOps.assign rfl ?_
    refine SOps.assign rfl ?_
    refine SOps.nil ?_
    refine SCode.ret ?_
    exact ⟨_, Res.two (.tmp rfl) (.tmp rfl), (by unfold cutP; rw [if_pos rfl, hpb]; rfl), rfl⟩
  · try simp only [nmL] at hc1
    have hpb : prefB p s = true := hc1
    have hple : p.size ≤ s.size := by unfold prefB at hpb; rw [Bool.and_eq_true, decide_eq_true_eq] at hpb; exact hpb.1
    refine SCode.skip ?_
    show SCode _ _ _ _
    refine SCode.seqR ?_
    refine SOps.move rfl ?_
    refine SOps.move rfl ?_
    refine SOps.lenStr rfl strB_9 ?_
    refine SOps.sliceStr (p.size) (_) strB_9 rfl (.at (p.size) rfl (by first | omega | (simp only [lenB]; omega))) .none (by first | omega | (simp only [lenB]; omega)) (by first | omega | (simp only [lenB]; omega)) ?_
    refine SOps.assign rfl ?_
    refine SOps.assign rfl ?_
    refine SOps.nil ?_
    refine SCode.ret ?_
    exact ⟨_, Res.two (.tmp rfl) (.tmp rfl), (by unfold cutP; rw [if_pos rfl, if_pos hpb]), rfl⟩
theorem sCutPrefix (s p : ByteArray) (hs : s.size ≤ 1048576) : GCall Tryd.prog E 47 [.v (.string s), .v (.string p)] [] (fun d H => d = .tup [.v (.string (cutP (s, true) p).1), .v (.bool (cutP (s, true) p).2)] ∧ H = []) := by
  refine GCall.body (C := ⟨Tryd.prog, E, true⟩) Tryd.func47 rfl (fun _ => rfl) (by kernel_rfl) rfl ?_
  refine SCode.seqR ?_
  refine SOps.assign rfl ?_
  refine SOps.assign rfl ?_
  refine SOps.nil ?_
  refine SCode.seqR ?_
  refine SOps.move rfl ?_
  refine SOps.move rfl ?_
  refine SOps.callP (sCutPrefix0 _ _ (by assumption)) rfl ?_
  rintro _ rfl
  refine SOps.extract rfl rfl ?_
  refine SOps.extract rfl rfl ?_
  refine SOps.assign rfl ?_
  refine SOps.assign rfl ?_
  refine SOps.nil ?_
  refine SCode.ret ?_
  exact ⟨_, Res.two (.tmp rfl) (.tmp rfl), rfl, rfl⟩
theorem cDistinct (l : List ByteArray) (hl : l.length ≤ 1048576) : GCall Tryd.prog E 49 [DStrs l] [] (fun d H => d = DStrs (onceL l) ∧ H = []) := by
  refine GCall.body (C := ⟨Tryd.prog, E, true⟩) Tryd.func49 rfl (fun _ => rfl) (by kernel_rfl) rfl ?_
  refine SCode.seqR ?_
  refine SOps.assign rfl ?_
  refine SOps.nil ?_
  refine SCode.seqR ?_
  refine SOps.makeMap0 (fun b0 hb_0 => ?_)
  refine SOps.assign rfl ?_
  refine SOps.nil ?_
  refine SCode.seqR ?_
  refine SOps.assign rfl ?_
  refine SOps.nil ?_
  refine SCode.seq ?_
  refine SCode.seqR ?_
  refine SOps.move rfl ?_
  refine SOps.lenM rfl sliceB_35_9_1 ?_
  refine SOps.move rfl ?_
  refine SOps.nil ?_
  refine SCode.block ?_
  refine SCode.loop3 (fun (i : Nat) (es : List (Value × DV)) (k : Nat) => (⟨26, [(3, .mp b0), (4, accD 1 k ((onceN l i).map encS)), (8, DStrs l), (9, .v (.int .i64 ((l.length : Nat) : Int))), (10, .v (.int .i64 (i : Int)))], [(b0, .map es)] ++ (accH 9 1 k ((onceN l i).map encS) ++ [])⟩ : St)) (fun (i : Nat) (es : List (Value × DV)) (k : Nat) => i ≤ l.length ∧ SetS es (l.take i)) (fun (i : Nat) (es : List (Value × DV)) (k : Nat) => l.length - i) (0) ([]) (0) (by exact ⟨Nat.zero_le _, SetS.nil⟩) (St.Le.of ⟨(by first | rfl | (show some _ = some _; simp)), (by first | rfl | (show some _ = some _; simp)), (by first | rfl | (show some _ = some _; simp)), (by first | rfl | (show some _ = some _; simp)), (by first | rfl | (show some _ = some _; simp)), trivial⟩ rfl (by first | rfl | (simp))) ?_
  rintro i es k ⟨hi, hS⟩
  have hks := hS.keys
  have hol := onceN_len l i
  refine SCode.seqR ?_
  refine SOps.bin rfl rfl rfl ?_
  refine SOps.nil ?_
  refine SCode.seq ?_
  refine SCode.cond rfl (fun hc1 => ?_) (fun hc1 => ?_)
  · try simp only [nmL] at hc1
    refine SCode.skip ?_
    show SCode _ _ _ _
    refine SCode.seq ?_
    refine SCode.block ?_
    refine SCode.seqR ?_
    have hil : i < l.length := by omega
    have hgd : l.getD i .empty = l[i] := by rw [List.getD_eq_getElem?_getD, List.getElem?_eq_getElem hil]; rfl
    have hon : onceN l (i + 1) = if memS (l[i]) (l.take i) then onceN l i else onceN l i ++ [l[i]] := by rw [onceN, hgd]
    refine SOps.indexM (i) rfl rfl sliceB_35_9_1 (by first | omega | (simp only [lenB]; omega)) (by first | omega | (simp only [lenB]; omega)) ?_
    refine SOps.loadPin rfl flatB_9 ?_
    refine SOps.assign rfl ?_
    refine SOps.nil ?_
    refine SCode.seqR ?_
    refine SOps.move rfl ?_
    refine SOps.move rfl ?_
    refine SOps.lookupOM 0 (if memS (l[i]) (l.take i) then some () else none) (fun _ => tT) rfl rfl rfl mapB_109 (hks) zeroIs_4 ((hS.look _)) (fun y2 hy2 => ?_) (fun hy2 => ?_)
    · have hmm : memS (l[i]) (l.take i) = true := by cases h : memS (l[i]) (l.take i) with | true => rfl | false => rw [h] at hy2; cases hy2
      refine SOps.un rfl rfl ?_
      refine SOps.nil ?_
      refine SCode.cond rfl (fun hc3 => ?_) (fun hc3 => ?_)
      · try simp only [nmL] at hc3
        refine SCode.seqR ?_
        refine SOps.move rfl ?_
        refine SOps.move rfl ?_
        refine SOps.mapUpdate 0 rfl rfl rfl rfl mapB_109 rfl (hks) ?_
        refine SOps.nil ?_
        refine SCode.region ?_
        refine SOps.move rfl ?_
        refine SOps.move rfl ?_
        refine SOps.litF rfl sliceB_35_9_1 zeroIs_9 rfl ?_
        refine SOps.appendAcc [_] [] sliceB_35_9_1 elemB_9_1_16 rfl rfl rfl SrcD.isl (by simp) (by first | (simp [lenB] <;> (first | omega | (simp only [lenB]; omega))) | (simp only [lenB]; (first | omega | (simp only [lenB]; omega)))) (by first | (simp <;> (first | omega | (simp only [lenB]; omega))) | (first | omega | (simp only [lenB]; omega))) (fun b1 => ?_)
        refine SOps.assign rfl ?_
        refine SOps.nil ?_
        show SCode _ _ _ _
        refine SCode.region ?_
        refine SOps.addI rfl rfl (by first | omega | (simp only [lenB]; omega)) (by first | omega | (simp only [lenB]; omega)) ?_
        refine SOps.move rfl ?_
        refine SOps.nil ?_
        first
          | (exfalso; simp at hc3; done)
          | (exfalso; simp_all; done)
          | exact ⟨i + 1, _, b2, ⟨by omega, by rw [take_next hil]; exact hS.add _⟩, by omega, St.Le.of ⟨rfl, (by rw [hon, if_neg hmm, List.map_append]; rfl), rfl, rfl, rfl, trivial⟩ rfl (by rw [hon, if_neg hmm, List.map_append]; rfl)⟩
          | exact ⟨i + 1, es, k, ⟨by omega, by rw [take_next hil]; exact hS.more hmm⟩, by omega, St.Le.of ⟨rfl, (by rw [hon, if_pos hmm]; rfl), rfl, rfl, rfl, trivial⟩ rfl (by rw [hon, if_pos hmm]; rfl)⟩
      · try simp only [nmL] at hc3
        refine SCode.skip ?_
        show SCode _ _ _ _
        refine SCode.region ?_
        refine SOps.addI rfl rfl (by first | omega | (simp only [lenB]; omega)) (by first | omega | (simp only [lenB]; omega)) ?_
        refine SOps.move rfl ?_
        refine SOps.nil ?_
        first
          | (exfalso; simp at hc3; done)
          | (exfalso; simp_all; done)
          | exact ⟨i + 1, _, b2, ⟨by omega, by rw [take_next hil]; exact hS.add _⟩, by omega, St.Le.of ⟨rfl, (by rw [hon, if_neg hmm, List.map_append]; rfl), rfl, rfl, rfl, trivial⟩ rfl (by rw [hon, if_neg hmm, List.map_append]; rfl)⟩
          | exact ⟨i + 1, es, k, ⟨by omega, by rw [take_next hil]; exact hS.more hmm⟩, by omega, St.Le.of ⟨rfl, (by rw [hon, if_pos hmm]; rfl), rfl, rfl, rfl, trivial⟩ rfl (by rw [hon, if_pos hmm]; rfl)⟩
    · have hmm : ¬ memS (l[i]) (l.take i) = true := fun h => by rw [if_pos h] at hy2; cases hy2
      refine SOps.un rfl rfl ?_
      refine SOps.nil ?_
      refine SCode.cond rfl (fun _ => ?_) (fun h => by cases h)
      refine SCode.seqR ?_
      refine SOps.move rfl ?_
      refine SOps.move rfl ?_
      refine SOps.mapUpdate 0 rfl rfl rfl rfl mapB_109 rfl (hks) ?_
      refine SOps.nil ?_
      refine SCode.region ?_
      refine SOps.move rfl ?_
      refine SOps.move rfl ?_
      refine SOps.litF rfl sliceB_35_9_1 zeroIs_9 rfl ?_
      refine SOps.appendAcc [_] [] sliceB_35_9_1 elemB_9_1_16 rfl rfl rfl SrcD.isl (by simp) (by first | (simp [lenB] <;> (first | omega | (simp only [lenB]; omega))) | (simp only [lenB]; (first | omega | (simp only [lenB]; omega)))) (by first | (simp <;> (first | omega | (simp only [lenB]; omega))) | (first | omega | (simp only [lenB]; omega))) (fun b2 => ?_)
      refine SOps.assign rfl ?_
      refine SOps.nil ?_
      show SCode _ _ _ _
      refine SCode.region ?_
      refine SOps.addI rfl rfl (by first | omega | (simp only [lenB]; omega)) (by first | omega | (simp only [lenB]; omega)) ?_
      refine SOps.move rfl ?_
      refine SOps.nil ?_
      first
        | (exfalso; simp at hc3; done)
        | (exfalso; simp_all; done)
        | exact ⟨i + 1, _, b2, ⟨by omega, by rw [take_next hil]; exact hS.add _⟩, by omega, St.Le.of ⟨rfl, (by rw [hon, if_neg hmm, List.map_append]; rfl), rfl, rfl, rfl, trivial⟩ rfl (by rw [hon, if_neg hmm, List.map_append]; rfl)⟩
        | exact ⟨i + 1, es, k, ⟨by omega, by rw [take_next hil]; exact hS.more hmm⟩, by omega, St.Le.of ⟨rfl, (by rw [hon, if_pos hmm]; rfl), rfl, rfl, rfl, trivial⟩ rfl (by rw [hon, if_pos hmm]; rfl)⟩
  · try simp only [nmL] at hc1
    refine SCode.exit ?_
    show SCode _ _ _ _
    refine SCode.seqR ?_
    refine SOps.freezeAcc (t := 4) [_] [] rfl rfl rfl ?_
    refine SOps.move rfl ?_
    refine SOps.assign rfl ?_
    refine SOps.nil ?_
    refine SCode.drop ?_
    refine SCode.ret ?_
    exact ⟨_, Res.one (.tmp rfl), by unfold onceL; rw [show l.length = i by omega], rfl⟩
end Go.GH
namespace Go.GH
open Go Go.Proofs
variable {E : Env}
theorem flatB_108 : flatB Tryd.prog 108 = true := by kernel_rfl
theorem mapB_108 : mapB Tryd.prog 108 21 4 (.int .i32) := ⟨by kernel_rfl, by kernel_rfl⟩
theorem oneB_108 : oneB Tryd.prog 108 = true := by kernel_rfl
theorem zeroIs_108 : zeroIs Tryd.prog 108 (.map none) := by unfold zeroIs; kernel_rfl
structure ChgM (l : List Rule) (es : List (Value × DV)) : Prop where
  keys : KI es
  look : ∀ r : Int, lookupL es (.int .i32 r) = (if chg l r then some () else none).map (fun _ => tT)
theorem beq_dec (a b : Int) : (a == b) = decide (b = a) := by rw [Bool.eq_iff_iff, beq_iff_eq, decide_eq_true_eq]; exact eq_comm
theorem chg_step {l : List Rule} {i : Nat} (h : i < l.length) (r : Int) : chg (l.drop i) r = ((decide ((l[i]).fr = r) || (runes (l[i]).«to»).contains r) || chg (l.drop (i + 1)) r) := by
  rw [List.drop_eq_getElem_cons h, chg_cons]
theorem cSteady (l : List Rule) (hr : ∀ r ∈ l, SmR r) : GCall Tryd.prog E 45 [DRs l] [] (fun d H => (∃ es, ChgM l es ∧ d = .fn 74 [.ipin [.imap es]]) ∧ H = []) := by
  refine GCall.body (C := ⟨Tryd.prog, E, true⟩) Tryd.func45 rfl (fun _ => rfl) (by kernel_rfl) rfl ?_
  refine SCode.seqR ?_
  refine SOps.assign rfl ?_
  refine SOps.nil ?_
  refine SCode.seqR ?_
  refine SOps.makeMap0 (fun b0 hb_0 => ?_)
  refine SOps.alloc (sz := 1) zeroIs_108 (fun b1 hb_1 => ?_)
  refine SOps.storeM 0 rfl rfl oneB_108 rfl ?_
  refine SOps.freezeRef (t := 3) 0 0 rfl rfl rfl rfl rfl ?_
  refine SOps.nil ?_
  refine SCode.seq ?_
  refine SCode.seqR ?_
  refine SOps.move rfl ?_
  refine SOps.lenM rfl sliceB_23_47_6 ?_
  refine SOps.move rfl ?_
  refine SOps.nil ?_
  refine SCode.block ?_
  refine SCode.loop3 (fun (i : Nat) (es : List (Value × DV)) (ks : List Int) => (⟨28, [(3, .ipin [.mp b0]), (9, DRs l), (10, .v (.int .i64 ((l.length : Nat) : Int))), (11, .v (.int .i64 (i : Int)))], [(b0, .map es)]⟩ : St)) (fun (i : Nat) (es : List (Value × DV)) (ks : List Int) => i ≤ l.length ∧ SetI es ks ∧ ∀ r, chg l r = (ks.contains r || chg (l.drop i) r)) (fun (i : Nat) (es : List (Value × DV)) (ks : List Int) => l.length - i) (0) ([]) ([]) (by exact ⟨Nat.zero_le _, SetI.nil, fun r => rfl⟩) (St.Le.of ⟨(by first | rfl | (show some _ = some _; simp)), (by first | rfl | (show some _ = some _; simp)), (by first | rfl | (show some _ = some _; simp)), (by first | rfl | (show some _ = some _; simp)), trivial⟩ rfl (by first | rfl | (simp))) ?_
  rintro i es ks ⟨hi, hS, hf⟩
  refine SCode.fact (isl_len (t := 9) rfl) (fun hB => ?_)
  simp only [List.length_map, lenB] at hB
  have hks := hS.keys
  refine SCode.seqR ?_
  refine SOps.bin rfl rfl rfl ?_
  refine SOps.nil ?_
  refine SCode.seq ?_
  refine SCode.cond rfl (fun hc1 => ?_) (fun hc1 => ?_)
  · try simp only [nmL] at hc1
    refine SCode.skip ?_
    show SCode _ _ _ _
    refine SCode.seq ?_
    refine SCode.block ?_
    refine SCode.seqR ?_
    have hil : i < l.length := by omega
    have hri := hr _ (List.getElem_mem hil)
    have hri1 := hri.1
    refine SOps.indexM (i) rfl rfl sliceB_23_47_6 (by first | omega | (simp only [lenB]; omega)) (by first | omega | (simp only [lenB]; omega)) ?_
    refine SOps.loadPinA rfl aggB_47_6 (Nat.le_of_ble_eq_true rfl) ?_
    refine SOps.alloc (sz := 6) zeroIs_47 (fun b2 hb_2 => ?_)
    refine SOps.storeAM 0 rfl rfl aggB_47_6 rfl ?_
    refine SOps.freezeRef (t := 5) 0 0 rfl rfl rfl rfl rfl ?_
    refine SOps.nil ?_
    refine SCode.seqR ?_
    refine SOps.loadPin rfl flatB_108 ?_
    refine SOps.fieldPin rfl fieldB_47_0_0 ?_
    refine SOps.loadPin rfl flatB_21 ?_
    refine SOps.mapUpdate 0 rfl rfl rfl rfl mapB_108 rfl (by assumption) ?_
    refine SOps.nil ?_
    refine SCode.seqR ?_
    refine SOps.fieldPin rfl fieldB_47_1_1 ?_
    refine SOps.loadPin rfl flatB_9 ?_
    refine SOps.rangeStr rfl strB_9 (fun b3 hb_3 => ?_)
    refine SOps.nil ?_
    refine SCode.block ?_
    refine SCode.loop4 (fun (p : Nat) (b : Nat) (es2 : List (Value × DV)) (ks2 : List Int) => (⟨28, [(3, .ipin [.mp b0]), (9, DRs l), (10, .v (.int .i64 ((l.length : Nat) : Int))), (11, .v (.int .i64 (i : Int))), (20, .it b)], [(b, .iter (l[i]).«to» p), (b0, .map es2)]⟩ : St)) (fun (p : Nat) (b : Nat) (es2 : List (Value × DV)) (ks2 : List Int) => SetI es2 ks2 ∧ ∀ r, chg l r = (ks2.contains r || ((runesAt (l[i]).«to» p).contains r || chg (l.drop (i + 1)) r))) (fun (p : Nat) (b : Nat) (es2 : List (Value × DV)) (ks2 : List Int) => (l[i]).«to».size - p) (0) (b3) (_) (ks ++ [(l[i]).fr]) (by exact ⟨hS.add _, fun r => by rw [hf r, chg_step hil, runesAt_zero]; simp only [List.contains_eq_any_beq, List.any_append, List.any_cons, List.any_nil, Bool.or_false, Bool.or_assoc, beq_dec]⟩) (St.Le.of ⟨(by first | rfl | (show some _ = some _; simp)), (by first | rfl | (show some _ = some _; simp)), (by first | rfl | (show some _ = some _; simp)), (by first | rfl | (show some _ = some _; simp)), (by first | rfl | (show some _ = some _; simp)), trivial⟩ rfl (by first | rfl | (simp))) ?_
    rintro p b es2 ks2 ⟨hS2, hf2⟩
    have hks2 := hS2.keys
    refine SCode.seqR ?_
    refine SOps.next 0 rfl rfl (fun hn2 => ?_) (fun hn2 => ?_) (by first | omega | (simp only [lenB]; omega))
    · refine SOps.extract rfl rfl ?_
      refine SOps.nil ?_
      refine SCode.seq ?_
      refine SCode.cond rfl (fun _ => ?_) (fun h => by cases h)
      refine SCode.skip ?_
      show SCode _ _ _ _
      refine SCode.block ?_
      refine SCode.seqR ?_
      refine SOps.extract rfl rfl ?_
      refine SOps.assign rfl ?_
      refine SOps.nil ?_
      refine SCode.region ?_
      refine SOps.loadPin rfl flatB_108 ?_
      refine SOps.move rfl ?_
      refine SOps.mapUpdate 1 rfl rfl rfl rfl mapB_108 rfl (by assumption) ?_
      refine SOps.nil ?_
      exact ⟨p + (Utf8.decode (l[i]).«to» p).2, b, _, ks2 ++ [_], ⟨hS2.add _, fun r => by rw [hf2 r, runesAt_lt hn2]; simp only [List.contains_eq_any_beq, List.any_append, List.any_cons, List.any_nil, Bool.or_false, Bool.or_assoc]⟩, by have := decode_w (l[i]).«to» p; omega, St.Le.of ⟨rfl, rfl, rfl, rfl, rfl, trivial⟩ rfl rfl⟩
    · refine SOps.extract rfl rfl ?_
      refine SOps.nil ?_
      refine SCode.seq ?_
      refine SCode.cond rfl (fun h => by cases h) (fun _ => ?_)
      refine SCode.exit ?_
      show SCode _ _ _ _
      refine SCode.region ?_
      refine SOps.addI rfl rfl (by first | omega | (simp only [lenB]; omega)) (by first | omega | (simp only [lenB]; omega)) ?_
      refine SOps.move rfl ?_
      refine SOps.nil ?_
      exact ⟨i + 1, es2, ks2, ⟨by omega, hS2, fun r => by rw [hf2 r, runesAt_ge hn2]; rfl⟩, by omega, St.Le.ofSub ⟨rfl, rfl, rfl, rfl, trivial⟩ (.cons _ (.refl _))⟩
  · try simp only [nmL] at hc1
    refine SCode.exit ?_
    show SCode _ _ _ _
    refine SCode.seqR ?_
    refine SOps.freezePinMap (t := 3) 0 rfl rfl rfl ?_
    refine SOps.makeFunc rfl ?_
    refine SOps.assign rfl ?_
    refine SOps.nil ?_
    refine SCode.drop ?_
    refine SCode.ret ?_
    exact ⟨_, Res.one (.tmp rfl), ⟨_, ⟨hS.keys, fun r => by rw [hS.look, hf r, List.drop_eq_nil_of_le (by omega), chg_nil, Bool.or_false]⟩, rfl⟩, rfl⟩
theorem cSteady1 (l : List Rule) (es : List (Value × DV)) (s : ByteArray) (hM : ChgM l es) (hs : s.size ≤ 1048576) : GCall Tryd.prog E 74 [.v (.string s), .ipin [.imap es]] [] (fun d H => d = .v (.string (keepS l s)) ∧ H = []) := by
  have hrl := runesAt_len s 0
  rw [runesAt_zero] at hrl
  have hks := hM.keys
  refine GCall.body (C := ⟨Tryd.prog, E, true⟩) Tryd.func74 rfl (fun _ => rfl) (by kernel_rfl) rfl ?_
  refine SCode.seqR ?_
  refine SOps.assign rfl ?_
  refine SOps.nil ?_
  refine SCode.seqR ?_
  refine SOps.allocV (sz := 2) zeroBld (fun b0 hb_0 => ?_)
  refine SOps.nil ?_
  refine SCode.seq ?_
  refine SCode.seqR ?_
  refine SOps.move rfl ?_
  refine SOps.rangeStr rfl strB_9 (fun b1 hb_1 => ?_)
  refine SOps.nil ?_
  refine SCode.block ?_
  refine SCode.loop5 (fun (p : Nat) (b : Nat) (g : Nat) (u : Bool) (bs : List UInt8) => (⟨19, [(1, .ipin [.imap es]), (4, .vref b0 100 2), (8, .it b)], [(b, .iter s p)] ++ bldH b0 g u bs⟩ : St)) (fun (p : Nat) (b : Nat) (g : Nat) (u : Bool) (bs : List UInt8) => bs ++ (encs ((runesAt s p).filter (fun c => !chg l c))).data.toList = (encs ((runes s).filter (fun c => !chg l c))).data.toList) (fun (p : Nat) (b : Nat) (g : Nat) (u : Bool) (bs : List UInt8) => s.size - p) (0) (b1) (0) (false) ([]) (by rfl) (St.Le.of ⟨(by first | rfl | (show some _ = some _; simp)), (by first | rfl | (show some _ = some _; simp)), (by first | rfl | (show some _ = some _; simp)), trivial⟩ rfl (by first | rfl | (simp))) ?_
  rintro p b g u bs hf
  have hbl : bs.length ≤ 8388608 := by have h8 := congrArg List.length hf; rw [List.length_append] at h8; have h9 := encs_size4 ((runes s).filter (fun c => !chg l c)); have h10 := List.length_filter_le (fun c => !chg l c) (runes s); have h11 : (encs ((runes s).filter (fun c => !chg l c))).data.toList.length = (encs ((runes s).filter (fun c => !chg l c))).size := (by simp); omega
  refine SCode.seqR ?_
  refine SOps.next 0 rfl rfl (fun hn1 => ?_) (fun hn1 => ?_) (by first | omega | (simp only [lenB]; omega))
  · refine SOps.extract rfl rfl ?_
    refine SOps.nil ?_
    refine SCode.seq ?_
    refine SCode.cond rfl (fun _ => ?_) (fun h => by cases h)
    refine SCode.skip ?_
    show SCode _ _ _ _
    refine SCode.block ?_
    refine SCode.seqR ?_
    refine SOps.extract rfl rfl ?_
    refine SOps.assign rfl ?_
    refine SOps.nil ?_
    refine SCode.seqR ?_
    refine SOps.loadPin rfl flatB_108 ?_
    refine SOps.move rfl ?_
    refine SOps.lookupIM (if chg l ((Utf8.decode s p).1 : Int) then some () else none) (fun _ => tT) rfl rfl mapB_108 (hks) zeroIs_4 ((hM.look _)) (fun y2 hy2 => ?_) (fun hy2 => ?_)
    · have hmm : chg l ((Utf8.decode s p).1 : Int) = true := by cases h : chg l ((Utf8.decode s p).1 : Int) with | true => rfl | false => rw [h] at hy2; cases hy2
      refine SOps.un rfl rfl ?_
      refine SOps.nil ?_
      refine SCode.cond rfl (fun hc3 => ?_) (fun hc3 => ?_)
      · try simp only [nmL] at hc3
        refine SCode.region ?_
        refine SOps.move rfl ?_
        refine SOps.callR (bldH _ _ _ _) [_] (bWriteRune _ _ _ _ _ (decode_valid _ _) (by omega)) rfl rfl ?_
        rintro _ _ ⟨g7, n7, rfl, rfl⟩
        refine SOps.nil ?_
        first
          | exact ⟨p + (Utf8.decode s p).2, b, g7, true, bs ++ encBy _, by rw [← hf, runesAt_lt hn1, List.filter_cons, if_pos (by simp_all), encs_cons_data, List.append_assoc], by have := decode_w s p; omega, St.Le.of ⟨rfl, rfl, rfl,  trivial⟩ rfl rfl⟩
          | exact ⟨p + (Utf8.decode s p).2, b, g, u, bs, by rw [← hf, runesAt_lt hn1, List.filter_cons, if_neg (by simp_all)], by have := decode_w s p; omega, St.Le.of ⟨rfl, rfl, rfl,  trivial⟩ rfl rfl⟩
      · try simp only [nmL] at hc3
        refine SCode.skip ?_
        first
          | exact ⟨p + (Utf8.decode s p).2, b, g7, true, bs ++ encBy _, by rw [← hf, runesAt_lt hn1, List.filter_cons, if_pos (by simp_all), encs_cons_data, List.append_assoc], by have := decode_w s p; omega, St.Le.of ⟨rfl, rfl, rfl,  trivial⟩ rfl rfl⟩
          | exact ⟨p + (Utf8.decode s p).2, b, g, u, bs, by rw [← hf, runesAt_lt hn1, List.filter_cons, if_neg (by simp_all)], by have := decode_w s p; omega, St.Le.of ⟨rfl, rfl, rfl,  trivial⟩ rfl rfl⟩
    · have hmm : chg l ((Utf8.decode s p).1 : Int) = false := by cases h : chg l ((Utf8.decode s p).1 : Int) with | false => rfl | true => rw [h] at hy2; cases hy2
      refine SOps.un rfl rfl ?_
      refine SOps.nil ?_
      refine SCode.cond rfl (fun _ => ?_) (fun h => by cases h)
      refine SCode.region ?_
      refine SOps.move rfl ?_
      refine SOps.callR (bldH _ _ _ _) [_] (bWriteRune _ _ _ _ _ (decode_valid _ _) (by omega)) rfl rfl ?_
      rintro _ _ ⟨g7, n7, rfl, rfl⟩
      refine SOps.nil ?_
      first
        | exact ⟨p + (Utf8.decode s p).2, b, g7, true, bs ++ encBy _, by rw [← hf, runesAt_lt hn1, List.filter_cons, if_pos (by simp_all), encs_cons_data, List.append_assoc], by have := decode_w s p; omega, St.Le.of ⟨rfl, rfl, rfl,  trivial⟩ rfl rfl⟩
        | exact ⟨p + (Utf8.decode s p).2, b, g, u, bs, by rw [← hf, runesAt_lt hn1, List.filter_cons, if_neg (by simp_all)], by have := decode_w s p; omega, St.Le.of ⟨rfl, rfl, rfl,  trivial⟩ rfl rfl⟩
  · refine SOps.extract rfl rfl ?_
    refine SOps.nil ?_
    refine SCode.seq ?_
    refine SCode.cond rfl (fun h => by cases h) (fun _ => ?_)
    refine SCode.exit ?_
    show SCode _ _ _ _
    refine SCode.seqR ?_
    refine SOps.callR (bldH _ _ _ _) [_] (bString _ _ _ _ (by omega)) rfl rfl ?_
    rintro _ _ ⟨rfl, rfl⟩
    refine SOps.assign rfl ?_
    refine SOps.nil ?_
    refine SCode.drop ?_
    refine SCode.ret ?_
    have hbs : bs = (keepS l s).data.toList := by rw [runesAt_ge hn1] at hf; rw [← List.append_nil bs]; exact hf
    exact ⟨_, Res.one (.tmp rfl), (by rw [hbs, ba_list]), rfl⟩
end Go.GH
namespace Go.GH
open Go
theorem flat_at {α β : Type} (f : α → List β) (N : Nat) (hN : ∀ x, (f x).length = N) : ∀ (l : List α) (i t : Nat), t < N → (l.flatMap f)[i * N + t]? = (l[i]?).bind (fun x => (f x)[t]?)
  | [], i, t, _ => by simp
  | x :: l, 0, t, ht => by
    rw [List.flatMap_cons, Nat.zero_mul, Nat.zero_add, List.getElem?_append_left (by rw [hN]; exact ht)]
    rfl
  | x :: l, i + 1, t, ht => by
    rw [List.flatMap_cons, List.getElem?_append_right (by rw [hN, Nat.succ_mul]; omega), hN]
    have e : (i + 1) * N + t - N = i * N + t := by rw [Nat.succ_mul]; omega
    rw [e, flat_at f N hN l i t ht]
    rfl
def candD (hs cs : List ByteArray) : List DV := (candL hs cs).map (fun s => DV.agg (encSg s))
def cN (cs : List ByteArray) : Nat := 1 + cs.length + cs.length * cs.length
theorem candD_len (hs cs : List ByteArray) : (candD hs cs).length = hs.length * cN cs := by rw [candD, List.length_map, candL_len]; rfl
theorem candD_at {hs cs : List ByteArray} {i t : Nat} (hi : i < hs.length) (ht : t < cN cs) {q : List ByteArray} (hq : (seqL cs)[t]? = some q) : (candD hs cs)[i * cN cs + t]? = some (.agg (encSg ⟨hs[i], q⟩)) := by
  unfold candD candL
  rw [List.getElem?_map, flat_at _ (cN cs) (fun x => by rw [List.length_map, seqL_len]; rfl) hs i t ht, List.getElem?_eq_getElem hi]
  simp [hq]
theorem cand0 {hs cs : List ByteArray} {i : Nat} (hi : i < hs.length) : (candD hs cs)[i * cN cs]? = some (.agg (encSg ⟨hs[i], []⟩)) := by
  have := candD_at (cs := cs) hi (t := 0) (by unfold cN; omega) (q := []) rfl
  rwa [Nat.add_zero] at this
theorem seq1 {cs : List ByteArray} {j : Nat} (hj : j < cs.length) : (seqL cs)[1 + j]? = some [cs[j]] := by
  unfold seqL
  rw [Nat.add_comm, List.getElem?_cons_succ, List.getElem?_append_left (by rw [List.length_map]; exact hj), List.getElem?_map, List.getElem?_eq_getElem hj]; rfl
theorem seq2 {cs : List ByteArray} {j k : Nat} (hj : j < cs.length) (hk : k < cs.length) : (seqL cs)[1 + cs.length + j * cs.length + k]? = some [cs[j], cs[k]] := by
  unfold seqL
  rw [show 1 + cs.length + j * cs.length + k = (cs.length + (j * cs.length + k)) + 1 by omega, List.getElem?_cons_succ, List.getElem?_append_right (by rw [List.length_map]; omega), List.length_map, Nat.add_sub_cancel_left,
    flat_at _ cs.length (fun x => by rw [List.length_map]) cs j k hk, List.getElem?_eq_getElem hj]
  simp [hk]
theorem cand1 {hs cs : List ByteArray} {i j : Nat} (hi : i < hs.length) (hj : j < cs.length) : (candD hs cs)[i * cN cs + 1 + j]? = some (.agg (encSg ⟨hs[i], [cs[j]]⟩)) := by
  rw [Nat.add_assoc]
  exact candD_at hi (by unfold cN; omega) (seq1 hj)
theorem mul_lt' {j k m : Nat} (hj : j < m) (hk : k < m) : j * m + k < m * m := by
  have h1 : (j + 1) * m ≤ m * m := Nat.mul_le_mul_right m hj
  rw [Nat.succ_mul] at h1
  omega
theorem cand2 {hs cs : List ByteArray} {i j k : Nat} (hi : i < hs.length) (hj : j < cs.length) (hk : k < cs.length) : (candD hs cs)[i * cN cs + 1 + cs.length + j * cs.length + k]? = some (.agg (encSg ⟨hs[i], [cs[j], cs[k]]⟩)) := by
  rw [show i * cN cs + 1 + cs.length + j * cs.length + k = i * cN cs + (1 + cs.length + j * cs.length + k) by omega]
  exact candD_at hi (by have := mul_lt' hj hk; unfold cN; omega) (seq2 hj hk)
theorem cutP_size (x : ByteArray × Bool) (p : ByteArray) : (cutP x p).1.size ≤ x.1.size := by
  unfold cutP
  split
  · split
    · show (x.1.extract p.size x.1.size).size ≤ _
      rw [ByteArray.size_extract]; omega
    · exact Nat.le_refl _
  · exact Nat.le_refl _
theorem keepS_size (l : List Rule) (s : ByteArray) : (keepS l s).size ≤ 4 * (runes s).length := by
  have h1 := encs_size4 (keepR l s)
  have h2 : (keepR l s).length ≤ (runes s).length := List.length_filter_le _ _
  unfold keepS
  omega
end Go.GH
namespace Go.GH
open Go Go.Proofs
variable {E : Env}
theorem flatB_72 : flatB Tryd.prog 72 = true := by kernel_rfl
theorem mapB_72 : mapB Tryd.prog 72 9 9 (.string) := ⟨by kernel_rfl, by kernel_rfl⟩
theorem placesB_50 : placesB Tryd.prog 50 [(0, 1), (1, 1)] = true := by kernel_rfl
theorem zeroIs_50 : zeroIs Tryd.prog 50 (.agg #[.string .empty, .slice none 0 0]) := by unfold zeroIs; kernel_rfl
theorem cPoss (l : List Rule) (w : ByteArray) (es : List (Value × DV)) (ks : List ByteArray) (sg : Sg) (hM : MapS (keepS l) es ks) (hw : (runes w).length ≤ 1000) (hh : memS sg.host ks = true) (hc : ∀ c ∈ sg.cls, memS c ks = true) : GCall Tryd.prog E 46 [.agg (encSg sg), .ipin [.v (.string (keepS l w))], .ipin [.imap es]] [] (fun d H => d = .v (.bool (possB l w sg)) ∧ H = []) := by
  have hks := hM.keys
  have hkz := keepS_size l w
  have hks2 : (keepS l w).size ≤ 1048576 := by omega
  refine GCall.body (C := ⟨Tryd.prog, E, true⟩) Tryd.func46 rfl (fun _ => rfl) (by kernel_rfl) rfl ?_
  refine SCode.seqR ?_
  refine SOps.boxAM rfl rfl ?_
  refine SOps.assign rfl ?_
  refine SOps.nil ?_
  refine SCode.seqR ?_
  refine SOps.loadPin rfl flatB_9 ?_
  refine SOps.loadPin rfl flatB_72 ?_
  refine SOps.fieldPin rfl fieldB_50_0_0 ?_
  refine SOps.loadPin rfl flatB_9 ?_
  refine SOps.lookupIM (some (keepS l sg.host)) (fun x => DV.v (.string x)) rfl rfl mapB_72 (hks) zeroIs_9 ((by rw [hM.look, if_pos hh])) (fun y1 hy1 => ?_) (fun hy1 => ?_)
  · obtain rfl := Option.some.inj hy1
    refine SOps.callP (sCutPrefix _ _ hks2) rfl ?_
    rintro _ rfl
    refine SOps.move rfl ?_
    refine SOps.extract rfl rfl ?_
    refine SOps.extract rfl rfl ?_
    refine SOps.assign rfl ?_
    refine SOps.assign rfl ?_
    refine SOps.nil ?_
    refine SCode.seq ?_
    refine SCode.seqR ?_
    refine SOps.fieldPin rfl fieldB_50_1_1 ?_
    refine SOps.loadPin rfl flatB_35 ?_
    refine SOps.lenM rfl sliceB_35_9_1 ?_
    refine SOps.move rfl ?_
    refine SOps.nil ?_
    refine SCode.block ?_
    refine SCode.loop3 (fun (i : Nat) (z : ByteArray) (u : Bool) => (⟨40, [(2, .ipin [.imap es]), (5, .v (.string z)), (6, .v (.bool u)), (19, DStrs sg.cls), (20, .v (.int .i64 ((sg.cls.length : Nat) : Int))), (21, .v (.int .i64 (i : Int)))], []⟩ : St)) (fun (i : Nat) (z : ByteArray) (u : Bool) => i ≤ sg.cls.length ∧ z.size ≤ 1048576 ∧ (sg.cls.drop i).foldl (fun x c => cutP x (keepS l c)) (z, u) = sg.cls.foldl (fun x c => cutP x (keepS l c)) (cutP (keepS l w, true) (keepS l sg.host))) (fun (i : Nat) (z : ByteArray) (u : Bool) => sg.cls.length - i) (0) ((cutP (keepS l w, true) (keepS l sg.host)).1) ((cutP (keepS l w, true) (keepS l sg.host)).2) (by exact ⟨Nat.zero_le _, Nat.le_trans (cutP_size _ _) hks2, rfl⟩) (St.Le.of ⟨(by first | rfl | (show some _ = some _; simp)), (by first | rfl | (show some _ = some _; simp)), (by first | rfl | (show some _ = some _; simp)), (by first | rfl | (show some _ = some _; simp)), (by first | rfl | (show some _ = some _; simp)), (by first | rfl | (show some _ = some _; simp)), trivial⟩ rfl (by first | rfl | (simp))) ?_
    rintro i z u ⟨hi, hz, hf⟩
    refine SCode.fact (isl_len (t := 19) rfl) (fun hB => ?_)
    simp only [List.length_map, lenB] at hB
    refine SCode.seqR ?_
    refine SOps.bin rfl rfl rfl ?_
    refine SOps.nil ?_
    refine SCode.seq ?_
    refine SCode.cond rfl (fun hc2 => ?_) (fun hc2 => ?_)
    · try simp only [nmL] at hc2
      refine SCode.skip ?_
      show SCode _ _ _ _
      refine SCode.seq ?_
      refine SCode.block ?_
      refine SCode.seqR ?_
      have hil : i < sg.cls.length := by omega
      have hci := hc _ (List.getElem_mem hil)
      have hdr : sg.cls.drop i = sg.cls[i] :: sg.cls.drop (i + 1) := List.drop_eq_getElem_cons hil
      refine SOps.indexM (i) rfl rfl sliceB_35_9_1 (by first | omega | (simp only [lenB]; omega)) (by first | omega | (simp only [lenB]; omega)) ?_
      refine SOps.loadPin rfl flatB_9 ?_
      refine SOps.assign rfl ?_
      refine SOps.nil ?_
      refine SCode.seqR ?_
      refine SOps.move rfl ?_
      refine SOps.nil ?_
      refine SCode.cond rfl (fun hc3 => ?_) (fun hc3 => ?_)
      · try simp only [nmL] at hc3
        subst hc3
        refine SCode.region ?_
        refine SOps.move rfl ?_
        refine SOps.loadPin rfl flatB_72 ?_
        refine SOps.move rfl ?_
        refine SOps.lookupIM (some (keepS l (sg.cls[i]))) (fun x => DV.v (.string x)) rfl rfl mapB_72 (hks) zeroIs_9 ((by rw [hM.look, if_pos hci])) (fun y4 hy4 => ?_) (fun hy4 => ?_)
        · obtain rfl := Option.some.inj hy4
          refine SOps.callP (sCutPrefix _ _ hz) rfl ?_
          rintro _ rfl
          refine SOps.move rfl ?_
          refine SOps.extract rfl rfl ?_
          refine SOps.extract rfl rfl ?_
          refine SOps.assign rfl ?_
          refine SOps.assign rfl ?_
          refine SOps.nil ?_
          show SCode _ _ _ _
          refine SCode.region ?_
          refine SOps.addI rfl rfl (by first | omega | (simp only [lenB]; omega)) (by first | omega | (simp only [lenB]; omega)) ?_
          refine SOps.move rfl ?_
          refine SOps.nil ?_
          first
            | exact ⟨i + 1, (cutP (z, true) (keepS l (sg.cls[i]))).1, (cutP (z, true) (keepS l (sg.cls[i]))).2, ⟨by omega, Nat.le_trans (cutP_size _ _) hz, by rw [← hf, hdr]; rfl⟩, by omega, St.Le.of ⟨rfl, rfl, rfl, rfl, rfl, rfl, trivial⟩⟩
            | exact ⟨i + 1, z, false, ⟨by omega, hz, by rw [← hf, hdr]; rfl⟩, by omega, St.Le.of ⟨rfl, rfl, rfl, rfl, rfl, rfl, trivial⟩⟩
        · cases hy4
      · try simp only [nmL] at hc3
        subst hc3
        refine SCode.skip ?_
        show SCode _ _ _ _
        refine SCode.region ?_
        refine SOps.addI rfl rfl (by first | omega | (simp only [lenB]; omega)) (by first | omega | (simp only [lenB]; omega)) ?_
        refine SOps.move rfl ?_
        refine SOps.nil ?_
        first
          | exact ⟨i + 1, (cutP (z, true) (keepS l (sg.cls[i]))).1, (cutP (z, true) (keepS l (sg.cls[i]))).2, ⟨by omega, Nat.le_trans (cutP_size _ _) hz, by rw [← hf, hdr]; rfl⟩, by omega, St.Le.of ⟨rfl, rfl, rfl, rfl, rfl, rfl, trivial⟩⟩
          | exact ⟨i + 1, z, false, ⟨by omega, hz, by rw [← hf, hdr]; rfl⟩, by omega, St.Le.of ⟨rfl, rfl, rfl, rfl, rfl, rfl, trivial⟩⟩
    · try simp only [nmL] at hc2
      refine SCode.exit ?_
      show SCode _ _ _ _
      refine SCode.seqR ?_
      refine SOps.move rfl ?_
      refine SOps.move rfl ?_
      refine SOps.caseB 36 rfl (fun hb5 => ?_) (fun hb5 => ?_)
      · try simp only [nmL] at hb5
        refine SOps.move rfl ?_
        refine SOps.bin rfl rfl rfl ?_
        refine SOps.pick rfl rfl ?_
        refine SOps.assign rfl ?_
        refine SOps.nil ?_
        refine SCode.ret ?_
        have hx : (z, u) = sg.cls.foldl (fun x c => cutP x (keepS l c)) (cutP (keepS l w, true) (keepS l sg.host)) := by rw [← hf, List.drop_eq_nil_of_le (by omega)]; rfl
        exact ⟨_, Res.one (.tmp rfl), congrArg (fun b => DV.v (.bool b)) (by unfold possB; rw [← hx]; first | (rw [show u = true by simp_all]; done) | (rw [show u = true by simp_all, Bool.true_and]; done) | (rw [show u = true by simp_all]; rfl) | (rw [show u = false by simp_all]; rfl)), rfl⟩
      · try simp only [nmL] at hb5
        refine SOps.skip rfl ?_
        refine SOps.skip rfl ?_
        refine SOps.pick rfl rfl ?_
        refine SOps.assign rfl ?_
        refine SOps.nil ?_
        refine SCode.ret ?_
        have hx : (z, u) = sg.cls.foldl (fun x c => cutP x (keepS l c)) (cutP (keepS l w, true) (keepS l sg.host)) := by rw [← hf, List.drop_eq_nil_of_le (by omega)]; rfl
        exact ⟨_, Res.one (.tmp rfl), congrArg (fun b => DV.v (.bool b)) (by unfold possB; rw [← hx]; first | (rw [show u = true by simp_all]; done) | (rw [show u = true by simp_all, Bool.true_and]; done) | (rw [show u = true by simp_all]; rfl) | (rw [show u = false by simp_all]; rfl)), rfl⟩
  · cases hy1
theorem cCandidates (hs cs : List ByteArray)  : GCall Tryd.prog E 48 [DStrs hs, DStrs cs] [] (fun d H => d = .fn 76 [.ipin [DStrs hs], .ipin [DStrs cs]] ∧ H = []) := by
  refine GCall.body (C := ⟨Tryd.prog, E, true⟩) Tryd.func48 rfl (fun _ => rfl) (by kernel_rfl) rfl ?_
  refine SCode.seqR ?_
  refine SOps.boxF rfl rfl rfl ?_
  refine SOps.boxF rfl rfl rfl ?_
  refine SOps.assign rfl ?_
  refine SOps.nil ?_
  refine SCode.seqR ?_
  refine SOps.makeFunc rfl ?_
  refine SOps.assign rfl ?_
  refine SOps.nil ?_
  refine SCode.ret ?_
  exact ⟨_, Res.one (.tmp rfl), rfl, rfl⟩
theorem iCandidates (hs cs : List ByteArray) : GIter Tryd.prog E 76 [.ipin [DStrs hs], .ipin [DStrs cs]] (candD hs cs) := by
  refine GIter.body (C := ⟨Tryd.prog, E, true⟩) Tryd.func76 rfl (by kernel_rfl) rfl rfl (fun l J hK hY => ?_)
  refine SYCode.seqR ?_
  refine SYOps.one hK (SOps.loadPin rfl flatB_35 (SOps.nil rfl)) rfl rfl ?_
  refine SYOps.one hK (SOps.lenM rfl sliceB_35_9_1 (SOps.nil rfl)) rfl rfl ?_
  refine SYOps.one hK (SOps.move rfl (SOps.nil rfl)) rfl rfl ?_
  refine SYOps.nil ?_
  refine SYCode.block ?_
  refine SYCode.loop1 (ι := fun i => i * cN cs) (hx := by exact Nat.zero_mul _) (fun (i : Nat) => (⟨60, [(0, .v (.func (.yield l) #[] #[])), (1, .ipin [DStrs hs]), (2, .ipin [DStrs cs]), (12, DStrs hs), (13, .v (.int .i64 ((hs.length : Nat) : Int))), (14, .v (.int .i64 (i : Int)))], []⟩ : St)) (fun (i : Nat) => i ≤ hs.length) (fun (i : Nat) => hs.length - i) (0) (by exact Nat.zero_le _) (St.Le.of ⟨(by first | rfl | (show some _ = some _; simp)), (by first | rfl | (show some _ = some _; simp)), (by first | rfl | (show some _ = some _; simp)), (by first | rfl | (show some _ = some _; simp)), (by first | rfl | (show some _ = some _; simp)), (by first | rfl | (show some _ = some _; simp)), trivial⟩ rfl (by first | rfl | (simp))) ?_
  rintro i hi
  refine SYCode.fact (isl_len (t := 12) rfl) (fun hB => ?_)
  simp only [List.length_map, lenB] at hB
  refine SYCode.seqR ?_
  refine SYOps.one hK (SOps.bin rfl rfl rfl (SOps.nil rfl)) rfl rfl ?_
  refine SYOps.nil ?_
  refine SYCode.seq ?_
  refine SYCode.cond rfl (fun hc1 => ?_) (fun hc1 => ?_)
  · try simp only [nmL] at hc1
    refine SYCode.skip ?_
    show SYCode _ _ _ _ _ _
    refine SYCode.seq ?_
    refine SYCode.block ?_
    refine SYCode.seqR ?_
    have hil : i < hs.length := by omega
    refine SYOps.one hK (SOps.indexM (i) rfl rfl sliceB_35_9_1 (by first | omega | (simp only [lenB]; omega)) (by first | omega | (simp only [lenB]; omega)) (SOps.nil rfl)) rfl rfl ?_
    refine SYOps.one hK (SOps.loadPin rfl flatB_9 (SOps.nil rfl)) rfl rfl ?_
    refine SYOps.one hK (SOps.assign rfl (SOps.nil rfl)) rfl rfl ?_
    refine SYOps.nil ?_
    refine SYCode.seq ?_
    refine SYCode.seqR ?_
    refine SYOps.one hK (SOps.move rfl (SOps.nil rfl)) rfl rfl ?_
    refine SYOps.one hK (SOps.move rfl (SOps.nil rfl)) rfl rfl ?_
    refine SYOps.one hK (SOps.buildM placesB_50 zeroIs_50 rfl rfl (SOps.nil rfl)) rfl rfl ?_
    refine SYOps.relab (t := 20) (d' := .agg (encSg ⟨hs[i], []⟩)) rfl (fun w F v hv => rep_aggNil (sz := 1) 1 hv rfl) ?_
    refine SYOps.yield hY rfl rfl (cand0 hil) rfl ?_
    refine SYOps.one hK (SOps.un rfl rfl (SOps.nil rfl)) rfl rfl ?_
    refine SYOps.nil ?_
    refine SYCode.cond rfl (fun h => by cases h) (fun _ => ?_)
    refine SYCode.skip ?_
    show SYCode _ _ _ _ _ _
    refine SYCode.seq ?_
    refine SYCode.seqR ?_
    refine SYOps.one hK (SOps.loadPin rfl flatB_35 (SOps.nil rfl)) rfl rfl ?_
    refine SYOps.one hK (SOps.lenM rfl sliceB_35_9_1 (SOps.nil rfl)) rfl rfl ?_
    refine SYOps.one hK (SOps.move rfl (SOps.nil rfl)) rfl rfl ?_
    refine SYOps.nil ?_
    refine SYCode.block ?_
    refine SYCode.loop1 (ι := fun j => i * cN cs + 1 + j) (hx := by rfl) (fun (j : Nat) => (⟨60, [(0, .v (.func (.yield l) #[] #[])), (1, .ipin [DStrs hs]), (2, .ipin [DStrs cs]), (5, .v (.string (hs[i]))), (12, DStrs hs), (13, .v (.int .i64 ((hs.length : Nat) : Int))), (14, .v (.int .i64 (i : Int))), (23, DStrs cs), (24, .v (.int .i64 ((cs.length : Nat) : Int))), (25, .v (.int .i64 (j : Int)))], []⟩ : St)) (fun (j : Nat) => j ≤ cs.length) (fun (j : Nat) => cs.length - j) (0) (by exact Nat.zero_le _) (St.Le.of ⟨(by first | rfl | (show some _ = some _; simp)), (by first | rfl | (show some _ = some _; simp)), (by first | rfl | (show some _ = some _; simp)), (by first | rfl | (show some _ = some _; simp)), (by first | rfl | (show some _ = some _; simp)), (by first | rfl | (show some _ = some _; simp)), (by first | rfl | (show some _ = some _; simp)), (by first | rfl | (show some _ = some _; simp)), (by first | rfl | (show some _ = some _; simp)), (by first | rfl | (show some _ = some _; simp)), trivial⟩ rfl (by first | rfl | (simp))) ?_
    rintro j hj
    refine SYCode.fact (isl_len (t := 23) rfl) (fun hB2 => ?_)
    simp only [List.length_map, lenB] at hB2
    refine SYCode.seqR ?_
    refine SYOps.one hK (SOps.bin rfl rfl rfl (SOps.nil rfl)) rfl rfl ?_
    refine SYOps.nil ?_
    refine SYCode.seq ?_
    refine SYCode.cond rfl (fun hc2 => ?_) (fun hc2 => ?_)
    · try simp only [nmL] at hc2
      refine SYCode.skip ?_
      show SYCode _ _ _ _ _ _
      refine SYCode.seq ?_
      refine SYCode.block ?_
      refine SYCode.seqR ?_
      have hjl : j < cs.length := by omega
      refine SYOps.one hK (SOps.indexM (j) rfl rfl sliceB_35_9_1 (by first | omega | (simp only [lenB]; omega)) (by first | omega | (simp only [lenB]; omega)) (SOps.nil rfl)) rfl rfl ?_
      refine SYOps.one hK (SOps.loadPin rfl flatB_9 (SOps.nil rfl)) rfl rfl ?_
      refine SYOps.one hK (SOps.assign rfl (SOps.nil rfl)) rfl rfl ?_
      refine SYOps.nil ?_
      refine SYCode.seqR ?_
      refine SYOps.one hK (SOps.move rfl (SOps.nil rfl)) rfl rfl ?_
      refine SYOps.one hK (SOps.move rfl (SOps.nil rfl)) rfl rfl ?_
      refine SYOps.one hK (SOps.move rfl (SOps.nil rfl)) rfl rfl ?_
      refine SYOps.one hK (SOps.litF rfl sliceB_35_9_1 zeroIs_9 rfl (SOps.nil rfl)) rfl rfl ?_
      refine SYOps.one hK (SOps.buildM placesB_50 zeroIs_50 rfl rfl (SOps.nil rfl)) rfl rfl ?_
      refine SYOps.yield hY rfl rfl (cand1 hil hjl) rfl ?_
      refine SYOps.one hK (SOps.un rfl rfl (SOps.nil rfl)) rfl rfl ?_
      refine SYOps.nil ?_
      refine SYCode.cond rfl (fun h => by cases h) (fun _ => ?_)
      refine SYCode.skip ?_
      show SYCode _ _ _ _ _ _
      refine SYCode.region ?_
      refine SYOps.one hK (SOps.addI rfl rfl (by first | omega | (simp only [lenB]; omega)) (by first | omega | (simp only [lenB]; omega)) (SOps.nil rfl)) rfl rfl ?_
      refine SYOps.one hK (SOps.move rfl (SOps.nil rfl)) rfl rfl ?_
      refine SYOps.nil ?_
      exact ⟨j + 1, by omega, by omega, St.Le.of ⟨rfl, rfl, rfl, rfl, rfl, rfl, rfl, rfl, rfl, rfl, trivial⟩, by show i * cN cs + 1 + (j + 1) = i * cN cs + 1 + j + 1; omega⟩
    · try simp only [nmL] at hc2
      refine SYCode.exit ?_
      show SYCode _ _ _ _ _ _
      refine SYCode.seqR ?_
      refine SYOps.one hK (SOps.loadPin rfl flatB_35 (SOps.nil rfl)) rfl rfl ?_
      refine SYOps.one hK (SOps.lenM rfl sliceB_35_9_1 (SOps.nil rfl)) rfl rfl ?_
      refine SYOps.one hK (SOps.move rfl (SOps.nil rfl)) rfl rfl ?_
      refine SYOps.nil ?_
      refine SYCode.block ?_
      refine SYCode.loop1 (ι := fun j => i * cN cs + 1 + cs.length + j * cs.length) (hx := by show i * cN cs + 1 + cs.length + 0 * cs.length = i * cN cs + 1 + j; rw [Nat.zero_mul]; omega) (fun (j : Nat) => (⟨60, [(0, .v (.func (.yield l) #[] #[])), (1, .ipin [DStrs hs]), (2, .ipin [DStrs cs]), (5, .v (.string (hs[i]))), (12, DStrs hs), (13, .v (.int .i64 ((hs.length : Nat) : Int))), (14, .v (.int .i64 (i : Int))), (37, DStrs cs), (38, .v (.int .i64 ((cs.length : Nat) : Int))), (39, .v (.int .i64 (j : Int)))], []⟩ : St)) (fun (j : Nat) => j ≤ cs.length) (fun (j : Nat) => cs.length - j) (0) (by exact Nat.zero_le _) (St.Le.of ⟨(by first | rfl | (show some _ = some _; simp)), (by first | rfl | (show some _ = some _; simp)), (by first | rfl | (show some _ = some _; simp)), (by first | rfl | (show some _ = some _; simp)), (by first | rfl | (show some _ = some _; simp)), (by first | rfl | (show some _ = some _; simp)), (by first | rfl | (show some _ = some _; simp)), (by first | rfl | (show some _ = some _; simp)), (by first | rfl | (show some _ = some _; simp)), (by first | rfl | (show some _ = some _; simp)), trivial⟩ rfl (by first | rfl | (simp))) ?_
      rintro j hj
      refine SYCode.fact (isl_len (t := 37) rfl) (fun hB3 => ?_)
      simp only [List.length_map, lenB] at hB3
      refine SYCode.seqR ?_
      refine SYOps.one hK (SOps.bin rfl rfl rfl (SOps.nil rfl)) rfl rfl ?_
      refine SYOps.nil ?_
      refine SYCode.seq ?_
      refine SYCode.cond rfl (fun hc3 => ?_) (fun hc3 => ?_)
      · try simp only [nmL] at hc3
        refine SYCode.skip ?_
        show SYCode _ _ _ _ _ _
        refine SYCode.seq ?_
        refine SYCode.block ?_
        refine SYCode.seqR ?_
        have hjl : j < cs.length := by omega
        refine SYOps.one hK (SOps.indexM (j) rfl rfl sliceB_35_9_1 (by first | omega | (simp only [lenB]; omega)) (by first | omega | (simp only [lenB]; omega)) (SOps.nil rfl)) rfl rfl ?_
        refine SYOps.one hK (SOps.loadPin rfl flatB_9 (SOps.nil rfl)) rfl rfl ?_
        refine SYOps.one hK (SOps.assign rfl (SOps.nil rfl)) rfl rfl ?_
        refine SYOps.nil ?_
        refine SYCode.seqR ?_
        refine SYOps.one hK (SOps.loadPin rfl flatB_35 (SOps.nil rfl)) rfl rfl ?_
        refine SYOps.one hK (SOps.lenM rfl sliceB_35_9_1 (SOps.nil rfl)) rfl rfl ?_
        refine SYOps.one hK (SOps.move rfl (SOps.nil rfl)) rfl rfl ?_
        refine SYOps.nil ?_
        refine SYCode.block ?_
        refine SYCode.loop1 (ι := fun k => i * cN cs + 1 + cs.length + j * cs.length + k) (hx := by rfl) (fun (k : Nat) => (⟨60, [(0, .v (.func (.yield l) #[] #[])), (1, .ipin [DStrs hs]), (2, .ipin [DStrs cs]), (5, .v (.string (hs[i]))), (9, .v (.string (cs[j]))), (12, DStrs hs), (13, .v (.int .i64 ((hs.length : Nat) : Int))), (14, .v (.int .i64 (i : Int))), (37, DStrs cs), (38, .v (.int .i64 ((cs.length : Nat) : Int))), (39, .v (.int .i64 (j : Int))), (43, DStrs cs), (44, .v (.int .i64 ((cs.length : Nat) : Int))), (45, .v (.int .i64 (k : Int)))], []⟩ : St)) (fun (k : Nat) => k ≤ cs.length) (fun (k : Nat) => cs.length - k) (0) (by exact Nat.zero_le _) (St.Le.of ⟨(by first | rfl | (show some _ = some _; simp)), (by first | rfl | (show some _ = some _; simp)), (by first | rfl | (show some _ = some _; simp)), (by first | rfl | (show some _ = some _; simp)), (by first | rfl | (show some _ = some _; simp)), (by first | rfl | (show some _ = some _; simp)), (by first | rfl | (show some _ = some _; simp)), (by first | rfl | (show some _ = some _; simp)), (by first | rfl | (show some _ = some _; simp)), (by first | rfl | (show some _ = some _; simp)), (by first | rfl | (show some _ = some _; simp)), (by first | rfl | (show some _ = some _; simp)), (by first | rfl | (show some _ = some _; simp)), (by first | rfl | (show some _ = some _; simp)), trivial⟩ rfl (by first | rfl | (simp))) ?_
        rintro k hk
        refine SYCode.fact (isl_len (t := 43) rfl) (fun hB4 => ?_)
        simp only [List.length_map, lenB] at hB4
        refine SYCode.seqR ?_
        refine SYOps.one hK (SOps.bin rfl rfl rfl (SOps.nil rfl)) rfl rfl ?_
        refine SYOps.nil ?_
        refine SYCode.seq ?_
        refine SYCode.cond rfl (fun hc4 => ?_) (fun hc4 => ?_)
        · try simp only [nmL] at hc4
          refine SYCode.skip ?_
          show SYCode _ _ _ _ _ _
          refine SYCode.seq ?_
          refine SYCode.block ?_
          refine SYCode.seqR ?_
          have hkl : k < cs.length := by omega
          refine SYOps.one hK (SOps.indexM (k) rfl rfl sliceB_35_9_1 (by first | omega | (simp only [lenB]; omega)) (by first | omega | (simp only [lenB]; omega)) (SOps.nil rfl)) rfl rfl ?_
          refine SYOps.one hK (SOps.loadPin rfl flatB_9 (SOps.nil rfl)) rfl rfl ?_
          refine SYOps.one hK (SOps.assign rfl (SOps.nil rfl)) rfl rfl ?_
          refine SYOps.nil ?_
          refine SYCode.seqR ?_
          refine SYOps.one hK (SOps.move rfl (SOps.nil rfl)) rfl rfl ?_
          refine SYOps.one hK (SOps.move rfl (SOps.nil rfl)) rfl rfl ?_
          refine SYOps.one hK (SOps.move rfl (SOps.nil rfl)) rfl rfl ?_
          refine SYOps.one hK (SOps.move rfl (SOps.nil rfl)) rfl rfl ?_
          refine SYOps.one hK (SOps.litF rfl sliceB_35_9_1 zeroIs_9 rfl (SOps.nil rfl)) rfl rfl ?_
          refine SYOps.one hK (SOps.buildM placesB_50 zeroIs_50 rfl rfl (SOps.nil rfl)) rfl rfl ?_
          refine SYOps.yield hY rfl rfl (cand2 hil hjl hkl) rfl ?_
          refine SYOps.one hK (SOps.un rfl rfl (SOps.nil rfl)) rfl rfl ?_
          refine SYOps.nil ?_
          refine SYCode.cond rfl (fun h => by cases h) (fun _ => ?_)
          refine SYCode.skip ?_
          show SYCode _ _ _ _ _ _
          refine SYCode.region ?_
          refine SYOps.one hK (SOps.addI rfl rfl (by first | omega | (simp only [lenB]; omega)) (by first | omega | (simp only [lenB]; omega)) (SOps.nil rfl)) rfl rfl ?_
          refine SYOps.one hK (SOps.move rfl (SOps.nil rfl)) rfl rfl ?_
          refine SYOps.nil ?_
          exact ⟨k + 1, by omega, by omega, St.Le.of ⟨rfl, rfl, rfl, rfl, rfl, rfl, rfl, rfl, rfl, rfl, rfl, rfl, rfl, rfl, trivial⟩, by rfl⟩
        · try simp only [nmL] at hc4
          refine SYCode.exit ?_
          show SYCode _ _ _ _ _ _
          refine SYCode.region ?_
          refine SYOps.one hK (SOps.addI rfl rfl (by first | omega | (simp only [lenB]; omega)) (by first | omega | (simp only [lenB]; omega)) (SOps.nil rfl)) rfl rfl ?_
          refine SYOps.one hK (SOps.move rfl (SOps.nil rfl)) rfl rfl ?_
          refine SYOps.nil ?_
          exact ⟨j + 1, by omega, by omega, St.Le.of ⟨rfl, rfl, rfl, rfl, rfl, rfl, rfl, rfl, rfl, rfl, trivial⟩, by show i * cN cs + 1 + cs.length + (j + 1) * cs.length = i * cN cs + 1 + cs.length + j * cs.length + k; rw [Nat.succ_mul]; omega⟩
      · try simp only [nmL] at hc3
        refine SYCode.exit ?_
        show SYCode _ _ _ _ _ _
        refine SYCode.region ?_
        refine SYOps.one hK (SOps.addI rfl rfl (by first | omega | (simp only [lenB]; omega)) (by first | omega | (simp only [lenB]; omega)) (SOps.nil rfl)) rfl rfl ?_
        refine SYOps.one hK (SOps.move rfl (SOps.nil rfl)) rfl rfl ?_
        refine SYOps.nil ?_
        exact ⟨i + 1, by omega, by omega, St.Le.of ⟨rfl, rfl, rfl, rfl, rfl, rfl, trivial⟩, by show (i + 1) * cN cs = i * cN cs + 1 + cs.length + j * cs.length; rw [Nat.succ_mul, show j = cs.length by omega]; unfold cN; omega⟩
  · try simp only [nmL] at hc1
    refine SYCode.exit ?_
    exact ⟨.inl rfl, by show i * cN cs = _; rw [candD_len, show i = hs.length by omega]⟩
end Go.GH
