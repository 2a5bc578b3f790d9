/-
  Part 5 of the texts behind the walks of this claim: an own layer over the kit's wp, plain laws, and walks. No conditions.
-/
import Derived.Test.YteodhhepbnehhaaGreatDoorMz4
import Derived.Shelf.Unicode.DecodeSlow
import Derived.Lib.DecodeN
import Derived.OrdersIn
import Derived.Shelf.Strings.FieldsFuncAny
import Derived.Shelf.Strings.SplitShaped
import Derived.Test.YteodhhepbnehhaaGreatDoorRows
set_option linter.unusedVariables false
set_option linter.unusedSimpArgs false
set_option linter.deprecated false
namespace Go.GH
open Go
/-! #### a segment -/
def revS {α : Type} (xs : List α) (off len : Nat) : List α := xs.take off ++ (((xs.drop off).take len).reverse ++ xs.drop (off + len))
theorem revS_get {α : Type} {xs : List α} {off len : Nat} (h : off + len ≤ xs.length) (k : Nat) (hk : k < xs.length) : (revS xs off len)[k]? = if h1 : off ≤ k ∧ k < off + len then xs[2 * off + len - 1 - k]? else xs[k]? := by
  unfold revS
  have e1 : (xs.take off).length = off := by rw [List.length_take]; omega
  have e2 : (((xs.drop off).take len).reverse).length = len := by rw [List.length_reverse, List.length_take, List.length_drop]; omega
  by_cases h1 : k < off
  · rw [List.getElem?_append_left (by omega), List.getElem?_take, if_pos h1, dif_neg (by omega)]
  · rw [List.getElem?_append_right (by omega), e1]
    by_cases h2 : k < off + len
    · rw [List.getElem?_append_left (by omega), List.getElem?_reverse (by rw [List.length_take, List.length_drop]; omega), List.length_take, List.length_drop, List.getElem?_take, if_pos (by omega), List.getElem?_drop, dif_pos ⟨by omega, h2⟩]
      congr 1; omega
    · rw [List.getElem?_append_right (by omega), e2, List.getElem?_drop, dif_neg (by omega)]
      congr 1; omega
theorem revS_len {α : Type} {xs : List α} {off len : Nat} (h : off + len ≤ xs.length) : (revS xs off len).length = xs.length := by
  unfold revS
  simp
  omega
/-- After i swaps. -/
def SegOK {α : Type} (xs ys : List α) (off len i : Nat) : Prop := ys.length = xs.length ∧ ∀ (k : Nat), k < xs.length → ys[k]? = if off ≤ k ∧ k < off + len ∧ (k < off + i ∨ off + len < k + i + 1) then xs[2 * off + len - 1 - k]? else xs[k]?
theorem SegOK.zero {α : Type} (xs : List α) (off len : Nat) : SegOK xs xs off len 0 := ⟨rfl, fun k hk => by rw [if_neg (by omega)]⟩
theorem SegOK.step {α : Type} {xs ys : List α} {off len i a b : Nat} (h : SegOK xs ys off len i) (ho : off + len ≤ xs.length) (ha : a = off + i) (hb : b = off + len - 1 - i) (hi : a < b) (h1 : a < ys.length) (h2 : b < ys.length) : SegOK xs ((ys.set a ys[b]).set b ys[a]) off len (i + 1) := by
  obtain ⟨hl, hf⟩ := h
  refine ⟨by simp [hl], fun k hk => ?_⟩
  have ea := hf a (by omega)
  have eb := hf b (by omega)
  rw [if_neg (by omega), List.getElem?_eq_getElem h1] at ea
  rw [if_neg (by omega), List.getElem?_eq_getElem h2] at eb
  rw [List.getElem?_set, List.getElem?_set]
  by_cases kb : b = k
  · subst kb
    rw [if_pos rfl, if_pos (by simp; omega), if_pos (by omega), ea]
    congr 1; omega
  · rw [if_neg kb]
    by_cases ka : a = k
    · subst ka
      rw [if_pos rfl, if_pos (by omega), if_pos (by omega), eb]
      congr 1; omega
    · rw [if_neg ka, hf k hk]
      by_cases hc : off ≤ k ∧ k < off + len ∧ (k < off + i ∨ off + len < k + i + 1)
      · rw [if_pos hc, if_pos (by omega)]
      · rw [if_neg hc, if_neg (by omega)]
theorem SegOK.fin {α : Type} {xs ys : List α} {off len i : Nat} (h : SegOK xs ys off len i) (ho : off + len ≤ xs.length) (hi : len ≤ 2 * i + 1) : ys = revS xs off len := by
  obtain ⟨hl, hf⟩ := h
  apply List.ext_getElem?
  intro k
  by_cases hk : k < xs.length
  · rw [hf k hk, revS_get ho k hk]
    by_cases h1 : off ≤ k ∧ k < off + len
    · rw [dif_pos h1]
      by_cases h2 : k < off + i ∨ off + len < k + i + 1
      · rw [if_pos ⟨h1.1, h1.2, h2⟩]
      · rw [if_neg (by omega)]
        congr 1; omega
    · rw [dif_neg h1, if_neg (by omega)]
  · rw [List.getElem?_eq_none (by omega), List.getElem?_eq_none (by rw [revS_len ho]; omega)]
/-! #### runs -/
theorem turnA_run {α : Type} {p : α → Bool} : ∀ (r acc l : List α), (∀ x ∈ r, p x = true) → turnA p acc (r ++ l) = turnA p (r.reverse ++ acc) l
  | [], acc, l, h => rfl
  | x :: r, acc, l, h => by
    rw [List.cons_append, turnA, if_pos (h x (List.mem_cons_self ..)), turnA_run r (x :: acc) l (fun y hy => h y (List.mem_cons_of_mem _ hy)), List.reverse_cons, List.append_assoc]; rfl
theorem turnL_run {α : Type} {p : α → Bool} {r l : List α} (h : ∀ x ∈ r, p x = true) (hl : ∀ x ∈ l.head?, p x = false) : turnL p (r ++ l) = r.reverse ++ turnL p l := by
  unfold turnL
  rw [turnA_run r [] l h, List.append_nil]
  cases l with
  | nil => rw [turnA, turnA, List.append_nil]
  | cons x l =>
    have := hl x rfl
    rw [turnA, if_neg (by rw [this]; simp), turnA, if_neg (by rw [this]; simp), List.nil_append]
theorem turnL_no {α : Type} {p : α → Bool} {x : α} {l : List α} (h : p x = false) : turnL p (x :: l) = x :: turnL p l := by
  have := turnL_run (p := p) (r := []) (l := x :: l) (fun y hy => by cases hy) (fun y hy => by simp at hy; subst hy; exact h)
  unfold turnL at this ⊢
  rw [turnA, if_neg (by rw [h]; simp)]; rfl
/-- The order while it is turned: what lies before i is done. -/
structure TurnOK (p : Nat → Bool) (ord cur : List Nat) (i : Nat) : Prop where
  len : cur.length = ord.length
  mem : ∀ x ∈ cur, x ∈ ord
  eq : cur.take i ++ turnL p (cur.drop i) = turnL p ord
theorem TurnOK.zero (p : Nat → Bool) (ord : List Nat) : TurnOK p ord ord 0 := ⟨rfl, fun _ h => h, rfl⟩
theorem TurnOK.skip {p : Nat → Bool} {ord cur : List Nat} {i : Nat} (h : TurnOK p ord cur i) (hi : i < cur.length) (hp : p cur[i] = false) : TurnOK p ord cur (i + 1) :=
  ⟨h.len, h.mem, by rw [← h.eq, List.drop_eq_getElem_cons hi, turnL_no hp, show cur.take (i + 1) = cur.take i ++ [cur[i]] by rw [List.take_add_one, List.getElem?_eq_getElem hi]; rfl, List.append_assoc]; rfl⟩
theorem revS_mem {α : Type} {xs : List α} {off len : Nat} {x : α} (h : x ∈ revS xs off len) : x ∈ xs := by
  unfold revS at h
  rcases List.mem_append.1 h with h | h
  · exact List.mem_of_mem_take h
  · rcases List.mem_append.1 h with h | h
    · exact List.mem_of_mem_drop (List.mem_of_mem_take (List.mem_reverse.1 h))
    · exact List.mem_of_mem_drop h
theorem TurnOK.run {p : Nat → Bool} {ord cur : List Nat} {i k : Nat} (h : TurnOK p ord cur i) (hk : i ≤ k) (hkl : k ≤ cur.length) (hr : ∀ (j : Nat) (h1 : j < cur.length), i ≤ j → j < k → p cur[j] = true) (hn : ∀ (h1 : k < cur.length), p cur[k] = false) : TurnOK p ord (revS cur i (k - i)) k := by
  have e1 : (cur.take i).length = i := by rw [List.length_take]; omega
  have e2 : ((cur.drop i).take (k - i)).length = k - i := by rw [List.length_take, List.length_drop]; omega
  have e3 : i + (k - i) = k := by omega
  have ht : (revS cur i (k - i)).take k = cur.take i ++ ((cur.drop i).take (k - i)).reverse := by
    unfold revS
    rw [← List.append_assoc, List.take_left' (by rw [List.length_append, e1, List.length_reverse, e2]; omega)]
  have hd : (revS cur i (k - i)).drop k = cur.drop k := by
    unfold revS
    rw [← List.append_assoc, List.drop_left' (by rw [List.length_append, e1, List.length_reverse, e2]; omega), e3]
  refine ⟨by rw [revS_len (by omega)]; exact h.len, fun x hx => h.mem x (revS_mem hx), ?_⟩
  have hsp : cur.drop i = (cur.drop i).take (k - i) ++ cur.drop k := by
    conv => lhs; rw [← List.take_append_drop (k - i) (cur.drop i), List.drop_drop, e3]
  rw [ht, hd, ← h.eq]
  conv => rhs; rw [hsp]
  rw [turnL_run (fun x hx => ?_) (fun x hx => ?_), List.append_assoc]
  · obtain ⟨j, hj, rfl⟩ := List.mem_iff_getElem.1 hx
    rw [List.getElem_take, List.getElem_drop]
    exact hr _ _ (by omega) (by omega)
  · rw [List.head?_drop] at hx
    obtain ⟨h1, rfl⟩ := List.getElem?_eq_some_iff.1 (Option.mem_def.1 hx)
    exact hn h1
theorem TurnOK.fin {p : Nat → Bool} {ord cur : List Nat} {i : Nat} (h : TurnOK p ord cur i) (hi : ord.length ≤ i) : cur = turnL p ord := by
  have := h.eq
  rw [List.take_of_length_le (by have := h.len; omega), List.drop_eq_nil_of_le (by have := h.len; omega)] at this
  rw [← this]
  show cur = cur ++ []
  rw [List.append_nil]
/-! #### the numbers in order, one after the other -/
def NumOK (ys : List Nat) (n i : Nat) : Prop := ys.length = n ∧ ∀ j, j < i → ys[j]? = some j
theorem NumOK.step {ys : List Nat} {n i : Nat} (h : NumOK ys n i) (hi : i < n) : NumOK (ys.set i i) n (i + 1) :=
  ⟨by simp [h.1], fun j hj => by
    rw [List.getElem?_set]
    by_cases e : i = j
    · subst e; rw [if_pos rfl, if_pos (by have := h.1; omega)]
    · rw [if_neg e]; exact h.2 j (by omega)⟩
theorem NumOK.fin {ys : List Nat} {n i : Nat} (h : NumOK ys n i) (hi : n ≤ i) : ys = List.range n := by
  apply List.ext_getElem?
  intro j
  by_cases hj : j < n
  · rw [h.2 j (by omega), List.getElem?_range hj]
  · rw [List.getElem?_eq_none (by have := h.1; omega), List.getElem?_eq_none (by simp; omega)]
/-! #### where a run ends -/
theorem raise_no {e : Int → Bool} {nv c : Int} {l : List Int} (he : e c = false) : raiseK e nv 0 (c :: l) = false :: raiseK e nv 0 l := by rw [raiseK, if_neg (by simp [he])]
def RaiseOK (e : Int → Bool) (nv : Int) (cs : List Int) (i : Nat) : Prop := raiseK e nv 0 (cs.drop i) = (raiseK e nv 0 cs).drop i
theorem RaiseOK.zero (e : Int → Bool) (nv : Int) (cs : List Int) : RaiseOK e nv cs 0 := rfl
theorem RaiseOK.no {e : Int → Bool} {nv : Int} {cs : List Int} {i : Nat} (h : RaiseOK e nv cs i) (hi : i < cs.length) (he : e cs[i] = false) : (raiseK e nv 0 cs)[i]? = some false ∧ RaiseOK e nv cs (i + 1) := by
  have h' := h
  unfold RaiseOK at h'
  rw [List.drop_eq_getElem_cons hi, raise_no he] at h'
  refine ⟨?_, ?_⟩
  · have := congrArg (fun l => l[0]?) h'
    simp only [List.getElem?_drop, Nat.add_zero] at this
    exact this.symm
  · unfold RaiseOK
    have := congrArg (List.drop 1) h'
    rw [List.drop_drop] at this
    exact this
/-! #### levels, position by position -/
end Go.GH
namespace Go.GH
open Go Go.Proofs
variable {E : Env}
end Go.GH
namespace Go.GH
open Go Go.Proofs
variable {E : Env}
theorem GCall.«to» {P : Program} {E : Env} {f : FuncId} {ds : List DV} {H H1 H2 : DHeap} (h : GCall P E f ds H (fun d H' => H' = H1)) (e : H1 = H2) : GCall P E f ds H (fun d H' => H' = H2) := e ▸ h
theorem GCall.fr {P : Program} {E : Env} {f : FuncId} {ds : List DV} {H H1 : DHeap} {R : DV → DHeap → Prop} (h : GCall P E f ds H R) (e : H = H1) : GCall P E f ds H1 R := e ▸ h
def OneOK (ys : List Int) (n i : Nat) : Prop := ys.length = n ∧ ∀ j, j < i → ys[j]? = some 1
theorem OneOK.step {ys : List Int} {n i : Nat} (h : OneOK ys n i) (hi : i < n) : OneOK (ys.set i 1) n (i + 1) :=
  ⟨by rw [List.length_set]; exact h.1, fun j hj => by
    rw [List.getElem?_set]
    by_cases e : i = j
    · subst e; rw [if_pos rfl, if_pos (by rw [h.1]; exact hi)]
    · rw [if_neg e]; exact h.2 j (by omega)⟩
theorem OneOK.fin {ys : List Int} {n i : Nat} (h : OneOK ys n i) (hi : n ≤ i) : ys = List.replicate n 1 := by
  apply List.ext_getElem?
  intro j
  by_cases hj : j < n
  · rw [h.2 j (by omega), List.getElem?_replicate, if_pos hj]
  · rw [List.getElem?_eq_none (by rw [h.1]; omega), List.getElem?_eq_none (by simp; omega)]

end Go.GH
namespace Go.GH
open Go
/-- What has been read. -/
structure RdS where
  out : List (List ByteArray)
  ws : List ByteArray
  cur : List Int
  bl : Bool
  en : Bool
end Go.GH
namespace Go.GH
open Go Go.Proofs
variable {E : Env}
end Go.GH
namespace Go.GH
open Go Go.Lib Go.Proofs
/-- A language: what the pages read, and the rest. -/
structure Lng where
  o : Nat → DV
  ho : ∀ k, (o k).one = true
  rtl : Bool
  alph : List Letter
  ons : List (List Int)
  ml : Int
  mr : Int
  san : List Rule
  stop : ByteArray
def encG (l : Lng) : List DV := [l.o 0, .v (.bool l.rtl), DLs l.alph, l.o 3, l.o 4, l.o 5, DOns l.ons, .v (.int .i64 l.ml), .v (.int .i64 l.mr), DRs l.san, l.o 10, l.o 11, l.o 12, l.o 13, l.o 14, l.o 15, l.o 16, l.o 17, l.o 18, l.o 19, l.o 20, l.o 21, l.o 22, l.o 23, l.o 24, l.o 25, l.o 26, l.o 27, l.o 28, .v (.string l.stop)]
theorem encG_one (l : Lng) : (encG l).all DV.one = true := by
  unfold encG
  simp only [List.all_cons, List.all_nil, l.ho, Bool.true_and, Bool.and_true]
  rfl
end Go.GH
namespace Go.GH
open Go Go.Proofs
variable {E : Env}
end Go.GH
namespace Go.GH
open Go
theorem look_upd {d : TypeDesc} {k k' : Value} {v : DV} (hk : isKey d k = true) (hk' : isKey d k' = true) : ∀ (es : List (Value × DV)), (∀ p ∈ es, isKey d p.1 = true) → lookupL (updL es k v) k' = if sameKey k' k then some v else lookupL es k'
  | [], _ => rfl
  | p :: es, hs => by
    have hp := hs p (List.mem_cons_self ..)
    have ih := look_upd (v := v) hk hk' es (fun q hq => hs q (List.mem_cons_of_mem _ hq))
    rw [updL]
    by_cases h : sameKey k p.1 = true
    · rw [if_pos h]
      have e := (sameKey_iff hk hp).1 h
      simp only [lookupL]
      rw [← e]
      split <;> rfl
    · rw [if_neg h]
      simp only [lookupL]
      rw [ih]
      by_cases h2 : sameKey k' p.1 = true
      · rw [if_pos h2, if_pos h2]
        have e := (sameKey_iff hk' hp).1 h2
        rw [if_neg]
        intro h3
        have e3 := (sameKey_iff hk' hk).1 h3
        exact h ((sameKey_iff hk hp).2 (e3.symm.trans e))
      · rw [if_neg h2, if_neg h2]
theorem keys_upd {d : TypeDesc} {k : Value} {v : DV} (hk : isKey d k = true) : ∀ (es : List (Value × DV)), (∀ p ∈ es, isKey d p.1 = true) → ∀ p ∈ updL es k v, isKey d p.1 = true
  | [], _, p, hp => by rw [updL, List.mem_singleton] at hp; subst hp; exact hk
  | q :: es, hs, p, hp => by
    rw [updL] at hp
    split at hp
    · rcases List.mem_cons.1 hp with rfl | hp
      · exact hk
      · exact hs p (List.mem_cons_of_mem _ hp)
    · rcases List.mem_cons.1 hp with rfl | hp
      · exact hs p (List.mem_cons_self ..)
      · exact keys_upd hk es (fun q hq => hs q (List.mem_cons_of_mem _ hq)) p hp
def KI (es : List (Value × DV)) : Prop := ∀ p ∈ es, isKey (.int .i32) p.1 = true
def KS (es : List (Value × DV)) : Prop := ∀ p ∈ es, isKey .string p.1 = true
def tT : DV := .v (.bool true)
/-- A set of runes. -/
structure SetI (es : List (Value × DV)) (ks : List Int) : Prop where
  keys : KI es
  look : ∀ r : Int, lookupL es (.int .i32 r) = (if ks.contains r then some () else none).map (fun _ => tT)
theorem SetI.nil : SetI [] [] := ⟨(fun p hp => by cases hp), fun r => rfl⟩
theorem SetI.add {es : List (Value × DV)} {ks : List Int} (h : SetI es ks) (r : Int) : SetI (updL es (.int .i32 r) tT) (ks ++ [r]) := by
  refine ⟨keys_upd rfl es h.keys, fun q => ?_⟩
  rw [look_upd (d := .int .i32) rfl rfl es h.keys, h.look]
  by_cases e : q = r
  · subst e; simp [sameKey]
  · simp [sameKey, e]
/-- A set of strings. -/
structure SetS (es : List (Value × DV)) (ks : List ByteArray) : Prop where
  keys : KS es
  look : ∀ s : ByteArray, lookupL es (.string s) = (if memS s ks then some () else none).map (fun _ => tT)
theorem SetS.nil : SetS [] [] := ⟨(fun p hp => by cases hp), fun r => rfl⟩
theorem SetS.add {es : List (Value × DV)} {ks : List ByteArray} (h : SetS es ks) (r : ByteArray) : SetS (updL es (.string r) tT) (ks ++ [r]) := by
  refine ⟨keys_upd rfl es h.keys, fun q => ?_⟩
  rw [look_upd (d := .string) rfl rfl es h.keys, h.look, memS_snoc]
  by_cases e : q = r
  · subst e; simp [sameKey]
  · have e2 : ¬ r = q := fun x => e x.symm
    simp [sameKey, e, e2]
/-- What strings are mapped to what f says. -/
structure MapS (f : ByteArray → ByteArray) (es : List (Value × DV)) (ks : List ByteArray) : Prop where
  keys : KS es
  look : ∀ s : ByteArray, lookupL es (.string s) = (if memS s ks then some (f s) else none).map (fun x => DV.v (.string x))
theorem MapS.nil (f : ByteArray → ByteArray) : MapS f [] [] := ⟨(fun p hp => by cases hp), fun r => rfl⟩
theorem MapS.add {f : ByteArray → ByteArray} {es : List (Value × DV)} {ks : List ByteArray} (h : MapS f es ks) (r : ByteArray) : MapS f (updL es (.string r) (.v (.string (f r)))) (ks ++ [r]) := by
  refine ⟨keys_upd rfl es h.keys, fun q => ?_⟩
  rw [look_upd (d := .string) rfl rfl es h.keys, h.look, memS_snoc]
  by_cases e : q = r
  · subst e; simp [sameKey]
  · have e2 : ¬ r = q := fun x => e x.symm
    simp [sameKey, e, e2]
theorem SetS.more {es : List (Value × DV)} {ks : List ByteArray} (h : SetS es ks) {r : ByteArray} (hr : memS r ks = true) : SetS es (ks ++ [r]) := by
  refine ⟨h.keys, fun q => ?_⟩
  rw [h.look, memS_snoc]
  by_cases e : r = q
  · subst e; rw [hr]; rfl
  · simp [e]
theorem take_next {α : Type} {l : List α} {i : Nat} (h : i < l.length) : l.take (i + 1) = l.take i ++ [l[i]] := by
  rw [List.take_succ, List.getElem?_eq_getElem h]; rfl
end Go.GH
namespace Go.GH
open Go
section
variable {C : Ctx} {st : St} {ops : Array Oper} {R : St → Prop}
end
end Go.GH
namespace Go.GH
open Go Go.Proofs
variable {E : Env}
theorem aggB_62_30 : aggB Tryz.prog 62 30 = true := by kernel_rfl
end Go.GH
namespace Go.GH
open Go Go.Proofs
def encW (ws : List ByteArray) : List DV := [DStrs ws]
section
variable {C : Ctx} {st : St} {ops : Array Oper} {R : St → Prop}
end
theorem g6 {x y z : Nat × DO} {A B X : DHeap} : [x, y] ++ ((z :: (A ++ B)) ++ X) = ([x, y, z] ++ A) ++ (B ++ X) := by simp
theorem g7 {x y z : Nat × DO} {A B X : DHeap} : [x, y] ++ ((z :: (A ++ B)) ++ X) = [x, y, z] ++ (A ++ (B ++ X)) := by simp
variable {E : Env}
end Go.GH
namespace Go.GH
open Go Go.Proofs
variable {E : Env}
theorem fieldB_62_1_1 : fieldB Tryz.prog 62 1 1 = true := by kernel_rfl
theorem sliceB_73_22_1 : sliceB Tryz.prog 73 22 1 = true := by kernel_rfl
def baseR (l : Lng) : Int := if l.rtl then 1 else 0
theorem jBase (l : Lng)  : GCall Tryz.prog E 68 [.agg (encG l)] [] (fun d H => d = .v (.int .i64 (baseR l)) ∧ H = []) := by
 refine GCall.body (C := ⟨Tryz.prog, E, true⟩) Tryz.func68 rfl (fun _ => rfl) (by kernel_rfl) rfl ?_
 refine SCode.seqR ?_
 refine SOps.boxAM rfl rfl ?_ (hd := encG_one l)
 refine SOps.assign rfl (SOps.nil (SCode.seq (SCode.seqR (SOps.fieldPin rfl fieldB_62_1_1 (SOps.loadPin rfl flatB_4 (SOps.nil ?_))))))
 refine SCode.cond rfl (fun hc1 => ?_) (fun hc1 => ?_)
 ·try simp only [nmL] at hc1
  refine SCode.seqR (SOps.assign rfl (SOps.nil (SCode.ret ?_)))
  exact ⟨_, Res.one (.tmp rfl), congrArg (fun z => DV.v (.int .i64 z)) (by unfold baseR; simp_all), rfl⟩
 ·try simp only [nmL] at hc1
  refine SCode.skip ?_
  show SCode _ _ _ _
  refine SCode.seqR (SOps.assign rfl (SOps.nil (SCode.ret ?_)))
  exact ⟨_, Res.one (.tmp rfl), congrArg (fun z => DV.v (.int .i64 z)) (by unfold baseR; simp_all), rfl⟩
theorem q42Same (x y : List ByteArray) (hx : x.length ≤ 1048576) : GCall Tryz.prog E 22 [DStrs x, DStrs y] [] (fun d H => d = .v (.bool (decide (x = y))) ∧ H = []) := by
 refine GCall.body (C := ⟨Tryz.prog, E, true⟩) Tryz.func22 rfl (fun _ => rfl) (by kernel_rfl) rfl ?_
 refine SCode.seqR (SOps.assign rfl (SOps.nil (SCode.seq (SCode.seqR (SOps.move rfl (SOps.lenM rfl sliceB_22_9_1 (SOps.move rfl (SOps.lenM rfl sliceB_22_9_1 (SOps.bin rfl rfl rfl (SOps.nil ?_))))))))))
 refine SCode.cond rfl (fun hc1 => ?_) (fun hc1 => ?_)
 ·try simp only [nmL] at hc1
  refine SCode.seqR (SOps.assign rfl (SOps.nil (SCode.ret ?_)))
  exact ⟨_, Res.one (.tmp rfl), congrArg (fun b => DV.v (.bool b)) (Eq.symm (Bool.eq_false_iff.2 (fun h => by have h := congrArg List.length (of_decide_eq_true h); omega))), rfl⟩
 ·try simp only [nmL] at hc1
  refine SCode.skip ?_
  show SCode _ _ _ _
  refine SCode.seq (SCode.seqR (SOps.assign rfl (SOps.nil (SCode.block ?_))))
  have hxy : x.length = y.length := by first | omega | simp_all
  refine SCode.loop1 (fun (i : Nat) => (⟨26, [(0, DStrs x), (1, DStrs y), (5, .v (.int .i64 (i : Int)))], []⟩ : St)) (fun (i : Nat) => i ≤ x.length ∧ ∀ (j : Nat) (h1 : j < i) (h2 : j < x.length) (h3 : j < y.length), x[j] = y[j]) (fun (i : Nat) => x.length - i) (0) (by exact ⟨Nat.zero_le _, fun j h1 => by omega⟩) (St.Le.of ⟨rfl, rfl, rfl, trivial⟩ rfl rfl) ?_
  rintro i ⟨hi, hf⟩
  refine SCode.seq (SCode.seqR (SOps.move rfl (SOps.move rfl (SOps.lenM rfl sliceB_22_9_1 (SOps.bin rfl rfl rfl (SOps.nil ?_))))))
  refine SCode.cond rfl (fun hc2 => ?_) (fun hc2 => ?_)
  ·try simp only [nmL] at hc2
   refine SCode.skip ?_
   show SCode _ _ _ _
   refine SCode.seq (SCode.block (SCode.seq ?_))
   apply SCode.drawAuto mixed_ [17, 18, 19, 20, 21, 22, 23, 24, 25] [[.inr 0], [.inr 5], [.inl 0, .inl 1], [.inl 2], [.inr 1], [.inr 5], [.inl 4, .inl 5], [.inl 6], [.inl 3, .inl 7]]
   ·kernel_rfl
   ·kernel_rfl
   ·apply DOk.cons 17 
    ·rfl
    ·exact (NeedIs.inr _ rfl NeedIs.nil)
    ·intro rest
     refine SOps.move rfl ?_
     exact SOps.nil rfl
    apply DOk.cons 18 
    ·rfl
    ·exact (NeedIs.inr _ rfl NeedIs.nil)
    ·intro rest
     refine SOps.move rfl ?_
     exact SOps.nil rfl
    apply DOk.cons 19 
    ·rfl
    ·exact (NeedIs.inl 1 _ _ rfl rfl (NeedIs.inl 0 _ _ rfl rfl NeedIs.nil))
    ·intro rest
     refine SOps.indexM (i) rfl rfl sliceB_22_9_1 (by omega) (by omega) ?_
     exact SOps.nil rfl
    apply DOk.cons 20 
    ·rfl
    ·exact (NeedIs.inl 0 _ _ rfl rfl NeedIs.nil)
    ·intro rest
     refine SOps.loadPin rfl flatB_9 ?_
     exact SOps.nil rfl
    apply DOk.cons 21 
    ·rfl
    ·exact (NeedIs.inr _ rfl NeedIs.nil)
    ·intro rest
     refine SOps.move rfl ?_
     exact SOps.nil rfl
    apply DOk.cons 22 
    ·rfl
    ·exact (NeedIs.inr _ rfl NeedIs.nil)
    ·intro rest
     refine SOps.move rfl ?_
     exact SOps.nil rfl
    apply DOk.cons 23 
    ·rfl
    ·exact (NeedIs.inl 1 _ _ rfl rfl (NeedIs.inl 0 _ _ rfl rfl NeedIs.nil))
    ·intro rest
     refine SOps.indexM (i) rfl rfl sliceB_22_9_1 (by omega) (by omega) ?_
     exact SOps.nil rfl
    apply DOk.cons 24 
    ·rfl
    ·exact (NeedIs.inl 0 _ _ rfl rfl NeedIs.nil)
    ·intro rest
     refine SOps.loadPin rfl flatB_9 ?_
     exact SOps.nil rfl
    apply DOk.cons 25 
    ·rfl
    ·exact (NeedIs.inl 4 _ _ rfl rfl (NeedIs.inl 0 _ _ rfl rfl NeedIs.nil))
    ·intro rest
     refine SOps.bin rfl rfl rfl ?_
     exact SOps.nil rfl
    exact DOk.nil
   ·rfl
   ·show SCode _ _ _ _
    refine SCode.cond rfl (fun hc3 => ?_) (fun hc3 => ?_)
    ·try simp only [nmL] at hc3
     refine SCode.seqR (SOps.assign rfl (SOps.nil (SCode.ret ?_)))
     exact ⟨_, Res.one (.tmp rfl), congrArg (fun b => DV.v (.bool b)) (Eq.symm (Bool.eq_false_iff.2 (fun h => by have h := of_decide_eq_true h; subst h; simp_all))), rfl⟩
    ·try simp only [nmL] at hc3
     refine SCode.skip ?_
     show SCode _ _ _ _
     refine SCode.region (SOps.move rfl (SOps.addI rfl rfl (by omega) (by omega) (SOps.assign rfl (SOps.nil ?_))))
     exact ⟨i + 1, by exact ⟨by omega, fun j h1 h2 h3 => by by_cases hj : j = i; subst hj; simp_all; exact hf j (by omega) h2 h3⟩, by omega, (St.Le.of ⟨rfl, rfl, rfl, trivial⟩ rfl rfl)⟩
  ·try simp only [nmL] at hc2
   refine SCode.exit ?_
   show SCode _ _ _ _
   refine SCode.seqR (SOps.assign rfl (SOps.nil (SCode.ret ?_)))
   exact ⟨_, Res.one (.tmp rfl), congrArg (fun b => DV.v (.bool b)) (Eq.symm (decide_eq_true (List.ext_getElem hxy (fun j h2 h3 => hf j (by omega) h2 h3)))), rfl⟩
abbrev DSS (l : List (List ByteArray)) : DV := .isl false 1 (l.map encW)
theorem blB_succ (n : Nat) : blB (n + 1) = blB n ++ sp1 := by
  apply ByteArray.ext
  apply Array.toList_inj.1
  rw [ByteArray.data_append, Array.toList_append]
  show List.replicate (n + 1) 32 = List.replicate n 32 ++ [32]
  rw [List.replicate_succ']
theorem q50Length (s : ByteArray)  : GCall Tryz.prog E 16 [.v (.string s)] [] (fun d H => d = .v (.int .i64 ((runes s).length : Int)) ∧ H = []) := by
 refine GCall.body (C := ⟨Tryz.prog, E, true⟩) Tryz.func16 rfl (fun _ => rfl) (by kernel_rfl) rfl ?_
 refine SCode.seqR (SOps.assign rfl (SOps.nil (SCode.seqR (SOps.move rfl (SOps.runesF rfl rfl strB_9 sliceB_94_21_1 intB_21_i32 (SOps.lenM rfl sliceB_94_21_1 (SOps.assign rfl (SOps.nil (SCode.ret ?_)))))))))
 exact ⟨_, Res.one (.tmp rfl), rfl, rfl⟩
theorem q50blanks (n : Nat) (hn : n ≤ 1048576) : GCall Tryz.prog E 46 [.v (.int .i64 (n : Int))] [] (fun d H => d = .v (.string (blB n)) ∧ H = []) := by
 refine GCall.body (C := ⟨Tryz.prog, E, true⟩) Tryz.func46 rfl (fun _ => rfl) (by kernel_rfl) rfl ?_
 refine SCode.seqR (SOps.assign rfl (SOps.nil (SCode.seqR (SOps.assign rfl (SOps.nil (SCode.seq (SCode.seqR (SOps.assign rfl (SOps.nil (SCode.block (SCode.loop1 (fun (i : Nat) => (⟨13, [(0, .v (.int .i64 (n : Int))), (3, .v (.string (blB i))), (4, .v (.int .i64 (i : Int)))], []⟩ : St)) (fun (i : Nat) => i ≤ n) (fun (i : Nat) => n - i) (0) (by exact Nat.zero_le _) (St.Le.of ⟨rfl, rfl, rfl, trivial⟩ rfl rfl) ?_)))))))))))
 rintro i hi
 refine SCode.seq (SCode.seqR (SOps.move rfl (SOps.move rfl (SOps.bin rfl rfl rfl (SOps.nil ?_)))))
 refine SCode.cond rfl (fun hc1 => ?_) (fun hc1 => ?_)
 ·try simp only [nmL] at hc1
  refine SCode.skip ?_
  show SCode _ _ _ _
  refine SCode.seq (SCode.block (SCode.region (SOps.move rfl (SOps.concat rfl rfl (by rw [blB_size]; show _ + 1 ≤ _; simp only [lenB]; omega) (SOps.assign rfl (SOps.nil ?_))))))
  show SCode _ _ _ _
  refine SCode.region (SOps.move rfl (SOps.addI rfl rfl (by omega) (by omega) (SOps.assign rfl (SOps.nil ?_))))
  exact ⟨i + 1, by omega, by omega, St.Le.of ⟨rfl, (by show some _ = some _; rw [blB_succ]; rfl), (by first | rfl | (show some _ = some _; congr 3; omega)), trivial⟩⟩
 ·try simp only [nmL] at hc1
  refine SCode.exit ?_
  show SCode _ _ _ _
  refine SCode.seqR ?_
  obtain rfl : i = n := by omega
  refine SOps.move rfl (SOps.assign rfl (SOps.nil (SCode.ret ?_)))
  exact ⟨_, Res.one (.tmp rfl), rfl, rfl⟩
end Go.GH
namespace Go.GH
open Go Go.RowKit
def YRounds2 (P : Program) (E : Env) (l : Nat) (xs : List (DV × DV)) (J : JT) : Prop :=
  ∀ i x, xs[i]? = some x → ∀ w F T v u, E.holds w F → (∀ b, F b → b < w.heap.size) → (∀ b, T b → b < w.heap.size ∧ ¬ F b) → J i w F T → Rep w F v x.1 → Rep w F u x.2 →
    YieldAt Fence.wide 0 P l #[v, u] w (fun e w' => e = .returned (.bool true) ∧ YNext J (i + 1) w F T w')
/-- The contract of an iterator: with what it has captured it hands over xs, and no more. -/
def GIter2 (P : Program) (E : Env) (f : FuncId) (ds : List DV) (xs : List (DV × DV)) : Prop :=
  hasBody P f = true ∧ ∀ (l : Nat) (J : JT) w F T (vs : Array Value), YKeeps J → YRounds2 P E l xs J → E.holds w F → (∀ b, F b → b < w.heap.size) → (∀ b, T b → b < w.heap.size ∧ ¬ F b) → J 0 w F T → vs.size = ds.length →
    (∀ (j : Nat) (x : Value) (d : DV), vs[j]? = some x → ds[j]? = some d → Rep w F x d) →
    Calls P f (#[.func (.yield l) #[] #[]] ++ vs) w (fun e w' => (∃ v, e = .returned v) ∧ ∃ F' T', J xs.length w' F' T')

section
variable {C : Ctx} {J : JT} {i : Nat} {st : St} {Q : Exit → Nat → St → Prop} {ops : Array Oper} {rest : List Oper} {R : Nat → St → Prop}
/-- One call of yield. -/
theorem SYOps.yield2 {xs : List (DV × DV)} {l : Nat} {t : Tmp} {ty : TypeId} {pos : String} {aft : Array Edge} {xo xa xb : Operand} {ats : Array TypeId} {x : DV × DV} (hY : YRounds2 C.P C.E l xs J) (hx : st.val xo = some (.v (.func (.yield l) #[] #[]))) (ha : st.val xa = some x.1) (hb : st.val xb = some x.2) (hi : xs[i]? = some x) (hh : st.heap = [])
    (hrest : SYOps C J ops rest (i + 1) (st.put t (.v (.bool true))) R) (ht : Nat.blt t st.n = true := by rfl) :
    SYOps C J ops (⟨some t, .call { callee := .value xo, args := #[xa, xb], argTypes := ats }, ty, pos, aft, none⟩ :: rest) i st R := by
  intro base a w ⟨F, T, hs, hT, hj⟩ Q hQ
  obtain ⟨fn, tmps, asg, bd, hy, hR⟩ := hY i x hi w F T (a.eval xa) (a.eval xb) hs.env (fun b hb => (hs.lt b hb).1) (fun b hb => ⟨(hT b hb).1, (hT b hb).2.1⟩) hj (hs.val ha) (hs.val hb)
  refine wpListIn_plain rfl (fun K hK => ⟨fun _ _ => trivial, ?_⟩)
  have hsem : ((⟨some t, .call { callee := .value xo, args := #[xa, xb], argTypes := ats }, ty, pos, aft, none⟩ : Oper).semAt Fence.wide.round a.eval).run C.P w = .ok (.round l fn tmps asg bd) w := by
    rw [show (⟨some t, .call { callee := .value xo, args := #[xa, xb], argTypes := ats }, ty, pos, aft, none⟩ : Oper).semAt Fence.wide.round a.eval = (do let d ← Deferred.ofValue (a.eval xo) (#[xa, xb].map a.eval); invoke d.target d.args) from rfl, (hs.val hx).inv_v.1]
    simp only [Deferred.ofValue, invoke, pure_bind]
    simpa using hy
  rw [hsem, Oper.uponIn_round]
  refine ⟨fun e => by simp [Fence.wide] at e, hR.mono ?_⟩
  rintro e w' ⟨rfl, F', T', h1, h2, h3, h4, h5⟩
  refine hK _ _ (hrest base _ w' ⟨F', T', ?_, fun b hb => ⟨(h3 b hb).1, (h3 b hb).2.1, ?_⟩, h5⟩ Q hQ)
  · have s1 := hs.stepT h4 (fun b hb ht => (hT b ht).2.1 hb) (fun p hp => by rw [hh] at hp; cases hp) (fun b hb => (hT b hb).2.2)
    have s2 := s1.wider h1 (fun b hb => ⟨(h2 b hb).1, (h2 b hb).2.imp id (fun x => Nat.le_trans hs.keep.size x)⟩) (fun p hp => by rw [hh] at hp; cases hp)
    exact s2.put (by simpa using ht) (.v trivial)
  · rcases (h3 b hb).2.2 with x | x
    · exact (hT b x).2.2
    · exact .inr (Nat.le_trans hs.keep.size x)
/-- An iterator's contract from its body. -/
theorem GIter2.body {f : FuncId} {fn : Func} {c : Code} {ds : List DV} {xs : List (DV × DV)} (hf : C.P.funcs[f]? = some fn) (hb : fn.body = some c) (hname : (fn.name == "runtime.NumGoroutine") = false) (hn : Nat.ble (ds.length + 1) fn.ntmps = true) (hres : fn.results = #[])
    (h : ∀ (l : Nat) (J : JT), YKeeps J → YRounds2 C.P C.E l xs J → SYCode C J c 0 (St.init fn.ntmps (.v (.func (.yield l) #[] #[]) :: ds) []) (fun e i st => (e = .normal ∨ e = .ret) ∧ i = xs.length)) : GIter2 C.P C.E f ds xs := by
  refine ⟨by simp [hasBody, hf, hb, hname], ?_⟩
  intro l J w F T vs hK hY hE hF hT h0 hvs hr
  have hn' := Nat.le_of_ble_eq_true hn
  refine calls_of_wp hf hb ?_
  have hr' : ∀ (j : Nat) (x : Value) (d : DV), (#[Value.func (.yield l) #[] #[]] ++ vs)[j]? = some x → ((DV.v (.func (.yield l) #[] #[])) :: ds)[j]? = some d → Rep w F x d := by
    intro j x d hx hd
    cases j with
    | zero =>
      rw [Array.getElem?_append_left (by simp)] at hx
      simp only [List.getElem?_cons_zero, Option.some.injEq] at hd
      obtain rfl : Value.func (.yield l) #[] #[] = x := by simpa using hx
      subst hd
      exact .v trivial
    | succ j =>
      rw [Array.getElem?_append_right (by simp)] at hx
      simp at hx hd
      exact hr j x d hx hd
  have hsim : SimF C.E ⟨w, F, T, []⟩ F (St.init fn.ntmps (.v (.func (.yield l) #[] #[]) :: ds) []) { tmps := (#[.func (.yield l) #[] #[]] ++ vs) ++ Array.replicate (fn.ntmps - (#[Value.func (.yield l) #[] #[]] ++ vs).size) undef, defers := [] } w := {
    keep := Step.refl _ _
    base_lt := fun b hb => (hT b hb).1
    sub := fun _ h => h
    lt := fun b hb => ⟨hF b hb, .inl hb⟩
    env := hE
    size := by simp [hvs, St.init]; omega
    slots := fun t d ht => by
      obtain ⟨_, h2⟩ := enum_get _ 0 t d ht
      simp only [Nat.sub_zero] at h2
      have hlt := (List.getElem?_eq_some_iff.1 h2).1
      simp only [List.length_cons] at hlt
      refine ⟨Nat.lt_of_lt_of_le hlt hn', ?_⟩
      have hlt' : t < (#[Value.func (.yield l) #[] #[]] ++ vs).size := by simp; omega
      have e : ((#[Value.func (.yield l) #[] #[]] ++ vs) ++ Array.replicate (fn.ntmps - (#[Value.func (.yield l) #[] #[]] ++ vs).size) undef).getD t undef = (#[Value.func (.yield l) #[] #[]] ++ vs)[t] := by
        rw [Array.getD_eq_getD_getElem?, Array.getElem?_append, if_pos hlt', Array.getElem?_eq_getElem hlt']; rfl
      rw [e]
      exact hr' t _ d (Array.getElem?_eq_getElem hlt') h2
    heap := fun p hp => by cases hp
    keys := List.nodup_nil
    defers := rfl }
  refine wp_mono (wpIn_wide.1 (h l J hK hY ⟨w, F, T, []⟩ _ w ⟨F, T, hsim, fun b hb => ⟨(hT b hb).1, (hT b hb).2, .inl hb⟩, h0⟩)) ?_
  rintro e a' w' ⟨i', st', ⟨he, hi⟩, F', T', s, _, hj⟩
  subst hi
  have fin : a'.defers = [] ∧ ∃ v, (results fn a'.tmps).run C.P w' = .ok v w' ∧ ((∃ v', Ending.returned v = .returned v') ∧ ∃ F' T', J xs.length w' F' T') :=
    let ⟨x, hx, _⟩ := run_results s (fn := fn) (d := .v (.tuple #[])) (by rw [hres]; exact .none)
    ⟨s.defers, x, hx, ⟨_, rfl⟩, F', T', hj⟩
  rcases he with rfl | rfl
  · exact fin
  · exact fin
end
section
variable {C : Ctx} {m : Bool} {st : St} {Q : Exit → Bool → St → Prop}
/-- 'for x := range g { .. }', each round leaving by the body's end. -/
theorem SMCode.range2 {g : Operand} {p p2 : Tmp} {asg bd : Code} {f : FuncId} {ds : List DV} {xs : List (DV × DV)} (hg : st.val g = some (.fn f ds)) (hit : GIter2 C.P C.E f ds xs) (Inv : Nat → DHeap → Prop) (h0 : Inv 0 st.heap) (hp : Nat.blt p st.n = true) (hp2 : Nat.blt p2 st.n = true)
    (hround : ∀ i x l H, xs[i]? = some x → Inv i H → SRound C.imp l asg ⟨st.n, (p2, x.2) :: (p, x.1) :: st.slots, H⟩ (fun e st1 => e = .normal ∧ SRound C.imp l bd st1 (fun e st2 => e = .normal ∧ Inv (i + 1) st2.heap)))
    (hdone : ∀ H, Inv xs.length H → Q .normal true ⟨st.n, st.slots, H⟩) : SMCode C (.rangeFunc g #[p, p2] asg bd) false st Q := by
  intro base ok hd0 a w ⟨F, hs⟩
  refine (wpIn_wide (n := 0)).1 (wpIn_rangeFunc (F := Fence.wide) (n := 0) ?_)
  intro fn _
  have h3 := hs.val hg
  generalize hv : a.eval g = v at h3
  cases h3 with
  | @fn _ us _ hl hr =>
  obtain ⟨rec, hrec⟩ : ∃ rec : LoopState → Loop, rec = fun s => { state := s, pending := none, fn, tmps := a.tmps, params := #[p, p2], assign := asg, body := bd, defers := w.heap.size } := ⟨_, rfl⟩
  obtain ⟨W1, hW1⟩ : ∃ W1, (w.alloc (.deferred (some []))).alloc (.loop (rec .ready)) = W1 := ⟨_, rfl⟩
  have hL1 : W1.heap[w.heap.size + 1]? = some (.loop (rec .ready)) := by
    rw [← hW1]; have := World.alloc_heap_new (w.alloc (.deferred (some []))) (.loop (rec .ready)); rwa [World.size_alloc] at this
  have hD1 : W1.heap[w.heap.size]? = some (.deferred (some [])) := by
    rw [← hW1]; exact (Below.heap_alloc _ _ _ (by simp)).trans (World.alloc_heap_new w _)
  have hst1 : Step (fun _ => False) w W1 := by rw [← hW1]; exact (Step.alloc _ w _).trans (Step.alloc _ _ _)
  have hne : ∀ s, (rec s).defers = w.heap.size ∧ (rec s).params = #[p, p2] ∧ (rec s).tmps = a.tmps ∧ (rec s).state = s ∧ (rec s).pending = none ∧ (rec s).fn = fn ∧ (rec s).assign = asg ∧ (rec s).body = bd := fun s => by rw [hrec]; exact ⟨rfl, rfl, rfl, rfl, rfl, rfl, rfl, rfl⟩
  have hrs : ∀ s s', { rec s with state := s' } = rec s' := fun s s' => by rw [hrec]
  have hrs2 : ∀ s s', { rec s with state := s', pending := none } = rec s' := fun s s' => by rw [hrec]
  obtain ⟨J, hJ⟩ : ∃ J : JT, J = fun i w' F' T => ∃ H, Inv i H ∧ SimF C.E base F' ⟨st.n, st.slots, H⟩ a w' ∧ w'.heap[w.heap.size + 1]? = some (.loop (rec .ready)) ∧ w'.heap[w.heap.size]? = some (.deferred (some [])) ∧
      (∀ q ∈ H, T q.1) ∧ T (w.heap.size + 1) ∧ T w.heap.size ∧ (∀ q ∈ H, q.1 ≠ w.heap.size + 1 ∧ q.1 ≠ w.heap.size) ∧ (∀ b, T b → base.own b ∨ base.w.heap.size ≤ b) ∧ (∀ b, T b → b < w'.heap.size ∧ ¬ F' b) := ⟨_, rfl⟩
  have hbw : base.w.heap.size ≤ w.heap.size := hs.keep.size
  have hnoF : ∀ b, w.heap.size ≤ b → ¬ F b := fun b hb hF => absurd (hs.lt b hF).1 (Nat.not_lt.2 hb)
  have hKeep : YKeeps J := by
    rw [hJ]
    rintro i w1 F1 T1 w2 F2 ⟨H, hI, hs1, k1, k2, k3, k4, k5, k6, k7, k8⟩ hst hF hF2
    have hT2 : ∀ b, T1 b → b < w2.heap.size ∧ ¬ F2 b := fun b hb => ⟨Nat.lt_of_lt_of_le (k8 b hb).1 hst.size, fun x => by
      rcases (hF2 b x).2 with y | y
      · exact (k8 b hb).2 y
      · exact absurd (k8 b hb).1 (Nat.not_lt.2 y)⟩
    exact ⟨H, hI, (hs1.world hst).wider hF (fun b hb => ⟨(hF2 b hb).1, (hF2 b hb).2.imp id (fun x => Nat.le_trans hs1.keep.size x)⟩) (fun q hq => (hT2 _ (k3 q hq)).2),
      (hst.block _ (k8 _ k4).1 (fun x => x)).trans k1, (hst.block _ (k8 _ k5).1 (fun x => x)).trans k2, k3, k4, k5, k6, k7, hT2⟩
  have hRounds : YRounds2 C.P C.E (w.heap.size + 1) xs J := by
    intro i x hx w1 F1 T1 v u hE hlt hTT hj hv1 hu1
    have hj' := hj
    rw [hJ] at hj
    obtain ⟨H, hI, hs1, k1, k2, k3, k4, k5, k6, k7, k8⟩ := hj
    have hy := run_yield (P := C.P) (args := #[v, u]) k1 (by rw [(hne _).2.1]; rfl)
    rw [(hne .ready).2.1, (hne .ready).2.2.1, (hne .ready).2.2.2.2.2.1, (hne .ready).2.2.2.2.2.2.1, (hne .ready).2.2.2.2.2.2.2] at hy
    refine ⟨fn, _, asg, bd, hy, roundIn_of_wpIn (F := Fence.wide) trivial ?_⟩
    clear hy
    have ha : ({ tmps := (#[p, p2].zip #[v, u]).foldl (fun tmps (t, a) => tmps.setIfInBounds t a) a.tmps, defers := [] } : Act) = (a.put (some p) v).put (some p2) u := by
      rw [show (#[p, p2].zip #[v, u]).foldl (fun tmps (t, a) => tmps.setIfInBounds t a) a.tmps = (a.tmps.setIfInBounds p v).setIfInBounds p2 u by simp]
      show _ = ({ tmps := (a.tmps.setIfInBounds p v).setIfInBounds p2 u, defers := a.defers } : Act)
      rw [hs1.defers, hd0]
    rw [ha]
    have hkH : ∀ b, b ∈ H.map (·.1) → T1 b := fun b hb => by obtain ⟨q, hq, rfl⟩ := List.mem_map.1 hb; exact k3 q hq
    have hlH : ¬ (w.heap.size + 1) ∈ H.map (·.1) := fun hm => by obtain ⟨q, hq, e⟩ := List.mem_map.1 hm; exact (k6 q hq).1 e
    have hDH : ¬ w.heap.size ∈ H.map (·.1) := fun hm => by obtain ⟨q, hq, e⟩ := List.mem_map.1 hm; exact (k6 q hq).2 e
    have s1 := ((hs1.rebase).put (t := p) (x := v) (d := x.1) (by simpa using hp) hv1).put (t := p2) (x := u) (d := x.2) (show p2 < st.n by simpa using hp2) hu1
    refine wpIn_mono (hround i x (w.heap.size + 1) H hx hI ⟨w1, F1, fun b => b ∈ H.map (·.1), base.dfr⟩ (fun hq => by cases hq) _ w1 ⟨F1, s1⟩) ?_
    rintro e a1 w2 ⟨st1, ⟨rfl, hb⟩, F2, s2⟩
    have hl2 : w2.heap[w.heap.size + 1]? = some (.loop (rec .ready)) := (s2.keep.block _ (k8 _ k4).1 hlH).trans k1
    have hD2 : w2.heap[w.heap.size]? = some (.deferred (some [])) := (s2.keep.block _ (k8 _ k5).1 hDH).trans k2
    have hlF2 : ∀ b, T1 b → ¬ F2 b := fun b hb x => by
      rcases (s2.lt b x).2 with y | y
      · exact (k8 b hb).2 y
      · exact absurd (k8 b hb).1 (Nat.not_lt.2 y)
    have hk1 : ∀ q ∈ st1.heap, T1 q.1 ∨ w1.heap.size ≤ q.1 := fun q hq => (s2.heap q hq).1.imp (hkH _) id
    have hl1n : ∀ q ∈ st1.heap, q.1 ≠ w.heap.size + 1 ∧ q.1 ≠ w.heap.size := fun q hq => ⟨fun e => by
        rcases (s2.heap q hq).1 with y | y
        · exact hlH (e ▸ y)
        · exact absurd (k8 _ k4).1 (Nat.not_lt.2 (e ▸ y)), fun e => by
        rcases (s2.heap q hq).1 with y | y
        · exact hDH (e ▸ y)
        · exact absurd (k8 _ k5).1 (Nat.not_lt.2 (e ▸ y))⟩
    refine ⟨_, run_beginRound hl2 (hne _).2.2.2.1, ?_⟩
    rw [hrs]
    have st2 := Step.putObj (.loop (rec .busy)) hl2 rfl
    have hlt2 := (Array.getElem?_eq_some_iff.1 hl2).1
    have s3 := ((s2.rebaseT (fun b => b ∈ st1.heap.map (·.1) ∨ b = w.heap.size + 1) (fun q hq => .inl (List.mem_map.2 ⟨q, hq, rfl⟩)) (fun b hb => hb.elim (fun h => (s2.keysLt h).1) (fun h => h ▸ hlt2))).stepT st2 (fun b hF e => hlF2 _ k4 (e ▸ hF)) (fun q hq e => (hl1n q hq).1 e) (fun b e => .inl (.inr e))).rebase
    have hl3 : (w2.putObj (w.heap.size + 1) (.loop (rec .busy))).heap[w.heap.size + 1]? = some (.loop (rec .busy)) := World.putObj_heap_same hlt2
    have hD3 : (w2.putObj (w.heap.size + 1) (.loop (rec .busy))).heap[w.heap.size]? = some (.deferred (some [])) := (World.putObj_heap_other (by omega)).trans hD2
    have hl1k : ¬ (w.heap.size + 1) ∈ st1.heap.map (·.1) := fun hm => by obtain ⟨q, hq, e⟩ := List.mem_map.1 hm; exact (hl1n q hq).1 e
    have hD1k : ¬ w.heap.size ∈ st1.heap.map (·.1) := fun hm => by obtain ⟨q, hq, e⟩ := List.mem_map.1 hm; exact (hl1n q hq).2 e
    have hsz3 : w2.heap.size ≤ (w2.putObj (w.heap.size + 1) (.loop (rec .busy))).heap.size := st2.size
    generalize w2.putObj (w.heap.size + 1) (.loop (rec .busy)) = W3 at *
    refine wpIn_mono (hb ⟨W3, F2, _, _⟩ (fun hq => by cases hq) a1 W3 ⟨F2, s3⟩) ?_
    rintro e a2 w4 ⟨st2', ⟨rfl, hI2⟩, F4, s4⟩
    have hl4 : w4.heap[w.heap.size + 1]? = some (.loop (rec .busy)) := (s4.keep.block _ (Array.getElem?_eq_some_iff.1 hl3).1 hl1k).trans hl3
    have hD4 : w4.heap[w.heap.size]? = some (.deferred (some [])) := (s4.keep.block _ (Array.getElem?_eq_some_iff.1 hD3).1 hD1k).trans hD3
    refine ⟨_, _, run_endRound none hl4, rfl, ?_⟩
    rw [show ({ rec .busy with state := if (none : Option Code).isNone then .ready else .done, pending := none } : Loop) = rec .ready from hrs2 _ _]
    have st5 := Step.putObj (.loop (rec .ready)) hl4 rfl
    have hlt4 := (Array.getElem?_eq_some_iff.1 hl4).1
    have hl5 : (w4.putObj (w.heap.size + 1) (.loop (rec .ready))).heap[w.heap.size + 1]? = some (.loop (rec .ready)) := World.putObj_heap_same hlt4
    have hD5 : (w4.putObj (w.heap.size + 1) (.loop (rec .ready))).heap[w.heap.size]? = some (.deferred (some [])) := (World.putObj_heap_other (by omega)).trans hD4
    generalize w4.putObj (w.heap.size + 1) (.loop (rec .ready)) = W5 at *
    have hw12 : w1.heap.size ≤ w2.heap.size := s2.keep.size
    have hw34 : W3.heap.size ≤ w4.heap.size := s4.keep.size
    have hF14 : ∀ b, F1 b → F4 b := fun b hb => s4.sub b (s2.sub b hb)
    have hF41 : ∀ b, F4 b → b < W5.heap.size ∧ (F1 b ∨ w1.heap.size ≤ b) := fun b hb => ⟨Nat.lt_of_lt_of_le (s4.lt b hb).1 st5.size, by
      rcases (s4.lt b hb).2 with y | y
      · exact (s2.lt b y).2
      · exact .inr (by have : W3.heap.size ≤ b := y; omega)⟩
    have hT1F : ∀ b, T1 b → ¬ F4 b := fun b hb x => by
      rcases (hF41 b x).2 with y | y
      · exact (k8 b hb).2 y
      · exact absurd (k8 b hb).1 (Nat.not_lt.2 y)
    have hk2 : ∀ q ∈ st2'.heap, T1 q.1 ∨ w1.heap.size ≤ q.1 := fun q hq => by
      rcases (s4.heap q hq).1 with y | y
      · obtain ⟨q', hq', e⟩ := List.mem_map.1 y
        rw [← e]; exact hk1 q' hq'
      · exact .inr (by have : W3.heap.size ≤ q.1 := y; omega)
    have hk2n : ∀ q ∈ st2'.heap, q.1 ≠ w.heap.size + 1 ∧ q.1 ≠ w.heap.size := fun q hq => by
      have hl3' := (Array.getElem?_eq_some_iff.1 hl3).1
      refine ⟨fun e => ?_, fun e => ?_⟩
      · rcases (s4.heap q hq).1 with y | y
        · exact hl1k (e ▸ y)
        · have : W3.heap.size ≤ q.1 := y; omega
      · rcases (s4.heap q hq).1 with y | y
        · exact hD1k (e ▸ y)
        · have : W3.heap.size ≤ q.1 := y; omega
    have hT' : ∀ b, (b ∈ st2'.heap.map (·.1) ∨ b = w.heap.size + 1 ∨ b = w.heap.size) → b < W5.heap.size ∧ ¬ F4 b ∧ (T1 b ∨ w1.heap.size ≤ b) := fun b hb => by
      rcases hb with hb | rfl | rfl
      · obtain ⟨q, hq, rfl⟩ := List.mem_map.1 hb
        exact ⟨Nat.lt_of_lt_of_le (s4.heap q hq).2.2.lt st5.size, (s4.heap q hq).2.1, hk2 q hq⟩
      · exact ⟨(Array.getElem?_eq_some_iff.1 hl5).1, hT1F _ k4, .inl k4⟩
      · exact ⟨(Array.getElem?_eq_some_iff.1 hD5).1, hT1F _ k5, .inl k5⟩
    have kall : Step T1 w1 W5 := by
      refine Step.then (Step.then (Step.then (s2.keep.mono (fun i _ h => hkH i h)) st2 (fun i hi e => e ▸ k4)) s4.keep (fun i hi hb => ?_)) st5 (fun i hi e => e ▸ k4)
      obtain ⟨q, hq, rfl⟩ := List.mem_map.1 hb
      rcases hk1 q hq with y | y
      · exact y
      · exact absurd hi (Nat.not_lt.2 y)
    have hown : ∀ b, (T1 b ∨ w1.heap.size ≤ b) → base.own b ∨ base.w.heap.size ≤ b := fun b hb => hb.elim (k7 b) (fun y => .inr (Nat.le_trans hs1.keep.size y))
    refine ⟨F4, _, hF14, hF41, hT', kall, ?_⟩
    rw [hJ]
    have hblk : ∀ b, F1 b → W5.heap[b]? = w1.heap[b]? := fun b hb => kall.block b (hlt b hb) (fun ht => (k8 b ht).2 hb)
    refine ⟨st2'.heap, hI2, ?_, hl5, hD5, fun q hq => .inl (List.mem_map.2 ⟨q, hq, rfl⟩), .inr (.inl rfl), .inr (.inr rfl), hk2n, fun b hb => hown b (hT' b hb).2.2, fun b hb => ⟨(hT' b hb).1, (hT' b hb).2.1⟩⟩
    exact {
      keep := hs1.keep.then kall (fun i hi hb => (k7 i hb).resolve_right (by omega))
      base_lt := hs1.base_lt
      sub := fun b hb => hF14 b (hs1.sub b hb)
      lt := fun b hb => ⟨(hF41 b hb).1, (hF41 b hb).2.elim (fun y => (hs1.lt b y).2) (fun y => .inr (Nat.le_trans hs1.keep.size y))⟩
      env := C.E.mono hblk hF14 hs1.env
      size := hs1.size
      slots := fun t d ht => ⟨(hs1.slots t d ht).1, (hs1.slots t d ht).2.mono hblk kall.shape hF14⟩
      heap := fun q hq => by
        obtain ⟨y1, y2, y3⟩ := s4.heap q hq
        exact ⟨hown _ (hk2 q hq), y2, y3.mono (st5.block _ y3.lt (fun e => (hk2n q hq).1 e)) (fun b hb => st5.block b (s4.lt b hb).1 (fun e => hT1F _ k4 (e ▸ hb))) st5.shape (fun _ x => x)⟩
      keys := s4.keys
      defers := hs1.defers }
  have hJ0 : J 0 W1 F (fun b => b ∈ st.heap.map (·.1) ∨ b = w.heap.size + 1 ∨ b = w.heap.size) := by
    rw [hJ]
    have hlt1 := (Array.getElem?_eq_some_iff.1 hL1).1
    refine ⟨st.heap, h0, hs.world hst1, hL1, hD1, fun q hq => .inl (List.mem_map.2 ⟨q, hq, rfl⟩), .inr (.inl rfl), .inr (.inr rfl), fun q hq => ?_, fun b hb => ?_, fun b hb => ?_⟩
    · have := (hs.heap q hq).2.2.lt
      omega
    · rcases hb with hb | rfl | rfl
      · obtain ⟨q, hq, rfl⟩ := List.mem_map.1 hb; exact (hs.heap q hq).1
      · exact .inr (by omega)
      · exact .inr (by omega)
    · rcases hb with hb | rfl | rfl
      · exact ⟨Nat.lt_of_lt_of_le (hs.keysLt hb).1 hst1.size, (hs.keysLt hb).2⟩
      · exact ⟨hlt1, hnoF _ (by omega)⟩
      · exact ⟨by omega, hnoF _ (by omega)⟩
  refine ⟨w.heap.size + 1, [{ target := .collected w.heap.size, args := #[] }], W1, { target := .fn (.func f) us, args := #[.func (.yield (w.heap.size + 1)) #[] #[]] }, W1, f, #[.func (.yield (w.heap.size + 1)) #[] #[]] ++ us, W1, ?_, ?_, fun _ _ => trivial, ?_, fun e => by simp [Fence.wide] at e, ?_⟩
  · rw [← hW1, hrec]; exact run_enterLoop_outer _ _ _ _ _
  · simp only [resolve, hv]
    simp [go_sem]
  · simp only [invoke]
    exact run_callFunc hit.1 _ _
  · refine (callsIn_wide (n := 0 - 1)).2 (Calls.mono (hit.2 (w.heap.size + 1) J W1 F _ us hKeep hRounds (hs.world hst1).env (fun b hb => ((hs.world hst1).lt b hb).1) (fun b hb => ?_) hJ0 hl (fun j x d h1 h2 => (hr j x d h1 h2).mono (fun b hb => hst1.block b (hs.lt b hb).1 (fun x => x)) hst1.shape (fun _ x => x))) ?_)
    · have := hJ0
      rw [hJ] at this
      obtain ⟨_, _, _, _, _, _, _, _, _, _, k8⟩ := this
      exact k8 b hb
    · rintro e w5 ⟨⟨v, rfl⟩, F5, T5, hj⟩
      rw [hJ] at hj
      obtain ⟨H, hI, hs1, k1, k2, k3, k4, k5, k6, k7, k8⟩ := hj
      refine ⟨none, _, (run_endLoop k1 (by rw [(hne _).2.2.2.1]; simp)).trans (by rw [(hne .ready).2.2.2.2.1]), true, _, hdone H hI, F5, w.heap.size, ?_, by rw [hs.defers, hd0]; rfl, (World.putObj_heap_other (by omega)).trans k2, (k8 _ k5).2, fun q hq => (k6 q hq).2, hbw⟩
      have e : ({ ({ a with defers := [{ target := .collected w.heap.size, args := #[] }] ++ a.defers } : Act) with defers := [] } : Act) = a := by
        show ({ tmps := a.tmps, defers := [] } : Act) = a
        rw [← hs.defers.trans hd0]
      rw [e]
      exact hs1.stepT (T := (· = w.heap.size + 1)) (Step.putObj _ k1 rfl) (fun b hF e => (k8 _ k4).2 (e ▸ hF)) (fun q hq e => (k6 q hq).1 e) (fun b e => k7 b (e ▸ k4))

/-! ### a piece that leaves the own blocks as they are -/
end
end Go.GH
namespace Go.GH
open Go Go.RowKit
/-- The operations, in whatever order may come, lead where Q says. -/
theorem noDef_at {l : List Oper} : noDef l = true → ∀ {i : Nat} {o : Oper}, l[i]? = some o → (match o.op with | .defer _ => false | _ => true) = true := by
  induction l with
  | nil => intro _ i o h; simp at h
  | cons p l ih =>
    intro hd i o h
    rw [noDef, Bool.and_eq_true] at hd
    cases i with
    | zero => simp at h; subst h; exact hd.1
    | succ i => exact ih hd.2 (by simpa using h)
theorem wpAnyIn_of {P : Program} {l : List Oper} {Q : Exit → Act → World → Prop} (ro : Option Nat) (n : Nat) (hd : noDef l = true) (hQ : ∀ a w, ¬ Q .outgrown a w) : ∀ (fuel : Nat) (listed : Array Bool) (a : Act) (w : World), wpAny P .any l.toArray Q fuel listed a w → wpAnyIn (FW ro) n P .any l.toArray Q fuel listed a w
  | 0, _, _, _, h => h
  | fuel + 1, listed, a, w, h => by
    refine ⟨h.1, fun i hi => ?_⟩
    have h2 := h.2 i hi
    unfold wpOp at h2
    unfold wpOpIn
    split at h2
    · rename_i ho
      simp only [ho]
      exact wpAnyIn_of ro n hd hQ fuel _ a w h2
    · rename_i o ho
      simp only [ho]
      by_cases hw : Region.wanted o (yielded l.toArray a.tmps) = true
      · rw [if_pos hw] at h2 ⊢
        rcases h2 with h2 | ⟨_, a0, w0, h2⟩
        · refine ⟨fun _ _ => trivial, ?_⟩
          rw [Oper.semAt_eq _ _ _ (noDef_head (noDef_at hd (by simpa using ho)))]
          exact uponIn_of (fun a w h => wpAnyIn_of ro n hd hQ fuel _ a w h) _ h2
        · exact absurd h2 (hQ _ _)
      · rw [if_neg hw] at h2 ⊢
        exact ⟨fun _ _ => trivial, wpAnyIn_of ro n hd hQ fuel _ _ _ h2⟩
theorem SDraw.round {C : Ctx} {id k : Nat} {l : List Oper} {st : St} {Q : Exit → St → Prop} (hm : C.P.follows .mixedOrders = true) (h : SDraw C l st (fun e st' => e = .normal ∧ Q e st')) (hd : noDef l = true := by rfl) : SRound C k (.region id l.toArray true) st Q :=
  fun base ok a w hs => wpIn_mono (wpIn_region_any hm (wpAnyIn_of (some k) 0 hd (fun a w ⟨st', q, _⟩ => by cases q.1) _ _ _ _ (h base ok a w hs))) (fun e a' w' ⟨st', q, s⟩ => ⟨st', q.2, s⟩)
theorem SRound.drawG {C : Ctx} {id k : Nat} {l : List Oper} {n : Nat} {s : List (Nat × DV)} {H : DHeap} {Q : Exit → St → Prop} {D : List (Ids → ORes)} (f : Nat) (ts : List (Option Nat)) (srcs : List (List (Nat ⊕ Nat))) (Ts : List (List Nat)) (cls : List (Option (Nat × Nat))) (Ss : List (List Nat)) (base : DHeap) (xs : List Chn) (hm : C.P.follows .mixedOrders = true)
    (hB : genB l ts srcs Ts cls Ss f = true) (hT : xs.map (·.T) = Ts) (hH : ∀ b, (base ++ (xs.map (fun x => x.X b 0)).flatten).Perm H)
    (hops : GOk C l.toArray n base s xs [] l srcs cls Ss D) (hts : ∀ b, D.map (fun r => (r b).map (·.1)) = ts)
    (hQ : ∀ b, Q .normal ⟨n, resO (D.map (fun r => r b)) ++ s, base ++ (xs.map (fun x => x.X b x.T.length)).flatten⟩) (hd : noDef l = true := by rfl) : SRound C k (.region id l.toArray true) ⟨n, s, H⟩ Q :=
  SDraw.round hm (SDraw.gen f ts srcs cls Ss base xs (by rw [hT]; exact hB) hH hops hts (fun b => ⟨rfl, hQ b⟩)) hd
end Go.GH
namespace Go.GH
open Go Go.RowKit
section
variable {C : Ctx} {E : Env} {base : Base} {F : Nat → Prop} {st : St} {a : Act} {w : World} {ops : Array Oper} {rest : List Oper} {R : St → Prop}
  {t : Tmp} {ty : TypeId} {pos : String} {aft : Array Edge} {g : Option (Nat × Bool)}
theorem run_bounds3 {P : Program} (hs : SimF E base F st a w) {lo hi mx : Operand} {len cap l h m : Nat} {k1 k2 k3 : IntKind} (b : Bool) (hl : st.val lo = some (.v (.int k1 (l : Int)))) (hh : st.val hi = some (.v (.int k2 (h : Int)))) (hm : st.val mx = some (.v (.int k3 (m : Int)))) (h1 : l ≤ h) (h2 : h ≤ m) (h3 : m ≤ cap) :
    (Instr.sliceBounds b len cap (some (a.eval lo)) (some (a.eval hi)) (some (a.eval mx))).run P w = .ok (l, h, m) w := by
  have key : ∀ (k : IntKind) (n y : Nat) (c : BoundsCode), n ≤ y → (Instr.sliceBound (.int k (n : Int)) y c).run P w = .ok n w := fun k n y c hn => by
    simp [Instr.sliceBound, asIntOf, hn]
  simp [Instr.sliceBounds, (hs.val hl).inv_v.1, (hs.val hh).inv_v.1, (hs.val hm).inv_v.1, key _ _ _ _ h1, key _ _ _ _ h2, key _ _ _ _ h3]
theorem exec_slice3 (a : Act) (T : TypeId) (xo lo hi mx : Operand) : execOp a.eval ⟨some t, .slice T xo (some lo) (some hi) (some mx), ty, pos, aft, g⟩ = (do pure (.value (← Instr.sliceAt T (a.eval xo) (some (a.eval lo)) (some (a.eval hi)) (some (a.eval mx))))) := rfl
theorem SOps.sliceIsl3 {T e sz : Nat} {xo lo hi mx : Operand} {nn : Bool} {es : List (List DV)} {k1 k2 k3 : IntKind} (l h m : Nat) (hT : sliceB C.P T e sz = true) (hx : st.val xo = some (.isl nn sz es)) (hl : st.val lo = some (.v (.int k1 (l : Int)))) (hh : st.val hi = some (.v (.int k2 (h : Int)))) (hm : st.val mx = some (.v (.int k3 (m : Int)))) (h1 : l ≤ h) (h2 : h ≤ m) (h3 : m ≤ es.length)
    (hrest : SOps C ops rest (st.put t (.isl nn sz ((es.drop l).take (h - l)))) R)
    (hg : st.wants ops g = some true := by rfl) (ht : Nat.blt t st.n = true := by rfl) : SOps C ops (⟨some t, .slice T xo (some lo) (some hi) (some mx), ty, pos, aft, g⟩ :: rest) st R :=
  SOps.val rfl hg ht (fun base a w F hs => by
    have h4 := hs.val hx
    generalize hv : a.eval xo = v at h4
    obtain ⟨hu, i, hi', hsz'⟩ := sliceB_spec hT
    cases h4 with
    | @isl A len cap nn sz es b o xs hlen hcap hB hnn hA hsz hc hr =>
      have hb := run_bounds3 (P := C.P) (len := len) hs true hl hh hm h1 h2 (show m ≤ cap by omega)
      have hget : ∀ (i : Nat) e, ((es.drop l).take (h - l))[i]? = some e → i < h - l ∧ es[l + i]? = some e := fun i e he => by
        rw [List.getElem?_take] at he
        split at he
        · rename_i hlt; rw [List.getElem?_drop] at he; exact ⟨hlt, he⟩
        · cases he
      refine ⟨.slice (if m = l then A else A.map (·.add (l * sz))) (h - l) (m - l), ?_, .isl (b := b) (o := o + l * sz) (fun i j => xs (l + i) j) (by simp; omega) (by omega) (by simp; omega) (fun hn => ?_) (fun hne => ?_) (fun i e he => hsz _ e (hget i e he).2) (fun i e j d he hj => ?_) (fun i e j d he hj => hr _ e j d (hget i e he).2 hj)⟩
      · rw [exec_slice3, hv]
        simp only [Instr.sliceAt, Instr.slice, Sem.run_bind, run_underlying hu, Result.andThen_ok, hb, sizeOf, typeInfo, run_program, hi', Sem.run_pure, hsz']
      · split
        · exact hnn hn
        · intro e; exact hnn hn (Option.map_eq_none_iff.1 e)
      · have hlh : l < h := by
          rcases Nat.lt_or_ge l h with h' | h'
          · exact h'
          · exact absurd (List.eq_nil_of_length_eq_zero (by simp; omega)) hne
        have hes : es ≠ [] := by intro e; simp [e] at h3; omega
        obtain ⟨rfl, hF⟩ := hA hes
        rw [if_neg (by omega)]
        exact ⟨by simp [add_plain'], hF⟩
      · have := hc _ e j d (hget i e he).2 hj
        rw [Nat.add_mul, Nat.add_assoc] at this
        rw [Nat.add_assoc]
        exact this) hrest
theorem SOps.sliceM3 {α : Type} {T e sz : Nat} {xo lo hi mx : Operand} {nn : Bool} {f : α → List DV} {xs : List α} {k1 k2 k3 : IntKind} {zl zh zm : Int} (l h m : Nat) (hT : sliceB C.P T e sz = true) (hx : st.val xo = some (.isl nn sz (xs.map f))) (hl : st.val lo = some (.v (.int k1 zl))) (el : zl = (l : Int)) (hh : st.val hi = some (.v (.int k2 zh))) (eh : zh = (h : Int)) (hm : st.val mx = some (.v (.int k3 zm))) (em : zm = (m : Int)) (h1 : l ≤ h) (h2 : h ≤ m) (h3 : m ≤ xs.length)
    (hrest : SOps C ops rest (st.put t (.isl nn sz (((xs.drop l).take (h - l)).map f))) R)
    (hg : st.wants ops g = some true := by rfl) (ht : Nat.blt t st.n = true := by rfl) : SOps C ops (⟨some t, .slice T xo (some lo) (some hi) (some mx), ty, pos, aft, g⟩ :: rest) st R := by
  subst el; subst eh; subst em
  exact SOps.sliceIsl3 l h m hT hx hl hh hm h1 h2 (by rw [List.length_map]; exact h3) (by rw [← List.map_drop, ← List.map_take]; exact hrest) hg ht
end
end Go.GH
namespace Go.GH
open Go Go.Proofs
variable {E : Env}
theorem elemB_22_1_24 : elemB Tryz.prog 22 1 24 = true := by kernel_rfl
theorem flatB_73 : flatB Tryz.prog 73 = true := by kernel_rfl
theorem oneB_73 : oneB Tryz.prog 73 = true := by kernel_rfl
theorem zeroIs_22 : zeroIs Tryz.prog 22 (.slice none 0 0) := by unfold zeroIs; kernel_rfl
theorem zeroIs_73 : zeroIs Tryz.prog 73 (.slice none 0 0) := by unfold zeroIs; kernel_rfl
/-- How many pieces. -/
def chN (k n : Nat) : Nat := (k + n - 1) / n
def chI {α : Type} (l : List α) (n i : Nat) : List α := (l.drop (i * n)).take n
def chL {α : Type} (l : List α) (n : Nat) : List (List α) := (List.range (chN l.length n)).map (chI l n)
theorem chN_lt {k n i : Nat} (hn : 1 ≤ n) : i < chN k n ↔ i * n < k := by
  unfold chN
  rw [Nat.lt_iff_add_one_le, Nat.le_div_iff_mul_le (by omega), Nat.succ_mul]
  omega
theorem chL_len {α : Type} (l : List α) (n : Nat) : (chL l n).length = chN l.length n := by simp [chL]
theorem chL_get {α : Type} {l : List α} {n i : Nat} (hn : 1 ≤ n) (h : i * n < l.length) : (chL l n)[i]? = some (chI l n i) := by
  unfold chL
  rw [List.getElem?_map, List.getElem?_range ((chN_lt hn).2 h)]
  rfl
def chD (l : List ByteArray) (n : Nat) : List DV := (chL l n).map (fun x => DStrs x)
theorem chD_get {l : List ByteArray} {n i m : Nat} (hn : 1 ≤ n) (h : i * n < l.length) (hm : (l.drop (i * n)).take m = chI l n i) : (chD l n)[i]? = some (DStrs ((l.drop (i * n)).take m)) := by
  unfold chD
  rw [List.getElem?_map, chL_get hn h, hm]
  rfl
theorem chI_min {α : Type} (l : List α) (n i : Nat) : (l.drop (i * n)).take (min n (l.length - i * n)) = chI l n i := by
  unfold chI
  rw [List.take_eq_take_iff, List.length_drop]
  omega
theorem cChunk (l : List ByteArray) (n : Nat) (hn : 1 ≤ n) : GCall Tryz.prog E 76 [DStrs l, .v (.int .i64 (n : Int))] [] (fun d H => d = .fn 111 [.ipin [DStrs l], .ipin [.v (.int .i64 (n : Int))]] ∧ H = []) := by
 refine GCall.body (C := ⟨Tryz.prog, E, true⟩) Tryz.func76 rfl (fun _ => rfl) (by kernel_rfl) rfl ?_
 refine SCode.seqR (SOps.boxF rfl rfl rfl (SOps.boxF rfl rfl rfl (SOps.assign rfl (SOps.nil (SCode.seq (SCode.seqR (SOps.loadPin rfl flatB_3 (SOps.bin rfl rfl rfl (SOps.nil ?_)))))))))
 refine SCode.cond rfl (fun hc1 => ?_) (fun hc1 => ?_)
 ·try simp only [nmL] at hc1
  refine SCode.region ?_
  exfalso
  omega
 ·try simp only [nmL] at hc1
  refine SCode.skip ?_
  show SCode _ _ _ _
  refine SCode.seqR (SOps.makeFunc rfl (SOps.assign rfl (SOps.nil (SCode.ret ?_))))
  exact ⟨_, Res.one (.tmp rfl), rfl, rfl⟩
theorem iChunk (l : List ByteArray) (n : Nat) (hn : 1 ≤ n) (hn2 : n ≤ 1048576) (hl : l.length ≤ 1048576) : GIter Tryz.prog E 111 [.ipin [DStrs l], .ipin [.v (.int .i64 (n : Int))]] (chD l n) := by
  refine GIter.body (C := ⟨Tryz.prog, E, true⟩) Tryz.func111 rfl (by kernel_rfl) rfl rfl (fun l9 J hK hY => ?_)
  refine SYCode.seqR (SYOps.one hK (SOps.assign rfl (SOps.nil rfl)) rfl rfl (SYOps.nil (SYCode.block (SYCode.loop1 (ι := fun i => i) (hx := by rfl) (fun (i : Nat) => (⟨31, [(0, .v (.func (.yield l9) #[] #[])), (1, .ipin [DStrs l]), (2, .ipin [.v (.int .i64 (n : Int))]), (4, .v (.int .i64 ((i * n : Nat) : Int)))], []⟩ : St)) (fun (i : Nat) => i ≤ chN l.length n) (fun (i : Nat) => l.length - i * n) (0) (by exact Nat.zero_le _) (St.Le.of ⟨(by first | rfl | (show some _ = some _; simp)), (by first | rfl | (show some _ = some _; simp)), (by first | rfl | (show some _ = some _; simp)), (by first | rfl | (show some _ = some _; simp)), trivial⟩ rfl (by first | rfl | (simp))) ?_))))
  rintro i hi
  refine SYCode.seq (SYCode.seqR (SYOps.one hK (SOps.move rfl (SOps.nil rfl)) rfl rfl (SYOps.one hK (SOps.loadPin rfl flatB_22 (SOps.nil rfl)) rfl rfl (SYOps.one hK (SOps.lenM rfl sliceB_22_9_1 (SOps.nil rfl)) rfl rfl (SYOps.one hK (SOps.bin rfl rfl rfl (SOps.nil rfl)) rfl rfl (SYOps.nil ?_))))))
  refine SYCode.cond rfl (fun hc1 => ?_) (fun hc1 => ?_)
  · try simp only [nmL] at hc1
    refine SYCode.skip ?_
    show SYCode _ _ _ _ _ _
    refine SYCode.seq (SYCode.block (SYCode.seq ?_))
    have hlt : i * n < l.length := by omega
    have hsm : (i + 1) * n = i * n + n := Nat.succ_mul _ _
    have hov : i * n = 0 ∨ n ≤ i * n := by rcases Nat.eq_zero_or_pos i with h | h; exact .inl (by rw [h, Nat.zero_mul]); exact .inr (Nat.le_mul_of_pos_left _ h)
    have hsc : ((i * n : Nat) : Int) = (i : Int) * (n : Int) := Int.natCast_mul _ _
    refine SYCode.of hK rfl ?_
    apply SCode.drawAuto mixed_ [13, 14, 15, 16, 17, 18, 5] [[.inr 2], [.inr 1], [.inr 4], [.inl 1, .inl 2], [.inl 3], [.inl 0, .inl 4], [.inl 5]]
    · kernel_rfl
    · kernel_rfl
    · apply DOk.cons 13 
      · rfl
      · exact (NeedIs.inr _ rfl NeedIs.nil)
      · intro rest
        refine SOps.loadPin rfl flatB_3 ?_
        exact SOps.nil rfl
      apply DOk.cons 14 
      · rfl
      · exact (NeedIs.inr _ rfl NeedIs.nil)
      · intro rest
        refine SOps.loadPin rfl flatB_22 ?_
        exact SOps.nil rfl
      apply DOk.cons 15 
      · rfl
      · exact (NeedIs.inr _ rfl NeedIs.nil)
      · intro rest
        refine SOps.move rfl ?_
        exact SOps.nil rfl
      apply DOk.cons 16 
      · rfl
      · exact (NeedIs.inl 1 _ _ rfl rfl (NeedIs.inl 0 _ _ rfl rfl NeedIs.nil))
      · intro rest
        refine SOps.sliceD (n1 := 0) (i * n) sliceB_22_9_1 rfl rfl (by first | omega | (simp only [lenB]; omega) | (simp only [List.length_map, lenB]; omega) | (simp; done)) (by first | omega | (simp only [lenB]; omega) | (simp only [List.length_map, lenB]; omega) | (simp; done)) ?_
        exact SOps.nil rfl
      apply DOk.cons 17 
      · rfl
      · exact (NeedIs.inl 0 _ _ rfl rfl NeedIs.nil)
      · intro rest
        refine SOps.lenM rfl sliceB_22_9_1 ?_
        exact SOps.nil rfl
      apply DOk.cons 18 
      · rfl
      · exact (NeedIs.inl 4 _ _ rfl rfl (NeedIs.inl 0 _ _ rfl rfl NeedIs.nil))
      · intro rest
        refine SOps.minI rfl rfl (by split <;> exact has_i64 (by first | omega | (simp only [lenB]; omega) | (simp only [List.length_map, lenB]; omega) | (simp; done)) (by first | omega | (simp only [lenB]; omega) | (simp only [List.length_map, lenB]; omega) | (simp; done))) ?_
        exact SOps.nil rfl
      apply DOk.cons 5 
      · rfl
      · exact (NeedIs.inl 0 _ _ rfl rfl NeedIs.nil)
      · intro rest
        refine SOps.assign rfl ?_
        exact SOps.nil rfl
      exact DOk.nil
    · rfl
    · show SYCode _ _ _ _ _ _
      refine SYCode.seqR ?_
      refine SYOps.relab (t := 5) (d' := .v (.int .i64 ((min n (l.length - i * n) : Nat) : Int))) rfl (fun w F v hv => by refine Eq.mp (congrArg (fun z => Rep w F v (DV.v (Value.int .i64 z))) ?_) hv; simp only [lenB, List.length_drop, List.length_map]; split <;> omega) ?_
      refine SYOps.one hK (SOps.move rfl (SOps.nil rfl)) rfl rfl (SYOps.one hK (SOps.loadPin rfl flatB_22 (SOps.nil rfl)) rfl rfl (SYOps.one hK (SOps.move rfl (SOps.nil rfl)) rfl rfl (SYOps.one hK (SOps.move rfl (SOps.nil rfl)) rfl rfl (SYOps.one hK (SOps.move rfl (SOps.nil rfl)) rfl rfl (SYOps.one hK (SOps.addI rfl rfl (by first | omega | (simp only [lenB]; omega) | (simp only [List.length_map, lenB]; omega) | (simp; done)) (by first | omega | (simp only [lenB]; omega) | (simp only [List.length_map, lenB]; omega) | (simp; done)) (SOps.nil rfl)) rfl rfl (SYOps.one hK (SOps.move rfl (SOps.nil rfl)) rfl rfl (SYOps.one hK (SOps.move rfl (SOps.nil rfl)) rfl rfl (SYOps.one hK (SOps.addI rfl rfl (by first | omega | (simp only [lenB]; omega) | (simp only [List.length_map, lenB]; omega) | (simp; done)) (by first | omega | (simp only [lenB]; omega) | (simp only [List.length_map, lenB]; omega) | (simp; done)) (SOps.nil rfl)) rfl rfl (SYOps.one hK (SOps.sliceM3 (i * n) (i * n + min n (l.length - i * n)) (i * n + min n (l.length - i * n)) sliceB_22_9_1 rfl rfl rfl rfl (by omega) rfl (by omega) (by omega) (by omega) (by omega) (SOps.nil rfl)) rfl rfl (SYOps.yield hY rfl rfl (chD_get hn hlt (by rw [show i * n + min n (l.length - i * n) - i * n = min n (l.length - i * n) by omega]; exact chI_min _ _ _)) rfl (SYOps.one hK (SOps.un rfl rfl (SOps.nil rfl)) rfl rfl (SYOps.nil ?_))))))))))))
      refine SYCode.cond rfl (fun h => by cases h) (fun _ => ?_)
      refine SYCode.skip ?_
      show SYCode _ _ _ _ _ _
      refine SYCode.region (SYOps.one hK (SOps.move rfl (SOps.nil rfl)) rfl rfl (SYOps.one hK (SOps.loadPin rfl flatB_3 (SOps.nil rfl)) rfl rfl (SYOps.one hK (SOps.addI rfl rfl (by first | omega | (simp only [lenB]; omega) | (simp only [List.length_map, lenB]; omega) | (simp; done)) (by first | omega | (simp only [lenB]; omega) | (simp only [List.length_map, lenB]; omega) | (simp; done)) (SOps.nil rfl)) rfl rfl (SYOps.one hK (SOps.assign rfl (SOps.nil rfl)) rfl rfl (SYOps.nil ?_)))))
      exact ⟨i + 1, (chN_lt hn).2 hlt, by rw [hsm]; omega, St.Le.of ⟨rfl, rfl, rfl, (by show some _ = some _; rw [hsm]; first | done | rfl | (congr 3; omega)), trivial⟩, rfl⟩
  · try simp only [nmL] at hc1
    refine SYCode.exit ?_
    exact ⟨.inl rfl, by show i = _; rw [show (chD l n).length = chN l.length n by simp [chD, chL_len]]; have h9 := (chN_lt (k := l.length) (i := i) hn); omega⟩
theorem sClone (p : List ByteArray) (hp : p.length ≤ 1048576) : GCall Tryz.prog E 77 [DStrs p] [] (fun d H => d = DStrs p ∧ H = []) := by
 refine GCall.body (C := ⟨Tryz.prog, E, true⟩) Tryz.func77 rfl (fun _ => rfl) (by kernel_rfl) rfl ?_
 refine SCode.seqR (SOps.assign rfl (SOps.nil (SCode.seq (SCode.seqR (SOps.move rfl ?_)))))
 refine SOps.eqNilS Tryz.underlying22 rfl rfl (fun c0 hz0 => ?_)
 refine SOps.nil ?_
 refine SCode.cond rfl (fun hc1 => ?_) (fun hc1 => ?_)
 ·try simp only [nmL] at hc1
  have ha0 : p = [] := List.map_eq_nil_iff.1 (hz0 hc1)
  refine SCode.seqR (SOps.assign rfl (SOps.nil (SCode.nilIsl (t := 2) (sz := 1) rfl (SCode.ret ?_))))
  exact ⟨_, Res.one (.tmp rfl), by rw [ha0]; rfl, rfl⟩
 ·try simp only [nmL] at hc1
  refine SCode.skip ?_
  show SCode _ _ _ _
  refine SCode.seqR ?_
  refine SOps.litO sliceB_22_9_1 zeroIs_9 rfl (fun b1 hb_1 => ?_)
  refine SOps.move rfl ?_
  refine SOps.appendOwnE 0 sliceB_22_9_1 elemB_9_1_16 rfl rfl rfl (by simp) SrcD.isl (by simp [lenB]; omega) (by simp; omega) (fun bC => ?_)
  refine SOps.freezeS (t := 7) 0 rfl rfl rfl (by simp) (SOps.assign rfl (SOps.nil (SCode.ret ?_)))
  exact ⟨_, Res.one (.tmp rfl), rfl, rfl⟩
def sheetsR (l : List ByteArray) (n : Int) : List (List ByteArray) × Int := if wideB n then (chL l n.toNat, 0) else ([], 1)
theorem chL_next {α : Type} {l : List α} {n i : Nat} {x : List α} (h : (chL l n)[i]? = some x) : (chL l n).take (i + 1) = (chL l n).take i ++ [x] := by
  obtain ⟨hi, rfl⟩ := List.getElem?_eq_some_iff.1 h
  exact take_next hi
theorem chL_few {α : Type} (l : List α) {n : Nat} (hn : 1 ≤ n) : (chL l n).length ≤ l.length := by
  rw [chL_len]
  rcases Nat.lt_or_ge l.length (chN l.length n) with h | h
  · have h1 := (chN_lt hn).1 h
    have h2 := Nat.le_mul_of_pos_right l.length hn
    omega
  · exact h
theorem chI_len {α : Type} {l : List α} {n i : Nat} {x : List α} (h : (chL l n)[i]? = some x) : x.length ≤ l.length := by
  unfold chL at h
  rw [List.getElem?_map] at h
  obtain ⟨j, _, rfl⟩ := Option.map_eq_some_iff.1 h
  simp [chI]
  omega
theorem cSheets0 (l : List ByteArray) (n : Int) (hl : l.length ≤ 1048576) : GCall Tryz.prog E 32 [DStrs l, .v (.int .i64 n)] [] (fun d H => ∃ k, d = .tup [accD 1 k ((sheetsR l n).1.map encW), .v (.int .i64 (sheetsR l n).2)] ∧ ∀ p ∈ accH 22 1 k ((sheetsR l n).1.map encW), p ∈ H) := by
 refine GCall.bodyM (C := ⟨Tryz.prog, E, true⟩) Tryz.func32 rfl (fun _ => rfl) (by kernel_rfl) rfl ?_
 refine SMCode.seqRS (SOps.assign rfl (SOps.assign rfl (SOps.nil (SMCode.seqS (SCode.seqR (SOps.move rfl (SOps.callP (jLimited _) rfl ?_)))))))
 rintro _ rfl
 refine SOps.un rfl rfl (SOps.nil ?_)
 refine SCode.cond rfl (fun hc1 => ?_) (fun hc1 => ?_)
 ·try simp only [nmL] at hc1
  refine SCode.seqR (SOps.assign rfl (SOps.assign rfl (SOps.nil (SCode.ret ?_))))
  exact ⟨_, Res.two (.tmp rfl) (.tmp rfl), 0, by unfold sheetsR; rw [if_neg (by simp_all)]; rfl, by unfold sheetsR; rw [if_neg (by simp_all)]; exact fun p hp => by cases hp⟩
 ·try simp only [nmL] at hc1
  refine SCode.skip ?_
  show SMCode _ _ _ _ _
  refine SMCode.seqRS ?_
  obtain ⟨m, rfl⟩ : ∃ m : Nat, n = (m : Int) := ⟨n.toNat, by have := wideX_iff.1 (by assumption); omega⟩
  have hw := wideX_iff.1 (by assumption)
  refine SOps.alloc (sz := 1) zeroIs_73 (fun b0 hb_0 => ?_)
  refine SOps.nil (SMCode.seq (SMCode.seqRS (SOps.move rfl (SOps.move rfl (SOps.callP (cChunk _ _ (by omega)) rfl ?_)))))
  rintro _ rfl
  refine SOps.nil (SMCode.block (SMCode.weaken (st' := (⟨21, [(13, .fn 111 [.ipin [DStrs l], .ipin [.v (.int .i64 (m : Int))]]), (6, .ref b0 0)], ([(b0, .row 73 1 [[accD 1 0 (((chL l m).take 0).map encW)]])] ++ (accH 22 1 0 (((chL l m).take 0).map encW) ++ []))⟩ : St)) (St.Le.of ⟨rfl, rfl, trivial⟩ rfl rfl) ?_))
  refine SMCode.range rfl (iChunk l m (by omega) (by omega) hl) (fun i H => ∃ k, List.Sublist ([(b0, .row 73 1 [[accD 1 k (((chL l m).take i).map encW)]])] ++ (accH 22 1 k (((chL l m).take i).map encW) ++ [])) H) ⟨0, List.Sublist.refl _⟩ rfl (fun i x l9 H hx hI => ?_) (fun H hI => ?_)
  ·obtain ⟨k, hsub⟩ := hI
   obtain ⟨x, hx0, rfl⟩ : ∃ y, (chL l m)[i]? = some y ∧ DStrs y = x := by unfold chD at hx; rw [List.getElem?_map] at hx; exact Option.map_eq_some_iff.1 hx
   have hnx := chL_next hx0
   have hxl := chI_len hx0
   have hfew := chL_few l (n := m) (by omega)
   have htl : ((chL l m).take i).length ≤ l.length := by simp; omega
   refine SRound.weaken (st' := (⟨21, [(14, DStrs x), (6, .ref b0 0)], ([(b0, .row 73 1 [[accD 1 k (((chL l m).take i).map encW)]])] ++ (accH 22 1 k (((chL l m).take i).map encW) ++ []))⟩ : St)) (St.Le.ofSub ⟨rfl, rfl, trivial⟩ hsub) (SRound.region (SOps.assign rfl (SOps.nil ?_)))
   refine ⟨rfl, ?_⟩
   refine SRound.block ?_
   apply SRound.drawG 7 [some 15, some 16, some 17, some 18, some 19, none] [[.inr 6], [.inr 7], [.inl 1], [.inl 2], [.inl 0, .inl 3], [.inr 6, .inl 4]] [[0, 4, 5]] [some (0, 0), none, none, none, some (0, 1), some (0, 2)] [[], [], [], [], [4], []] ([]) [⟨[0, 4, 5], fun ids c => match c with | 0 => (b0, .row 73 1 [[accD 1 k (((chL l m).take i).map encW)]]) :: accH 22 1 k (((chL l m).take i).map encW) | 1 => (b0, .row 73 1 [[accD 1 k (((chL l m).take i).map encW)]]) :: accH 22 1 k (((chL l m).take i).map encW) | 2 => (b0, .row 73 1 [[accD 1 k (((chL l m).take i).map encW)]]) :: accH 22 1 (ids.getD 1 0) ((((chL l m).take i).map encW) ++ [[DStrs x]]) | _ => (b0, .row 73 1 [[accD 1 (ids.getD 1 0) ((((chL l m).take i).map encW) ++ [[DStrs x]])]]) :: accH 22 1 (ids.getD 1 0) ((((chL l m).take i).map encW) ++ [[DStrs x]])⟩] mixed_
   ·kernel_rfl
   ·rfl
   ·exact fun _ => .refl _
   ·apply GOk.act [] (fun ids => some (15, accD 1 k (((chL l m).take i).map encW)))
    ·rfl
    ·rfl
    ·rfl
    ·exact fun b => (NeedG.inr _ rfl NeedG.nil)
    ·intro b rest ext
     refine SOps.loadRef 0 0 0 rfl flatB_73 rfl rfl rfl rfl ?_
     exact SOps.nil ⟨b, fun _ _ => rfl, ⟨rfl, fun t d h => .inl h, _, .refl _, .refl _⟩⟩
    apply GOk.rd 16
    ·rfl
    ·exact fun b => (NeedG.inr _ rfl NeedG.nil)
    ·intro b rest ext
     refine SOps.move rfl ?_
     exact SOps.nil rfl
    apply GOk.rd 17
    ·rfl
    ·exact fun b => (NeedG.inl 0 _ _ rfl rfl rfl NeedG.nil)
    ·intro b rest ext
     refine SOps.callP (sClone _ (by first | omega | (simp; omega))) rfl ?_
     rintro _ rfl
     exact SOps.nil rfl
    apply GOk.rd 18
    ·rfl
    ·exact fun b => (NeedG.inl 0 _ _ rfl rfl rfl NeedG.nil)
    ·intro b rest ext
     refine SOps.frame1 (SOps.litF rfl sliceB_73_22_1 zeroIs_22 rfl (SOps.nil rfl)) ?_
     exact SOps.nil rfl
    apply GOk.act [4] (fun ids => some (19, accD 1 (ids.getD 0 0) ((((chL l m).take i).map encW) ++ [[DStrs x]])))
    ·rfl
    ·rfl
    ·rfl
    ·exact fun b => (NeedG.inl 3 _ _ rfl rfl rfl (NeedG.inl 0 _ _ rfl rfl rfl NeedG.nil))
    ·intro b rest ext
     refine SOps.appendAcc [_] _ sliceB_73_22_1 elemB_22_1_24 rfl rfl rfl SrcD.isl (by simp) (by first | (simp [lenB] <;> (first | omega | (simp only [lenB]; omega) | (simp only [List.length_map, lenB]; omega) | (simp; done))) | (simp only [lenB]; (first | omega | (simp only [lenB]; omega) | (simp only [List.length_map, lenB]; omega) | (simp; done)))) (by first | (simp <;> (first | omega | (simp only [lenB]; omega) | (simp only [List.length_map, lenB]; omega) | (simp; done))) | (first | omega | (simp only [lenB]; omega) | (simp only [List.length_map, lenB]; omega) | (simp; done))) (fun b1 => ?_)
     exact SOps.nil ⟨fun k => if k = 4 then b1 else b k, fun k hk => if_neg hk, ⟨rfl, fun t d h => .inl h, _, List.Perm.of_eq rfl, .refl _⟩⟩
    apply GOk.act [] (fun _ => none)
    ·rfl
    ·rfl
    ·rfl
    ·exact fun b => (NeedG.inr _ rfl (NeedG.inl 0 _ _ rfl rfl rfl NeedG.nil))
    ·intro b rest ext
     refine SOps.storeM 0 rfl rfl oneB_73 rfl ?_ (hd := accD_one _ _ _)
     exact SOps.nil ⟨b, fun _ _ => rfl, ⟨rfl, fun t d h => .inl h, _, .refl _, .refl _⟩⟩
    exact GOk.nil
   ·exact fun _ => rfl
   ·intro ids
    exact ⟨rfl, ids 4, by rw [hnx, List.map_append]; exact .refl _⟩
  ·obtain ⟨k, hsub⟩ := hI
   show SMCode _ _ _ _ _
   refine SMCode.weaken (st' := (⟨21, [(6, .ref b0 0)], ([(b0, .row 73 1 [[accD 1 k (((chL l m).take (chD l m).length).map encW)]])] ++ (accH 22 1 k (((chL l m).take (chD l m).length).map encW) ++ []))⟩ : St)) (St.Le.ofSub ⟨rfl, trivial⟩ hsub) (SMCode.seqR (SOps.loadRef 0 0 0 rfl flatB_73 rfl rfl rfl rfl (SOps.assign rfl (SOps.assign rfl (SOps.nil (SMCode.ret ?_))))))
   have hfin : (chL l m).take (chD l m).length = chL l m := by unfold chD; rw [List.length_map, List.take_length]
   have hsr : sheetsR l m = (chL l m, 0) := by unfold sheetsR; rw [if_pos (by assumption)]; rfl
   exact ⟨_, Res.two (.tmp rfl) (.tmp rfl), k, by rw [hsr, hfin], by rw [hsr, hfin]; exact fun p hp => .tail _ (by rw [List.append_nil]; exact hp)⟩
theorem cSheets (l : List ByteArray) (n : Int) (hl : l.length ≤ 1048576) : GCall Tryz.prog E 32 [DStrs l, .v (.int .i64 n)] [] (fun d H => d = .tup [DSS (sheetsR l n).1, .v (.int .i64 (sheetsR l n).2)] ∧ H = []) :=
  GCall.cleanAcc (cSheets0 l n hl)
end Go.GH
namespace Go.GH
open Go Go.RowKit
theorem GCall.thaw {P : Program} {E : Env} {f : FuncId} {ds ds' : List DV} {H : DHeap} {x : Value} (h : GCall P E f ds' [] (fun d H => d = .v x ∧ H = [])) (hl : ds'.length = ds.length)
    (hc : ∀ (w : World) (F : Nat → Prop), (∀ p ∈ H, ObjRep w F p.1 p.2) → ∀ (j : Nat) (d d' : DV) (v : Value), ds[j]? = some d → ds'[j]? = some d' → Rep w F v d → Rep w (fun c => F c ∨ c ∈ H.map (·.1)) v d') :
    GCall P E f ds H (fun d H' => d = .v x ∧ H' = H) := by
  refine ⟨h.1, fun w F vs hE hF hvs hr hH hk => ?_⟩
  have hlt : ∀ b, b ∈ H.map (·.1) → b < w.heap.size ∧ ¬ F b := fun b hb => by
    obtain ⟨p, hp, rfl⟩ := List.mem_map.1 hb
    exact ⟨(hH p hp).2.lt, (hH p hp).1⟩
  refine (h.2 w (fun c => F c ∨ c ∈ H.map (·.1)) vs (E.mono (fun _ _ => rfl) (fun _ x => .inl x) hE) (fun b hb => hb.elim (hF b) (fun hm => (hlt b hm).1)) (by omega) (fun j v d hv hd => ?_) (fun p hp => by cases hp) List.nodup_nil).mono ?_
  · have hj : j < ds.length := by have := (List.getElem?_eq_some_iff.1 hd).1; omega
    exact hc w F (fun p hp => (hH p hp).2) j ds[j] d v (List.getElem?_eq_getElem hj) hd (hr j v _ hv (List.getElem?_eq_getElem hj))
  · rintro e w' ⟨u, d, H', F', rfl, ⟨rfl, rfl⟩, h3, h4, h5, _, _, h8⟩
    have hb : ∀ b, b < w.heap.size → w'.heap[b]? = w.heap[b]? := fun b hb => h8.block b hb (fun x => by cases x)
    refine ⟨u, _, H, fun b => F' b ∧ b ∉ H.map (·.1), rfl, ⟨rfl, rfl⟩, fun b hb' => ⟨h3 b (.inl hb'), fun hm => (hlt b hm).2 hb'⟩, fun b hb' => ⟨(h4 b hb'.1).1, (h4 b hb'.1).2.elim (fun y => y.elim .inl (fun hm => absurd hm hb'.2)) .inr⟩, ?_, fun p hp => ?_, hk, h8.mono (fun _ _ hm => by cases hm)⟩
    · obtain ⟨e1, e2⟩ := h5.inv_v
      rw [e1]
      exact .v e2
    · exact ⟨.inl (List.mem_map.2 ⟨p, hp, rfl⟩), fun hb' => hb'.2 (List.mem_map.2 ⟨p, hp, rfl⟩), (hH p hp).2.mono (hb _ (hH p hp).2.lt) (fun b hb' => hb b (hF b hb')) h8.shape (fun b hb' => ⟨h3 b (.inl hb'), fun hm => (hlt b hm).2 hb'⟩)⟩
/-- A slice that has grown in a row of its own. -/
theorem GCall.thawAcc {P : Program} {E : Env} {f : FuncId} {e sz k : Nat} {es : List (List DV)} {ds : List DV} {x : Value} (h : GCall P E f (.isl false sz es :: ds) [] (fun d H => d = .v x ∧ H = [])) :
    GCall P E f (accD sz k es :: ds) (accH e sz k es) (fun d H => d = .v x ∧ H = accH e sz k es) := by
  cases es with
  | nil => exact (GCall.nil0 h).mono (fun d H h => h)
  | cons y ys =>
    refine GCall.thaw (H := [(k, .row e sz (y :: ys))]) h rfl (fun w F hH j d d' v hd hd' hr => ?_)
    cases j with
    | zero =>
      simp only [List.getElem?_cons_zero, Option.some.injEq] at hd hd'
      subst hd; subst hd'
      exact (rep_row (hH _ (List.mem_singleton.2 rfl)) hr).mono (fun _ _ => rfl) (fun _ _ h => h) (fun c hc => hc.imp id (fun e => by subst e; exact List.mem_singleton.2 rfl))
    | succ j =>
      simp only [List.getElem?_cons_succ] at hd hd'
      rw [hd] at hd'
      obtain rfl := Option.some.inj hd'
      exact hr.mono (fun _ _ => rfl) (fun _ _ h => h) (fun _ h => .inl h)
section
variable {C : Ctx} {st : St} {ops : Array Oper} {rest : List Oper} {R : St → Prop} {t : Tmp} {ty : TypeId} {pos : String} {aft : Array Edge} {g : Option (Nat × Bool)}
theorem SOps.indexRefA {T n e sz b o : Nat} {xo io : Operand} {k : IntKind} {m : Int} (i : Nat) (hx : st.val xo = some (.ref b o)) (hi : st.val io = some (.v (.int k m)))
    (hT : arrayB C.P T n e sz = true) (hm : m = (i : Int)) (hlt : i < n) (hrest : SOps C ops rest (st.put t (.ref b (o + i * sz))) R)
    (hg : st.wants ops g = some true := by rfl) (ht : Nat.blt t st.n = true := by rfl) : SOps C ops (⟨some t, .indexAddr T xo io, ty, pos, aft, g⟩ :: rest) st R :=
  SOps.val rfl hg ht (fun base a w F hs => by
    have h1 := hs.val hx
    have h2 := (hs.val (hm ▸ hi)).inv_v.1
    generalize hv : a.eval xo = v at h1
    cases h1 with
    | ref => exact ⟨_, by simp [execOp, hv, h2, run_indexArr hT b o k i hlt], .ref _ _⟩) hrest
end
/-! ### lists of lists -/
theorem flat_len {α : Type} {L : List (List α)} {i : Nat} {x : List α} (h : L[i]? = some x) : (L.take (i + 1)).flatten.length = (L.take i).flatten.length + x.length := by
  obtain ⟨hi, rfl⟩ := List.getElem?_eq_some_iff.1 h
  have e : L.take (i + 1) = L.take i ++ [L[i]] := by rw [List.take_add_one, h]; rfl
  rw [e, List.flatten_append, List.length_append]
  congr 1
  rw [List.flatten_cons, List.flatten_nil, List.append_nil]
theorem flat_get {α : Type} {L : List (List α)} {i j : Nat} {x : List α} {y : α} (h : L[i]? = some x) (hj : x[j]? = some y) : L.flatten[(L.take i).flatten.length + j]? = some y := by
  obtain ⟨hi, rfl⟩ := List.getElem?_eq_some_iff.1 h
  have hjl := (List.getElem?_eq_some_iff.1 hj).1
  have e : L.flatten = (L.take i).flatten ++ (L[i] ++ (L.drop (i + 1)).flatten) := by
    conv => lhs; rw [← List.take_append_drop i L, List.flatten_append, List.drop_eq_getElem_cons hi, List.flatten_cons]
  rw [e, List.getElem?_append_right (by omega), Nat.add_sub_cancel_left, List.getElem?_append_left hjl]
  exact hj
end Go.GH
namespace Go.GH
open Go Go.Proofs
variable {E : Env}
theorem arrayB_124_2_4_1 : arrayB Tryz.prog 124 2 4 1 = true := by kernel_rfl
theorem zeroIs_124 : zeroIs Tryz.prog 124 (.agg #[.bool false, .bool false]) := by unfold zeroIs; kernel_rfl
/-- The words of a line, each with the marks of the first and the last. -/
def wrdL (fs : List ByteArray) : List (ByteArray × Bool × Bool) := fs.zipIdx.map (fun p => (p.1, decide ((p.2 : Int) = 0), decide ((p.2 : Int) = (fs.length : Int) - 1)))
def wrdD (x : ByteArray × Bool × Bool) : DV × DV := (.v (.string x.1), .agg [.v (.bool x.2.1), .v (.bool x.2.2)])
def wrdA (fl : ByteArray → List ByteArray) (pg : List ByteArray) : List (ByteArray × Bool × Bool) := (pg.map (fun w => wrdL (fl w))).flatten
def wrdO (fl : ByteArray → List ByteArray) (pg : List ByteArray) (i : Nat) : Nat := ((pg.map (fun w => wrdL (fl w))).take i).flatten.length
theorem wrdL_len (fs : List ByteArray) : (wrdL fs).length = fs.length := by simp [wrdL]
theorem wrdL_get {fs : List ByteArray} {j : Nat} (h : j < fs.length) : (wrdL fs)[j]? = some (fs[j], decide ((j : Int) = 0), decide ((j : Int) = (fs.length : Int) - 1)) := by
  unfold wrdL
  rw [List.getElem?_map, List.getElem?_zipIdx, List.getElem?_eq_getElem h]
  simp
theorem wrdO_next {fl : ByteArray → List ByteArray} {pg : List ByteArray} {i : Nat} (h : i < pg.length) : wrdO fl pg (i + 1) = wrdO fl pg i + (fl pg[i]).length := by
  unfold wrdO
  rw [flat_len (x := wrdL (fl pg[i])) (by rw [List.getElem?_map, List.getElem?_eq_getElem h]; rfl), wrdL_len]
theorem wrdO_all (fl : ByteArray → List ByteArray) (pg : List ByteArray) : wrdO fl pg pg.length = (wrdA fl pg).length := by
  unfold wrdO wrdA
  rw [List.take_of_length_le (by simp)]
theorem wrdA_get {fl : ByteArray → List ByteArray} {pg : List ByteArray} {i j : Nat} {fs : List ByteArray} (h : i < pg.length) (hf : fs = fl pg[i]) (hj : j < fs.length) : ((wrdA fl pg).map wrdD)[wrdO fl pg i + j]? = some (.v (.string fs[j]), .agg [.v (.bool (decide ((j : Int) = 0))), .v (.bool (decide ((j : Int) = (fs.length : Int) - 1)))]) := by
  subst hf
  rw [List.getElem?_map]
  unfold wrdA wrdO
  rw [flat_get (x := wrdL (fl pg[i])) (by rw [List.getElem?_map, List.getElem?_eq_getElem h]; rfl) (wrdL_get hj)]
  rfl
theorem cWords (l : Lng) (pg : List ByteArray)  : GCall Tryz.prog E 71 [.agg (encG l), DStrs pg] [] (fun d H => d = .fn 105 [.ipin [DStrs pg], .ipin (encG l)] ∧ H = []) := by
 refine GCall.body (C := ⟨Tryz.prog, E, true⟩) Tryz.func71 rfl (fun _ => rfl) (by kernel_rfl) rfl ?_
 refine SCode.seqR ?_
 refine SOps.boxAM rfl rfl ?_ (hd := encG_one l)
 refine SOps.boxF rfl rfl rfl (SOps.assign rfl (SOps.nil (SCode.seqR (SOps.makeFunc rfl (SOps.assign rfl (SOps.nil (SCode.ret ?_)))))))
 exact ⟨_, Res.one (.tmp rfl), rfl, rfl⟩
theorem iWords (l : Lng) (pg : List ByteArray) (lg : ByteArray → ByteArray) (fl : ByteArray → List ByteArray) (hLg : ∀ w ∈ pg, GCall Tryz.prog E 28 [.v (.int .i64 (baseR l)), .v (.string w)] [] (fun d H => d = .v (.string (lg w)) ∧ H = []))
    (hFF : ∀ w ∈ pg, GCall Tryz.prog E 106 [.v (.string (lg w)), .fn 107 []] [] (fun d H => d = DStrs (fl w) ∧ H = [])) : GIter2 Tryz.prog E 105 [.ipin [DStrs pg], .ipin (encG l)] ((wrdA fl pg).map wrdD) := by
  refine GIter2.body (C := ⟨Tryz.prog, E, true⟩) Tryz.func105 rfl (by kernel_rfl) rfl rfl (fun l9 J hK hY => ?_)
  refine SYCode.seqR (SYOps.one hK (SOps.loadPin rfl flatB_22 (SOps.nil rfl)) rfl rfl (SYOps.one hK (SOps.lenM rfl sliceB_22_9_1 (SOps.nil rfl)) rfl rfl (SYOps.one hK (SOps.move rfl (SOps.nil rfl)) rfl rfl (SYOps.nil (SYCode.block (SYCode.loop1 (ι := fun i => wrdO fl pg i) (hx := by rfl) (fun (i : Nat) => (⟨41, [(0, .v (.func (.yield l9) #[] #[])), (1, .ipin [DStrs pg]), (2, .ipin (encG l)), (9, DStrs pg), (10, .v (.int .i64 ((pg.length : Nat) : Int))), (11, .v (.int .i64 (i : Int)))], []⟩ : St)) (fun (i : Nat) => i ≤ pg.length) (fun (i : Nat) => pg.length - i) (0) (by exact Nat.zero_le _) (St.Le.of ⟨rfl, rfl, rfl, rfl, rfl, rfl, trivial⟩ rfl rfl) ?_))))))
  rintro i hi
  refine SYCode.fact (isl_len (t := 9) rfl) (fun hB => ?_)
  simp only [List.length_map, lenB] at hB
  refine SYCode.seqR (SYOps.one hK (SOps.bin rfl rfl rfl (SOps.nil rfl)) rfl rfl (SYOps.nil (SYCode.seq ?_)))
  refine SYCode.cond rfl (fun hc1 => ?_) (fun hc1 => ?_)
  · try simp only [nmL] at hc1
    refine SYCode.skip ?_
    show SYCode _ _ _ _ _ _
    refine SYCode.seq (SYCode.block (SYCode.seqR ?_))
    have hil : i < pg.length := by omega
    have hml := List.getElem_mem hil
    refine SYOps.one hK (SOps.indexM (i) rfl rfl sliceB_22_9_1 (by omega) (by omega) (SOps.nil rfl)) rfl rfl (SYOps.one hK (SOps.loadPin rfl flatB_9 (SOps.nil rfl)) rfl rfl (SYOps.one hK (SOps.assign rfl (SOps.nil rfl)) rfl rfl (SYOps.nil ?_)))
    refine SYCode.seq (SYCode.of hK rfl (SCode.region ?_))
    refine SOps.loadPinA rfl aggB_62_30 (Nat.le_of_ble_eq_true rfl) (SOps.callP (jBase l) rfl ?_)
    rintro _ rfl
    refine SOps.move rfl (SOps.callP (hLg _ hml) rfl ?_)
    rintro _ rfl
    refine SOps.callP (hFF _ hml) rfl ?_
    rintro _ rfl
    refine SOps.assign rfl (SOps.nil ?_)
    show SYCode _ _ _ _ _ _
    refine SYCode.seqR (SYOps.one hK (SOps.move rfl (SOps.nil rfl)) rfl rfl (SYOps.one hK (SOps.lenM rfl sliceB_22_9_1 (SOps.nil rfl)) rfl rfl (SYOps.one hK (SOps.move rfl (SOps.nil rfl)) rfl rfl (SYOps.nil (SYCode.block (SYCode.loop1 (ι := fun j => wrdO fl pg i + j) (hx := by rfl) (fun (j : Nat) => (⟨41, [(0, .v (.func (.yield l9) #[] #[])), (1, .ipin [DStrs pg]), (2, .ipin (encG l)), (5, .v (.string pg[i])), (6, DStrs (fl pg[i])), (9, DStrs pg), (10, .v (.int .i64 ((pg.length : Nat) : Int))), (11, .v (.int .i64 (i : Int))), (20, DStrs (fl pg[i])), (21, .v (.int .i64 (((fl pg[i]).length : Nat) : Int))), (22, .v (.int .i64 (j : Int)))], []⟩ : St)) (fun (j : Nat) => j ≤ (fl pg[i]).length) (fun (j : Nat) => (fl pg[i]).length - j) (0) (by exact Nat.zero_le _) (St.Le.of ⟨rfl, rfl, rfl, rfl, rfl, rfl, rfl, rfl, rfl, rfl, rfl, trivial⟩ rfl rfl) ?_))))))
    rintro j hj
    refine SYCode.fact (isl_len (t := 20) rfl) (fun hB2 => ?_)
    simp only [List.length_map, lenB] at hB2
    refine SYCode.seqR (SYOps.one hK (SOps.bin rfl rfl rfl (SOps.nil rfl)) rfl rfl (SYOps.nil (SYCode.seq ?_)))
    refine SYCode.cond rfl (fun hc2 => ?_) (fun hc2 => ?_)
    · try simp only [nmL] at hc2
      refine SYCode.skip ?_
      show SYCode _ _ _ _ _ _
      refine SYCode.seq (SYCode.block (SYCode.seqR ?_))
      have hjl : j < (fl pg[i]).length := by omega
      refine SYOps.one hK (SOps.move rfl (SOps.nil rfl)) rfl rfl (SYOps.one hK (SOps.indexM (j) rfl rfl sliceB_22_9_1 (by omega) (by omega) (SOps.nil rfl)) rfl rfl (SYOps.one hK (SOps.loadPin rfl flatB_9 (SOps.nil rfl)) rfl rfl (SYOps.one hK (SOps.assign rfl (SOps.nil rfl)) rfl rfl (SYOps.one hK (SOps.assign rfl (SOps.nil rfl)) rfl rfl (SYOps.nil (SYCode.seqR (SYOps.one hK (SOps.move rfl (SOps.nil rfl)) rfl rfl (SYOps.one hK (SOps.move rfl (SOps.nil rfl)) rfl rfl (SYOps.one hK (SOps.move rfl (SOps.nil rfl)) rfl rfl (SYOps.one hK (SOps.bin rfl rfl rfl (SOps.nil rfl)) rfl rfl (SYOps.one hK (SOps.move rfl (SOps.nil rfl)) rfl rfl (SYOps.one hK (SOps.move rfl (SOps.nil rfl)) rfl rfl (SYOps.one hK (SOps.lenM rfl sliceB_22_9_1 (SOps.nil rfl)) rfl rfl (SYOps.one hK (SOps.subI rfl rfl (by omega) (by omega) (SOps.nil rfl)) rfl rfl (SYOps.one hK (SOps.bin rfl rfl rfl (SOps.nil rfl)) rfl rfl (SYOps.one hK (SOps.buildArrM arrayB_124_2_4_1 zeroIs_124 rfl rfl (SOps.nil rfl)) rfl rfl (SYOps.yield2 hY rfl rfl rfl (wrdA_get hil rfl hjl) rfl (SYOps.one hK (SOps.un rfl rfl (SOps.nil rfl)) rfl rfl (SYOps.nil ?_)))))))))))))))))))
      refine SYCode.cond rfl (fun h => by cases h) (fun _ => ?_)
      refine SYCode.skip ?_
      show SYCode _ _ _ _ _ _
      refine SYCode.region (SYOps.one hK (SOps.addI rfl rfl (by omega) (by omega) (SOps.nil rfl)) rfl rfl (SYOps.one hK (SOps.move rfl (SOps.nil rfl)) rfl rfl (SYOps.nil ?_)))
      exact ⟨j + 1, by omega, by omega, St.Le.of ⟨rfl, rfl, rfl, rfl, rfl, rfl, rfl, rfl, rfl, rfl, rfl, trivial⟩, rfl⟩
    · try simp only [nmL] at hc2
      refine SYCode.exit ?_
      show SYCode _ _ _ _ _ _
      refine SYCode.region (SYOps.one hK (SOps.addI rfl rfl (by omega) (by omega) (SOps.nil rfl)) rfl rfl (SYOps.one hK (SOps.move rfl (SOps.nil rfl)) rfl rfl (SYOps.nil ?_)))
      exact ⟨i + 1, by omega, by omega, St.Le.of ⟨rfl, rfl, rfl, rfl, rfl, rfl, trivial⟩, by show wrdO fl pg (i + 1) = wrdO fl pg i + j; rw [wrdO_next hil]; omega⟩
  · try simp only [nmL] at hc1
    refine SYCode.exit ?_
    exact ⟨.inl rfl, by show wrdO fl pg i = _; rw [List.length_map, ← wrdO_all, show i = pg.length by omega]⟩
end Go.GH
namespace Go.GH
open Go Go.RowKit
section
variable {C : Ctx} {m : Bool} {st : St} {Q : Exit → Bool → St → Prop}
theorem SMCode.cond {c : Operand} {x y : Code} {b : Bool} (hc : st.val c = some (.v (.bool b))) (hT : b = true → SMCode C x m st Q) (hF : b = false → SMCode C y m st Q) : SMCode C (.cond c x y) m st Q := by
  intro base ok hd0 a w hs
  refine wp_cond_split (t := b) ?_ (fun e => hT e base ok hd0 a w hs) (fun e => hF e base ok hd0 a w hs)
  cases m with
  | false => obtain ⟨F, hs⟩ := hs; exact (hs.val hc).inv_v.1
  | true =>
    obtain ⟨F, D, hs, _⟩ := hs
    have := (hs.val hc).inv_v.1
    rw [show ({ a with defers := [] } : Act).eval c = a.eval c by cases c <;> rfl] at this
    exact this
theorem SMCode.skip (h : Q .normal m st) : SMCode C .skip m st Q := fun _ _ _ _ _ hs => wp_skip ⟨m, st, h, hs⟩
end
end Go.GH
namespace Go.GH
open Go Go.Proofs
variable {E : Env}
theorem aggB_124_2 : aggB Tryz.prog 124 2 = true := by kernel_rfl
theorem zeroIs_4 : zeroIs Tryz.prog 4 (.bool false) := by unfold zeroIs; kernel_rfl
/-- One word more: it goes on an open word, or stands by itself. -/
def plStep (s : List ByteArray × Bool) (x : ByteArray × Bool × Bool) : List ByteArray × Bool :=
  (if x.2.1 && s.2 then s.1.set (s.1.length - 1) (trimB (s.1.getD (s.1.length - 1) .empty) hy1 ++ x.1) else s.1 ++ [x.1], x.2.2 && sufB x.1 hy1)
def plR (xs : List (ByteArray × Bool × Bool)) (i : Nat) : List ByteArray × Bool := (xs.take i).foldl plStep ([], false)
theorem plR_next {xs : List (ByteArray × Bool × Bool)} {i : Nat} {x : ByteArray × Bool × Bool} (h : xs[i]? = some x) : plR xs (i + 1) = plStep (plR xs i) x := by
  obtain ⟨hi, rfl⟩ := List.getElem?_eq_some_iff.1 h
  unfold plR
  rw [take_next hi, List.foldl_append]
  rfl
theorem trimB_size (s p : ByteArray) : (trimB s p).size ≤ s.size := by
  have : (Lib.trimSuffix s.data.toList p.data.toList).length ≤ s.data.toList.length := by unfold Lib.trimSuffix; split <;> simp
  have e : (trimB s p).size = (Lib.trimSuffix s.data.toList p.data.toList).length := by unfold trimB; simp [ByteArray.size]
  have e2 : s.data.toList.length = s.size := by simp
  omega
theorem plR_inv {xs : List (ByteArray × Bool × Bool)} {M : Nat} (hM : ∀ x ∈ xs, x.1.size ≤ M) : ∀ i, i ≤ xs.length → ((plR xs i).2 = true → (plR xs i).1 ≠ []) ∧ (plR xs i).1.length ≤ i ∧ ∀ w ∈ (plR xs i).1, w.size ≤ i * M
  | 0, _ => ⟨fun h => (Bool.noConfusion h), Nat.le_refl _, fun w h => by cases h⟩
  | i + 1, hi => by
    obtain ⟨h1, h2, h3⟩ := plR_inv hM i (by omega)
    have hx := hM _ (List.getElem_mem (show i < xs.length by omega))
    rw [plR_next (List.getElem?_eq_getElem (show i < xs.length by omega))]
    generalize xs[i] = x at hx
    generalize plR xs i = s at *
    unfold plStep
    rw [Nat.succ_mul]
    cases hc : (x.2.1 && s.2) with
    | true =>
      rw [Bool.and_eq_true] at hc
      have hne := h1 hc.2
      refine ⟨fun _ h => ?_, by simp; omega, fun w hw => ?_⟩
      · have := congrArg List.length h
        simp at this
        exact hne (by cases hs : s.1 with | nil => rfl | cons a b => rw [hs] at this; simp at this)
      · simp only [if_true] at hw
        rcases List.mem_or_eq_of_mem_set hw with h | rfl
        · have := h3 w h; omega
        · have hl : s.1.length - 1 < s.1.length := by cases hs : s.1 with | nil => exact absurd hs hne | cons a b => simp
          have h9 := h3 _ (List.getElem_mem hl)
          have h8 := trimB_size (s.1.getD (s.1.length - 1) .empty) hy1
          rw [show s.1.getD (s.1.length - 1) .empty = s.1[s.1.length - 1] from by rw [List.getD_eq_getElem?_getD, List.getElem?_eq_getElem hl]; rfl] at h8 ⊢
          rw [ByteArray.size_append]
          omega
    | false =>
      refine ⟨fun _ h => ?_, by simp; omega, fun w hw => ?_⟩
      · simp at h
      · simp only [Bool.false_eq_true, if_false] at hw
        rcases List.mem_append.1 hw with h | h
        · have := h3 w h; omega
        · rw [List.mem_singleton.1 h]; omega
theorem plJ {o : List ByteArray} {op b : Bool} {y : ByteArray × Bool × Bool} (h0 : 0 < o.length) (h1 : y.2.1 = true) (h2 : op = true) (h3 : y.2.2 = b) : plStep (o, op) y = (o.set (o.length - 1) (trimB (o[o.length - 1]'(by omega)) hy1 ++ y.1), b && sufB y.1 hy1) := by
  unfold plStep
  rw [h1, h2, h3]
  show (o.set (o.length - 1) (trimB (o.getD (o.length - 1) .empty) hy1 ++ y.1), b && sufB y.1 hy1) = _
  rw [show (o.getD (o.length - 1) .empty) = o[o.length - 1]'(by omega) from by rw [List.getD_eq_getElem?_getD, List.getElem?_eq_getElem (by omega)]; rfl]
theorem plN {o : List ByteArray} {op b : Bool} {y : ByteArray × Bool × Bool} (h1 : y.2.1 = false ∨ op = false) (h3 : y.2.2 = b) : plStep (o, op) y = (o ++ [y.1], b && sufB y.1 hy1) := by
  unfold plStep
  rw [h3, if_neg (by rcases h1 with h | h <;> simp [h])]
/-- The text of a page: vd: the language serves; se: the reader's word on the text. -/
def plainR (vd : Bool) (se : Int) (fl : ByteArray → List ByteArray) (pg : List ByteArray) : ByteArray × Int :=
  if vd = false then (.empty, 1) else if pg.all utf8R = false then (.empty, 3) else if (plR (wrdA fl pg) (wrdA fl pg).length).2 then (.empty, 3) else if se ≠ 0 then (.empty, se) else ((catW (plR (wrdA fl pg) (wrdA fl pg).length).1), 0)
theorem cPlain0 (hV : VS E) (l : Lng) (pg : List ByteArray) (lg : ByteArray → ByteArray) (fl : ByteArray → List ByteArray) (vd : Bool) (se : Int) (M : Nat) (hM : ∀ x ∈ (wrdA fl pg), x.1.size ≤ M) (hX : (wrdA fl pg).length * M ≤ 1048576) (hX2 : (wrdA fl pg).length ≤ 1048576)
  (hLg : ∀ w ∈ pg, GCall Tryz.prog E 28 [.v (.int .i64 (baseR l)), .v (.string w)] [] (fun d H => d = .v (.string (lg w)) ∧ H = [])) (hFF : ∀ w ∈ pg, GCall Tryz.prog E 106 [.v (.string (lg w)), .fn 107 []] [] (fun d H => d = DStrs (fl w) ∧ H = []))
  (h64 : GCall Tryz.prog E 64 [.agg (encG l)] [] (fun d H => d = .v (.bool vd) ∧ H = [])) (h65 : GCall Tryz.prog E 65 [.agg (encG l), .v (.string (catW (plR (wrdA fl pg) (wrdA fl pg).length).1))] [] (fun d H => (∃ d4, d = .tup [d4, .v (.int .i64 se)]) ∧ H = [])) : GCall Tryz.prog E 30 [.agg (encG l), DStrs pg] [] (fun d H => d = .tup [.v (.string (plainR vd se fl pg).1), .v (.int .i64 (plainR vd se fl pg).2)]) := by
 refine GCall.bodyM (C := ⟨Tryz.prog, E, true⟩) Tryz.func30 rfl (fun _ => rfl) (by kernel_rfl) rfl ?_
 refine SMCode.seqRS ?_
 refine SOps.boxAM rfl rfl ?_ (hd := encG_one l)
 refine SOps.assign rfl (SOps.assign rfl (SOps.nil (SMCode.seqS (SCode.seqR (SOps.loadPinA rfl aggB_62_30 (Nat.le_of_ble_eq_true rfl) (SOps.callP h64 rfl ?_))))))
 rintro _ rfl
 refine SOps.un rfl rfl (SOps.nil ?_)
 refine SCode.cond rfl (fun hc1 => ?_) (fun hc1 => ?_)
 ·try simp only [nmL] at hc1
  refine SCode.seqR (SOps.assign rfl (SOps.assign rfl (SOps.nil (SCode.ret ?_))))
  exact ⟨_, Res.two (.tmp rfl) (.tmp rfl), congrArg (fun p : ByteArray × Int => DV.tup [.v (.string p.1), .v (.int .i64 p.2)]) (show (.empty, 1) = plainR vd se fl pg from Eq.symm (by unfold plainR; rw [if_pos (by simp_all)]))⟩
 ·try simp only [nmL] at hc1
  refine SCode.skip ?_
  show SMCode _ _ _ _ _
  refine SMCode.seqS (SCode.seqR (SOps.move rfl (SOps.lenM rfl sliceB_22_9_1 (SOps.move rfl (SOps.nil (SCode.block (SCode.loop1 (fun (i : Nat) => (⟨75, [(1, DStrs pg), (2, .ipin (encG l)), (19, DStrs pg), (20, .v (.int .i64 ((pg.length : Nat) : Int))), (21, .v (.int .i64 (i : Int)))], []⟩ : St)) (fun (i : Nat) => i ≤ pg.length ∧ ∀ w ∈ pg.take i, utf8R w = true) (fun (i : Nat) => pg.length - i) (0) (by exact ⟨Nat.zero_le _, fun w h => by cases h⟩) (St.Le.of ⟨rfl, rfl, rfl, rfl, rfl, trivial⟩ rfl rfl) ?_)))))))
  rintro i ⟨hi, hu⟩
  refine SCode.fact (isl_len (t := 19) rfl) (fun hB => ?_)
  simp only [List.length_map, lenB] at hB
  refine SCode.seqR (SOps.bin rfl rfl rfl (SOps.nil (SCode.seq ?_)))
  refine SCode.cond rfl (fun hc2 => ?_) (fun hc2 => ?_)
  ·try simp only [nmL] at hc2
   refine SCode.skip ?_
   show SCode _ _ _ _
   refine SCode.seq (SCode.block (SCode.seqR ?_))
   have hil : i < pg.length := by omega
   refine SOps.indexM (i) rfl rfl sliceB_22_9_1 (by omega) (by omega) (SOps.loadPin rfl flatB_9 (SOps.assign rfl (SOps.nil (SCode.seqR (SOps.move rfl (SOps.callP (hV _) rfl ?_))))))
   rintro _ rfl
   refine SOps.un rfl rfl (SOps.nil ?_)
   refine SCode.cond rfl (fun hc3 => ?_) (fun hc3 => ?_)
   ·try simp only [nmL] at hc3
    refine SCode.seqR (SOps.assign rfl (SOps.assign rfl (SOps.nil (SCode.ret ?_))))
    exact ⟨_, Res.two (.tmp rfl) (.tmp rfl), congrArg (fun p : ByteArray × Int => DV.tup [.v (.string p.1), .v (.int .i64 p.2)]) (show (.empty, 3) = plainR vd se fl pg from Eq.symm (by unfold plainR; rw [if_neg (by simp_all), if_pos (by rw [Bool.eq_false_iff]; intro h9; have h8 := List.all_eq_true.1 h9 _ (List.getElem_mem hil); simp_all)]))⟩
   ·try simp only [nmL] at hc3
    refine SCode.skip ?_
    show SCode _ _ _ _
    refine SCode.region (SOps.addI rfl rfl (by omega) (by omega) (SOps.move rfl (SOps.nil ?_)))
    exact ⟨i + 1, ⟨by omega, fun w h => by rw [take_next hil] at h; rcases List.mem_append.1 h with h | h; exact hu w h; rw [List.mem_singleton.1 h]; simp_all⟩, by omega, St.Le.of ⟨rfl, rfl, rfl, rfl, rfl, trivial⟩⟩
  ·try simp only [nmL] at hc2
   refine SCode.exit ?_
   show SMCode _ _ _ _ _
   refine SMCode.seqRS ?_
   refine SOps.alloc (sz := 1) zeroIs_22 (fun b0 hb_0 => ?_)
   refine SOps.nil (SMCode.seqRS ?_)
   refine SOps.alloc (sz := 1) zeroIs_4 (fun b1 hb_1 => ?_)
   refine SOps.storeM 0 rfl rfl oneB_4 rfl (SOps.nil (SMCode.seq (SMCode.seqRS (SOps.loadPinA rfl aggB_62_30 (Nat.le_of_ble_eq_true rfl) (SOps.move rfl (SOps.callP (cWords _ _) rfl ?_))))))
   rintro _ rfl
   refine SOps.nil (SMCode.block ?_)
   have hua : pg.all utf8R = true := List.all_eq_true.2 (fun w hw => hu w (by rw [List.take_of_length_le (by omega)]; exact hw))
   clear hu
   refine SMCode.weaken (st' := (⟨75, [(2, .ipin (encG l)), (8, .ref b0 0), (9, .ref b1 0), (31, .fn 105 [.ipin [DStrs pg], .ipin (encG l)])], ([(b1, .row 4 1 [[.v (.bool (plR (wrdA fl pg) 0).2)]]), (b0, .row 22 1 [[accD 1 0 ((plR (wrdA fl pg) 0).1.map encS)]])] ++ (accH 9 1 0 ((plR (wrdA fl pg) 0).1.map encS) ++ []))⟩ : St)) (St.Le.of ⟨rfl, rfl, rfl, rfl, trivial⟩ rfl rfl) ?_
   refine SMCode.range2 rfl (iWords l pg lg fl hLg hFF) (fun i H => ∃ k, List.Sublist ([(b1, .row 4 1 [[.v (.bool (plR (wrdA fl pg) i).2)]]), (b0, .row 22 1 [[accD 1 k ((plR (wrdA fl pg) i).1.map encS)]])] ++ (accH 9 1 k ((plR (wrdA fl pg) i).1.map encS) ++ [])) H) ⟨0, List.Sublist.refl _⟩ rfl rfl (fun i x l9 H hx hI => ?_) (fun H hI => ?_)
   ·obtain ⟨k, hsub⟩ := hI
    obtain ⟨y, hy, rfl⟩ : ∃ y, (wrdA fl pg)[i]? = some y ∧ wrdD y = x := by rw [List.getElem?_map] at hx; exact Option.map_eq_some_iff.1 hx
    have hil : i < (wrdA fl pg).length := (List.getElem?_eq_some_iff.1 hy).1
    have hnx := plR_next hy
    obtain ⟨hop, hol, how⟩ := plR_inv hM i (by omega)
    have hyM := hM y (List.mem_of_getElem? hy)
    have hiM : i * M ≤ 1048576 := Nat.le_trans (Nat.mul_le_mul_right _ (by omega)) hX
    have hMl : M ≤ 1048576 := Nat.le_trans (Nat.le_mul_of_pos_left M (show 0 < (wrdA fl pg).length by omega)) hX
    generalize hs9 : plR (wrdA fl pg) i = s9 at hsub hnx hop hol how
    obtain ⟨o, op⟩ := s9
    dsimp only at hsub hop hol how
    refine SRound.weaken (st' := (⟨75, [(2, .ipin (encG l)), (8, .ref b0 0), (9, .ref b1 0), (32, .v (.string y.1)), (33, .agg [.v (.bool y.2.1), .v (.bool y.2.2)])], ([(b1, .row 4 1 [[.v (.bool op)]]), (b0, .row 22 1 [[accD 1 k (o.map encS)]])] ++ (accH 9 1 k (o.map encS) ++ []))⟩ : St)) (St.Le.ofSub ⟨rfl, rfl, rfl, rfl, rfl, trivial⟩ hsub) (SRound.seqR (SOps.assign rfl (SOps.nil (SRound.region ?_))))
    refine SOps.alloc (sz := 2) zeroIs_124 (fun b2 hb_2 => ?_)
    refine SOps.storeAM 0 rfl rfl aggB_124_2 rfl (SOps.nil ?_)
    refine ⟨rfl, ?_⟩
    refine SRound.block (SRound.seq (SRound.seqR (SOps.loadRef 1 0 0 rfl flatB_4 rfl rfl rfl rfl (SOps.move rfl ?_))))
    refine SOps.caseB 35 rfl (fun hb4 => ?_) (fun hb4 => ?_)
    ·try simp only [nmL] at hb4
     refine SOps.indexRefA 0 rfl rfl arrayB_124_2_4_1 rfl (by omega) (SOps.loadRef 0 0 0 rfl flatB_4 rfl rfl rfl rfl (SOps.pick rfl rfl (SOps.nil ?_)))
     refine SRound.cond rfl (fun hc5 => ?_) (fun hc5 => ?_)
     ·try simp only [nmL] at hc5
      refine SRound.seqR ?_
      have hne : o ≠ [] := hop (by simp_all)
      have hol2 : 0 < o.length := List.length_pos_iff.2 hne
      have hon : 0 < (o.map encS).length := by rw [List.length_map]; exact hol2
      refine SOps.reHeap (H' := [(b2, .row 124 2 [[.v (.bool y.2.1), .v (.bool y.2.2)]]), (b1, .row 4 1 [[.v (.bool op)]]), (b0, .row 22 1 [[.sl k 1 0 o.length]]), (k, .row 9 1 (o.map encS))]) (by rw [accD_ne hon, accH_ne hon, List.length_map]; rfl) (SOps.loadRef 2 0 0 rfl flatB_22 rfl rfl rfl rfl (SOps.loadRef 2 0 0 rfl flatB_22 rfl rfl rfl rfl (SOps.lenSl rfl sliceB_22_9_1 (SOps.subI rfl rfl (by omega) (by omega) (SOps.indexS (o.length - 1) rfl rfl sliceB_22_9_1 (by omega) (by omega) (SOps.assign rfl (SOps.nil (SRound.region (SOps.move rfl (SOps.move rfl (SOps.nilCheck rfl rfl (SOps.loadK 3 (o.length - 1) rfl flatB_9 rfl (by omega) (by omega) rfl (SOps.callP (sTrimSuffix _ _) rfl ?_)))))))))))))
      rintro _ rfl
      refine SOps.move rfl (SOps.concat rfl rfl (by first | omega | (have h8 := trimB_size (o[o.length - 1]) ⟨#[45]⟩; have h7 := how _ (List.getElem_mem (show o.length - 1 < o.length by omega)); show _ + _ ≤ _; simp only [lenB]; omega)) (SOps.nilCheck rfl rfl (SOps.storeK 3 (o.length - 1) rfl rfl oneB_9 rfl (by omega) (by omega) rfl (fun _ => rfl) (SOps.nil ?_))))
      show SRound _ _ _ _ _
      refine SRound.region (SOps.indexRefA 1 rfl rfl arrayB_124_2_4_1 rfl (by omega) (SOps.loadRef 0 0 1 rfl flatB_4 rfl rfl rfl rfl (SOps.move rfl ?_)))
      refine SOps.caseB 58 rfl (fun hb6 => ?_) (fun hb6 => ?_)
      ·try simp only [nmL] at hb6
       refine SOps.move rfl (SOps.callP (sHasSuffix _ _) rfl ?_)
       rintro _ rfl
       refine SOps.pick rfl rfl (SOps.storeM 1 rfl rfl oneB_4 rfl (SOps.nil ?_))
       first
        | exact ⟨rfl, k, by rw [hnx, plJ hol2 (by assumption) (by assumption) (by assumption)]; dsimp only; rw [accD_ne (by simp; omega), accH_ne (by simp; omega)]; simp only [List.length_map, List.length_set]; exact .cons _ (.refl _)⟩
        | exact ⟨rfl, b3, by rw [hnx, plN (by first | exact .inl (by assumption) | exact .inr (by assumption)) (by assumption)]; dsimp only; rw [List.map_append]; exact .cons _ (.refl _)⟩
        | exact ⟨rfl, b4, by rw [hnx, plN (by first | exact .inl (by assumption) | exact .inr (by assumption)) (by assumption)]; dsimp only; rw [List.map_append]; exact .cons _ (.refl _)⟩
        | exact ⟨rfl, b5, by rw [hnx, plN (by first | exact .inl (by assumption) | exact .inr (by assumption)) (by assumption)]; dsimp only; rw [List.map_append]; exact .cons _ (.refl _)⟩
        | exact ⟨rfl, b6, by rw [hnx, plN (by first | exact .inl (by assumption) | exact .inr (by assumption)) (by assumption)]; dsimp only; rw [List.map_append]; exact .cons _ (.refl _)⟩
        | exact ⟨rfl, b7, by rw [hnx, plN (by first | exact .inl (by assumption) | exact .inr (by assumption)) (by assumption)]; dsimp only; rw [List.map_append]; exact .cons _ (.refl _)⟩
        | exact ⟨rfl, b8, by rw [hnx, plN (by first | exact .inl (by assumption) | exact .inr (by assumption)) (by assumption)]; dsimp only; rw [List.map_append]; exact .cons _ (.refl _)⟩
        | exact ⟨rfl, b9, by rw [hnx, plN (by first | exact .inl (by assumption) | exact .inr (by assumption)) (by assumption)]; dsimp only; rw [List.map_append]; exact .cons _ (.refl _)⟩
        | exact ⟨rfl, b10, by rw [hnx, plN (by first | exact .inl (by assumption) | exact .inr (by assumption)) (by assumption)]; dsimp only; rw [List.map_append]; exact .cons _ (.refl _)⟩
        | exact ⟨rfl, b11, by rw [hnx, plN (by first | exact .inl (by assumption) | exact .inr (by assumption)) (by assumption)]; dsimp only; rw [List.map_append]; exact .cons _ (.refl _)⟩
      ·try simp only [nmL] at hb6
       refine SOps.skip rfl (SOps.skip rfl (SOps.pick rfl rfl (SOps.storeM 1 rfl rfl oneB_4 rfl (SOps.nil ?_))))
       first
        | exact ⟨rfl, k, by rw [hnx, plJ hol2 (by assumption) (by assumption) (by assumption)]; dsimp only; rw [accD_ne (by simp; omega), accH_ne (by simp; omega)]; simp only [List.length_map, List.length_set]; exact .cons _ (.refl _)⟩
        | exact ⟨rfl, b3, by rw [hnx, plN (by first | exact .inl (by assumption) | exact .inr (by assumption)) (by assumption)]; dsimp only; rw [List.map_append]; exact .cons _ (.refl _)⟩
        | exact ⟨rfl, b4, by rw [hnx, plN (by first | exact .inl (by assumption) | exact .inr (by assumption)) (by assumption)]; dsimp only; rw [List.map_append]; exact .cons _ (.refl _)⟩
        | exact ⟨rfl, b5, by rw [hnx, plN (by first | exact .inl (by assumption) | exact .inr (by assumption)) (by assumption)]; dsimp only; rw [List.map_append]; exact .cons _ (.refl _)⟩
        | exact ⟨rfl, b6, by rw [hnx, plN (by first | exact .inl (by assumption) | exact .inr (by assumption)) (by assumption)]; dsimp only; rw [List.map_append]; exact .cons _ (.refl _)⟩
        | exact ⟨rfl, b7, by rw [hnx, plN (by first | exact .inl (by assumption) | exact .inr (by assumption)) (by assumption)]; dsimp only; rw [List.map_append]; exact .cons _ (.refl _)⟩
        | exact ⟨rfl, b8, by rw [hnx, plN (by first | exact .inl (by assumption) | exact .inr (by assumption)) (by assumption)]; dsimp only; rw [List.map_append]; exact .cons _ (.refl _)⟩
        | exact ⟨rfl, b9, by rw [hnx, plN (by first | exact .inl (by assumption) | exact .inr (by assumption)) (by assumption)]; dsimp only; rw [List.map_append]; exact .cons _ (.refl _)⟩
        | exact ⟨rfl, b10, by rw [hnx, plN (by first | exact .inl (by assumption) | exact .inr (by assumption)) (by assumption)]; dsimp only; rw [List.map_append]; exact .cons _ (.refl _)⟩
        | exact ⟨rfl, b11, by rw [hnx, plN (by first | exact .inl (by assumption) | exact .inr (by assumption)) (by assumption)]; dsimp only; rw [List.map_append]; exact .cons _ (.refl _)⟩
     ·try simp only [nmL] at hc5
      refine SRound.region (SOps.loadRef 2 0 0 rfl flatB_22 rfl rfl rfl rfl (SOps.move rfl (SOps.frame1 (SOps.litF rfl sliceB_22_9_1 zeroIs_9 rfl (SOps.nil rfl)) ?_)))
      refine SOps.appendAcc [_, _, _] _ sliceB_22_9_1 elemB_9_1_16 rfl rfl rfl SrcD.isl (by simp) (by first | (simp [lenB] <;> (first | omega | (simp only [lenB]; omega) | (simp only [List.length_map, lenB]; omega) | (simp; done))) | (simp only [lenB]; (first | omega | (simp only [lenB]; omega) | (simp only [List.length_map, lenB]; omega) | (simp; done)))) (by first | (simp <;> (first | omega | (simp only [lenB]; omega) | (simp only [List.length_map, lenB]; omega) | (simp; done))) | (first | omega | (simp only [lenB]; omega) | (simp only [List.length_map, lenB]; omega) | (simp; done))) (fun b3 => ?_)
      refine SOps.storeM 2 rfl rfl oneB_22 rfl ?_ (accD_one _ _ _)
      refine SOps.nil ?_
      show SRound _ _ _ _ _
      refine SRound.region (SOps.indexRefA 1 rfl rfl arrayB_124_2_4_1 rfl (by omega) (SOps.loadRef 0 0 1 rfl flatB_4 rfl rfl rfl rfl (SOps.move rfl ?_)))
      refine SOps.caseB 58 rfl (fun hb7 => ?_) (fun hb7 => ?_)
      ·try simp only [nmL] at hb7
       refine SOps.move rfl (SOps.callP (sHasSuffix _ _) rfl ?_)
       rintro _ rfl
       refine SOps.pick rfl rfl (SOps.storeM 1 rfl rfl oneB_4 rfl (SOps.nil ?_))
       first
        | exact ⟨rfl, k, by rw [hnx, plJ hol2 (by assumption) (by assumption) (by assumption)]; dsimp only; rw [accD_ne (by simp; omega), accH_ne (by simp; omega)]; simp only [List.length_map, List.length_set]; exact .cons _ (.refl _)⟩
        | exact ⟨rfl, b3, by rw [hnx, plN (by first | exact .inl (by assumption) | exact .inr (by assumption)) (by assumption)]; dsimp only; rw [List.map_append]; exact .cons _ (.refl _)⟩
        | exact ⟨rfl, b4, by rw [hnx, plN (by first | exact .inl (by assumption) | exact .inr (by assumption)) (by assumption)]; dsimp only; rw [List.map_append]; exact .cons _ (.refl _)⟩
        | exact ⟨rfl, b5, by rw [hnx, plN (by first | exact .inl (by assumption) | exact .inr (by assumption)) (by assumption)]; dsimp only; rw [List.map_append]; exact .cons _ (.refl _)⟩
        | exact ⟨rfl, b6, by rw [hnx, plN (by first | exact .inl (by assumption) | exact .inr (by assumption)) (by assumption)]; dsimp only; rw [List.map_append]; exact .cons _ (.refl _)⟩
        | exact ⟨rfl, b7, by rw [hnx, plN (by first | exact .inl (by assumption) | exact .inr (by assumption)) (by assumption)]; dsimp only; rw [List.map_append]; exact .cons _ (.refl _)⟩
        | exact ⟨rfl, b8, by rw [hnx, plN (by first | exact .inl (by assumption) | exact .inr (by assumption)) (by assumption)]; dsimp only; rw [List.map_append]; exact .cons _ (.refl _)⟩
        | exact ⟨rfl, b9, by rw [hnx, plN (by first | exact .inl (by assumption) | exact .inr (by assumption)) (by assumption)]; dsimp only; rw [List.map_append]; exact .cons _ (.refl _)⟩
        | exact ⟨rfl, b10, by rw [hnx, plN (by first | exact .inl (by assumption) | exact .inr (by assumption)) (by assumption)]; dsimp only; rw [List.map_append]; exact .cons _ (.refl _)⟩
        | exact ⟨rfl, b11, by rw [hnx, plN (by first | exact .inl (by assumption) | exact .inr (by assumption)) (by assumption)]; dsimp only; rw [List.map_append]; exact .cons _ (.refl _)⟩
      ·try simp only [nmL] at hb7
       refine SOps.skip rfl (SOps.skip rfl (SOps.pick rfl rfl (SOps.storeM 1 rfl rfl oneB_4 rfl (SOps.nil ?_))))
       first
        | exact ⟨rfl, k, by rw [hnx, plJ hol2 (by assumption) (by assumption) (by assumption)]; dsimp only; rw [accD_ne (by simp; omega), accH_ne (by simp; omega)]; simp only [List.length_map, List.length_set]; exact .cons _ (.refl _)⟩
        | exact ⟨rfl, b3, by rw [hnx, plN (by first | exact .inl (by assumption) | exact .inr (by assumption)) (by assumption)]; dsimp only; rw [List.map_append]; exact .cons _ (.refl _)⟩
        | exact ⟨rfl, b4, by rw [hnx, plN (by first | exact .inl (by assumption) | exact .inr (by assumption)) (by assumption)]; dsimp only; rw [List.map_append]; exact .cons _ (.refl _)⟩
        | exact ⟨rfl, b5, by rw [hnx, plN (by first | exact .inl (by assumption) | exact .inr (by assumption)) (by assumption)]; dsimp only; rw [List.map_append]; exact .cons _ (.refl _)⟩
        | exact ⟨rfl, b6, by rw [hnx, plN (by first | exact .inl (by assumption) | exact .inr (by assumption)) (by assumption)]; dsimp only; rw [List.map_append]; exact .cons _ (.refl _)⟩
        | exact ⟨rfl, b7, by rw [hnx, plN (by first | exact .inl (by assumption) | exact .inr (by assumption)) (by assumption)]; dsimp only; rw [List.map_append]; exact .cons _ (.refl _)⟩
        | exact ⟨rfl, b8, by rw [hnx, plN (by first | exact .inl (by assumption) | exact .inr (by assumption)) (by assumption)]; dsimp only; rw [List.map_append]; exact .cons _ (.refl _)⟩
        | exact ⟨rfl, b9, by rw [hnx, plN (by first | exact .inl (by assumption) | exact .inr (by assumption)) (by assumption)]; dsimp only; rw [List.map_append]; exact .cons _ (.refl _)⟩
        | exact ⟨rfl, b10, by rw [hnx, plN (by first | exact .inl (by assumption) | exact .inr (by assumption)) (by assumption)]; dsimp only; rw [List.map_append]; exact .cons _ (.refl _)⟩
        | exact ⟨rfl, b11, by rw [hnx, plN (by first | exact .inl (by assumption) | exact .inr (by assumption)) (by assumption)]; dsimp only; rw [List.map_append]; exact .cons _ (.refl _)⟩
    ·try simp only [nmL] at hb4
     refine SOps.skip rfl (SOps.skip rfl (SOps.pick rfl rfl (SOps.nil ?_)))
     refine SRound.cond rfl (fun h => by cases h) (fun _ => ?_)
     refine SRound.region (SOps.loadRef 2 0 0 rfl flatB_22 rfl rfl rfl rfl (SOps.move rfl (SOps.frame1 (SOps.litF rfl sliceB_22_9_1 zeroIs_9 rfl (SOps.nil rfl)) ?_)))
     refine SOps.appendAcc [_, _, _] _ sliceB_22_9_1 elemB_9_1_16 rfl rfl rfl SrcD.isl (by simp) (by first | (simp [lenB] <;> (first | omega | (simp only [lenB]; omega) | (simp only [List.length_map, lenB]; omega) | (simp; done))) | (simp only [lenB]; (first | omega | (simp only [lenB]; omega) | (simp only [List.length_map, lenB]; omega) | (simp; done)))) (by first | (simp <;> (first | omega | (simp only [lenB]; omega) | (simp only [List.length_map, lenB]; omega) | (simp; done))) | (first | omega | (simp only [lenB]; omega) | (simp only [List.length_map, lenB]; omega) | (simp; done))) (fun b4 => ?_)
     refine SOps.storeM 2 rfl rfl oneB_22 rfl ?_ (accD_one _ _ _)
     refine SOps.nil ?_
     show SRound _ _ _ _ _
     refine SRound.region (SOps.indexRefA 1 rfl rfl arrayB_124_2_4_1 rfl (by omega) (SOps.loadRef 0 0 1 rfl flatB_4 rfl rfl rfl rfl (SOps.move rfl ?_)))
     refine SOps.caseB 58 rfl (fun hb8 => ?_) (fun hb8 => ?_)
     ·try simp only [nmL] at hb8
      refine SOps.move rfl (SOps.callP (sHasSuffix _ _) rfl ?_)
      rintro _ rfl
      refine SOps.pick rfl rfl (SOps.storeM 1 rfl rfl oneB_4 rfl (SOps.nil ?_))
      first
       | exact ⟨rfl, k, by rw [hnx, plJ hol2 (by assumption) (by assumption) (by assumption)]; dsimp only; rw [accD_ne (by simp; omega), accH_ne (by simp; omega)]; simp only [List.length_map, List.length_set]; exact .cons _ (.refl _)⟩
       | exact ⟨rfl, b3, by rw [hnx, plN (by first | exact .inl (by assumption) | exact .inr (by assumption)) (by assumption)]; dsimp only; rw [List.map_append]; exact .cons _ (.refl _)⟩
       | exact ⟨rfl, b4, by rw [hnx, plN (by first | exact .inl (by assumption) | exact .inr (by assumption)) (by assumption)]; dsimp only; rw [List.map_append]; exact .cons _ (.refl _)⟩
       | exact ⟨rfl, b5, by rw [hnx, plN (by first | exact .inl (by assumption) | exact .inr (by assumption)) (by assumption)]; dsimp only; rw [List.map_append]; exact .cons _ (.refl _)⟩
       | exact ⟨rfl, b6, by rw [hnx, plN (by first | exact .inl (by assumption) | exact .inr (by assumption)) (by assumption)]; dsimp only; rw [List.map_append]; exact .cons _ (.refl _)⟩
       | exact ⟨rfl, b7, by rw [hnx, plN (by first | exact .inl (by assumption) | exact .inr (by assumption)) (by assumption)]; dsimp only; rw [List.map_append]; exact .cons _ (.refl _)⟩
       | exact ⟨rfl, b8, by rw [hnx, plN (by first | exact .inl (by assumption) | exact .inr (by assumption)) (by assumption)]; dsimp only; rw [List.map_append]; exact .cons _ (.refl _)⟩
       | exact ⟨rfl, b9, by rw [hnx, plN (by first | exact .inl (by assumption) | exact .inr (by assumption)) (by assumption)]; dsimp only; rw [List.map_append]; exact .cons _ (.refl _)⟩
       | exact ⟨rfl, b10, by rw [hnx, plN (by first | exact .inl (by assumption) | exact .inr (by assumption)) (by assumption)]; dsimp only; rw [List.map_append]; exact .cons _ (.refl _)⟩
       | exact ⟨rfl, b11, by rw [hnx, plN (by first | exact .inl (by assumption) | exact .inr (by assumption)) (by assumption)]; dsimp only; rw [List.map_append]; exact .cons _ (.refl _)⟩
     ·try simp only [nmL] at hb8
      refine SOps.skip rfl (SOps.skip rfl (SOps.pick rfl rfl (SOps.storeM 1 rfl rfl oneB_4 rfl (SOps.nil ?_))))
      first
       | exact ⟨rfl, k, by rw [hnx, plJ hol2 (by assumption) (by assumption) (by assumption)]; dsimp only; rw [accD_ne (by simp; omega), accH_ne (by simp; omega)]; simp only [List.length_map, List.length_set]; exact .cons _ (.refl _)⟩
       | exact ⟨rfl, b3, by rw [hnx, plN (by first | exact .inl (by assumption) | exact .inr (by assumption)) (by assumption)]; dsimp only; rw [List.map_append]; exact .cons _ (.refl _)⟩
       | exact ⟨rfl, b4, by rw [hnx, plN (by first | exact .inl (by assumption) | exact .inr (by assumption)) (by assumption)]; dsimp only; rw [List.map_append]; exact .cons _ (.refl _)⟩
       | exact ⟨rfl, b5, by rw [hnx, plN (by first | exact .inl (by assumption) | exact .inr (by assumption)) (by assumption)]; dsimp only; rw [List.map_append]; exact .cons _ (.refl _)⟩
       | exact ⟨rfl, b6, by rw [hnx, plN (by first | exact .inl (by assumption) | exact .inr (by assumption)) (by assumption)]; dsimp only; rw [List.map_append]; exact .cons _ (.refl _)⟩
       | exact ⟨rfl, b7, by rw [hnx, plN (by first | exact .inl (by assumption) | exact .inr (by assumption)) (by assumption)]; dsimp only; rw [List.map_append]; exact .cons _ (.refl _)⟩
       | exact ⟨rfl, b8, by rw [hnx, plN (by first | exact .inl (by assumption) | exact .inr (by assumption)) (by assumption)]; dsimp only; rw [List.map_append]; exact .cons _ (.refl _)⟩
       | exact ⟨rfl, b9, by rw [hnx, plN (by first | exact .inl (by assumption) | exact .inr (by assumption)) (by assumption)]; dsimp only; rw [List.map_append]; exact .cons _ (.refl _)⟩
       | exact ⟨rfl, b10, by rw [hnx, plN (by first | exact .inl (by assumption) | exact .inr (by assumption)) (by assumption)]; dsimp only; rw [List.map_append]; exact .cons _ (.refl _)⟩
       | exact ⟨rfl, b11, by rw [hnx, plN (by first | exact .inl (by assumption) | exact .inr (by assumption)) (by assumption)]; dsimp only; rw [List.map_append]; exact .cons _ (.refl _)⟩
   ·obtain ⟨k, hsub⟩ := hI
    rw [List.length_map] at hsub
    obtain ⟨-, hol, how⟩ := plR_inv hM (wrdA fl pg).length (Nat.le_refl _)
    show SMCode _ _ _ _ _
    refine SMCode.weaken (st' := (⟨75, [(2, .ipin (encG l)), (8, .ref b0 0), (9, .ref b1 0)], ([(b1, .row 4 1 [[.v (.bool (plR (wrdA fl pg) (wrdA fl pg).length).2)]]), (b0, .row 22 1 [[accD 1 k ((plR (wrdA fl pg) (wrdA fl pg).length).1.map encS)]])] ++ (accH 9 1 k ((plR (wrdA fl pg) (wrdA fl pg).length).1.map encS) ++ []))⟩ : St)) (St.Le.ofSub ⟨rfl, rfl, rfl, trivial⟩ hsub) (SMCode.seq (SMCode.seqR (SOps.loadRef 0 0 0 rfl flatB_4 rfl rfl rfl rfl (SOps.nil ?_))))
    refine SMCode.cond rfl (fun hc9 => ?_) (fun hc9 => ?_)
    ·try simp only [nmL] at hc9
     refine SMCode.seqR (SOps.assign rfl (SOps.assign rfl (SOps.nil (SMCode.ret ?_))))
     exact ⟨_, Res.two (.tmp rfl) (.tmp rfl), congrArg (fun p : ByteArray × Int => DV.tup [.v (.string p.1), .v (.int .i64 p.2)]) (show (.empty, 3) = plainR vd se fl pg from Eq.symm (by unfold plainR; rw [if_neg (by simp_all), if_neg (by rw [hua]; simp), if_pos (by assumption)]))⟩
    ·try simp only [nmL] at hc9
     refine SMCode.skip ?_
     show SMCode _ _ _ _ _
     refine SMCode.seqR (SOps.loadRef 1 0 0 rfl flatB_22 rfl rfl rfl rfl ?_)
     refine SOps.callH [_, _] _ _ (GCall.thawAcc (sJoin _ (by omega) (fun w h => Nat.le_trans (how w h) hX))) rfl rfl (fun d H hR => ?_)
     obtain ⟨rfl, rfl⟩ := hR
     refine SOps.assign rfl (SOps.nil (SMCode.seq (SMCode.seqR (SOps.loadPinA rfl aggB_62_30 (Nat.le_of_ble_eq_true rfl) (SOps.move rfl (SOps.callP h65 rfl ?_))))))
     rintro _ ⟨d4, rfl⟩
     refine SOps.move rfl (SOps.extract rfl rfl (SOps.extract rfl rfl (SOps.assign rfl (SOps.assign rfl (SOps.nil (SMCode.seqR (SOps.move rfl (SOps.bin rfl rfl rfl (SOps.nil ?_)))))))))
     refine SMCode.cond rfl (fun hc10 => ?_) (fun hc10 => ?_)
     ·try simp only [nmL] at hc10
      refine SMCode.seqR (SOps.move rfl (SOps.assign rfl (SOps.assign rfl (SOps.nil (SMCode.ret ?_)))))
      exact ⟨_, Res.two (.tmp rfl) (.tmp rfl), congrArg (fun p : ByteArray × Int => DV.tup [.v (.string p.1), .v (.int .i64 p.2)]) (show (.empty, se) = plainR vd se fl pg from Eq.symm (by unfold plainR; rw [if_neg (by simp_all), if_neg (by rw [hua]; simp), if_neg (by simp_all), if_pos (by simp_all)]))⟩
     ·try simp only [nmL] at hc10
      refine SMCode.skip ?_
      show SMCode _ _ _ _ _
      refine SMCode.seqR (SOps.move rfl (SOps.assign rfl (SOps.assign rfl (SOps.nil (SMCode.ret ?_)))))
      exact ⟨_, Res.two (.tmp rfl) (.tmp rfl), congrArg (fun p : ByteArray × Int => DV.tup [.v (.string p.1), .v (.int .i64 p.2)]) (show ((catW (plR (wrdA fl pg) (wrdA fl pg).length).1), 0) = plainR vd se fl pg from Eq.symm (by unfold plainR; rw [if_neg (by simp_all), if_neg (by rw [hua]; simp), if_neg (by simp_all), if_neg (by simp_all)]))⟩
theorem cPlain (hV : VS E) (l : Lng) (pg : List ByteArray) (lg : ByteArray → ByteArray) (fl : ByteArray → List ByteArray) (vd : Bool) (se : Int) (M : Nat) (hM : ∀ x ∈ (wrdA fl pg), x.1.size ≤ M) (hX : (wrdA fl pg).length * M ≤ 1048576) (hX2 : (wrdA fl pg).length ≤ 1048576)
    (hLg : ∀ w ∈ pg, GCall Tryz.prog E 28 [.v (.int .i64 (baseR l)), .v (.string w)] [] (fun d H => d = .v (.string (lg w)) ∧ H = [])) (hFF : ∀ w ∈ pg, GCall Tryz.prog E 106 [.v (.string (lg w)), .fn 107 []] [] (fun d H => d = DStrs (fl w) ∧ H = []))
    (h64 : GCall Tryz.prog E 64 [.agg (encG l)] [] (fun d H => d = .v (.bool vd) ∧ H = [])) (h65 : GCall Tryz.prog E 65 [.agg (encG l), .v (.string (catW (plR (wrdA fl pg) (wrdA fl pg).length).1))] [] (fun d H => (∃ d4, d = .tup [d4, .v (.int .i64 se)]) ∧ H = [])) : GCall Tryz.prog E 30 [.agg (encG l), DStrs pg] [] (fun d H => d = .tup [.v (.string (plainR vd se fl pg).1), .v (.int .i64 (plainR vd se fl pg).2)] ∧ H = []) :=
  GCall.clean (cPlain0 hV l pg lg fl vd se M hM hX hX2 hLg hFF h64 h65) (fun d H h => ⟨d, fun _ _ _ h => h, h⟩)
end Go.GH
namespace Go.GH
open Go Go.Lib Go.Proofs Go.RowKit
variable {E : Env}
def blkP (r : Nat) : Bool := decide ((r : Int) = 32)
def fldR (s : ByteArray) : List ByteArray := Lib.goFieldsP blkP s
theorem spansP_len (p : Nat → Bool) (s : ByteArray) : ∀ (f pos : Nat) (st : Option Nat) (acc : List (Nat × Nat)), (spansFromP p s f pos st acc).1.length ≤ acc.length + f
  | 0, _, _, _ => Nat.le_refl _
  | f + 1, pos, st, acc => by
    unfold spansFromP
    split
    · split
      · cases st with
        | none => exact Nat.le_trans (spansP_len p s f _ _ _) (by omega)
        | some a => exact Nat.le_trans (spansP_len p s f _ _ _) (by simp; omega)
      · cases st with
        | none => exact Nat.le_trans (spansP_len p s f _ _ _) (by omega)
        | some a => exact Nat.le_trans (spansP_len p s f _ _ _) (by omega)
    · simp
theorem fldR_len (s : ByteArray) : (fldR s).length ≤ s.size + 1 := by
  unfold fldR Lib.goFieldsP spansOfP
  rw [List.length_map]
  have h := spansP_len blkP s s.size 0 none []
  unfold closeSpans
  split <;> simp at h ⊢ <;> omega
theorem fldR_size {s x : ByteArray} (h : x ∈ fldR s) : x.size ≤ s.size := by
  unfold fldR Lib.goFieldsP at h
  obtain ⟨y, _, rfl⟩ := List.mem_map.1 h
  rw [ByteArray.size_extract]
  omega
theorem Tryz.isBlank (w : World) : PredAtRunes Tryz.prog 107 #[] blkP w := fun W r _ _ => by
  unfold FnGives
  go_enter Tryz.func107, Tryz.ntmps107
  go_wp2
  go_ret
  exact ⟨rfl, 0, rfl⟩
theorem sFields (s : ByteArray) (hs : s.size ≤ 1048576) : GCall Tryz.prog E 106 [.v (.string s), .fn 107 []] [] (fun d H => d = DStrs (fldR s) ∧ H = []) := by
  refine GCall.ofRow (by kernel_rfl) (fun x hx => Nat.le_trans (fldR_size hx) (by unfold lenB; omega)) (Nat.le_trans (fldR_len s) (by unfold lenB; omega)) (fun w F vs hE hF hl hr => ?_)
  have hl2 : vs.size = 2 := hl
  have h0 := (hr 0 vs[0] _ (Array.getElem?_eq_getElem (by omega)) rfl).inv_v.1
  have h1 := hr 1 vs[1] _ (Array.getElem?_eq_getElem (by omega)) rfl
  have hv : vs = #[vs[0], vs[1]] := by
    apply Array.ext
    · simpa using hl
    · intro i h2 h3
      rcases (show i = 0 ∨ i = 1 by simp at h3; omega) with rfl | rfl <;> rfl
  rw [hv, h0]
  generalize vs[1] = v1 at h1
  cases h1 with
  | @fn _ us _ hul _ =>
    obtain rfl : us = #[] := Array.eq_empty_of_size_eq_zero (by simpa using hul)
    refine (Any.strings_FieldsFunc_runes Tryz.laysFF 107 #[] (enters_of Tryz.func107 (by kernel_rfl) rfl) blkP s w (by omega) (Tryz.isBlank w) (by kernel_rfl) (by kernel_rfl)).mono ?_
    rintro e w' ⟨A, h3, h4, h5, h6⟩
    refine ⟨⟨A, _, h3, Nat.le_refl _, h4, ?_⟩, h6⟩
    obtain ⟨a1, a2⟩ := h5
    rcases a2 with ⟨a2, _⟩ | ⟨g, cap, cur, e1, e2, e3, e4, e5, e6, e7⟩
    · cases a2
    · simp only [Value.slice.injEq, Option.some.injEq, Addr.mk.injEq, and_true, true_and] at e1
      obtain ⟨rfl, rfl⟩ := e1
      refine ⟨(Array.getElem?_eq_some_iff.1 e3).1, fun j x hj => ?_⟩
      have h7 : cur[j]? = some (.string x) := by
        rw [← Array.getElem?_toList]
        have h8 := congrArg (fun l => l[j]?) e7
        simp only [List.getElem?_take, List.getElem?_map] at h8
        have hjl : j < (goFieldsP blkP s).length := (List.getElem?_eq_some_iff.1 hj).1
        rw [if_pos (by omega), show (goFieldsP blkP s)[j]? = some x from hj] at h8
        exact h8
      unfold World.cell?
      simp [e3, h7]
end Go.GH
namespace Go.GH
open Go Go.Lib Go.Proofs Go.RowKit

/-! ### the environment -/
def E50 : Env where
  holds := fun w F => Lib.Utf8Tabs 0 1 w ∧ F 0 ∧ F 1 ∧ (∃ m, w.cell? ⟨2, 0, none⟩ = some (.int .i64 m)) ∧ F 2
  mono := fun {w w' F F'} hw hF h => by
    obtain ⟨⟨h1, h2⟩, h3, h4, h5, h6⟩ := h
    refine ⟨⟨fun c hc => ?_, fun i hi => ⟨?_, ?_⟩⟩, hF _ h3, hF _ h4, ?_, hF _ h6⟩
    · rw [cell?_same (hw _ h3)]; exact h1 c hc
    · rw [cell?_same (hw _ h4)]; exact (h2 i hi).1
    · rw [cell?_same (hw _ h4)]; exact (h2 i hi).2
    · rw [cell?_same (hw _ h6)]; exact h5
theorem vs50 : VS E50 := fun s => GCall.ofCalls (by kernel_rfl) trivial (fun w F vs hE hl hr => by
    obtain ⟨rfl, hs⟩ := arg1 hl hr
    rw [utf8R_valid]
    exact Any.utf8_ValidString Tryz.laysValid s w hs hE.1)
/-- strings.Split at the blank. -/
def splB (s : ByteArray) : List ByteArray := Lib.splitB sp1 0 (Lib.countB s sp1) s
theorem splitB_size (sep : ByteArray) : ∀ (k : Nat) (s x : ByteArray), x ∈ Lib.splitB sep 0 k s → x.size ≤ s.size
  | 0, s, x, h => by rw [Lib.splitB_zero, List.mem_singleton] at h; rw [h]; exact Nat.le_refl _
  | k + 1, s, x, h => by
    unfold Lib.splitB at h
    split at h
    · rw [List.mem_singleton] at h; rw [h]; exact Nat.le_refl _
    · rcases List.mem_cons.1 h with h | h
      · rw [h, ByteArray.size_extract]; omega
      · have := splitB_size sep k _ x h
        rw [ByteArray.size_extract] at this
        omega
theorem splitB_len (sep : ByteArray) : ∀ (k : Nat) (s : ByteArray), (Lib.splitB sep 0 k s).length ≤ k + 1
  | 0, s => Nat.le_refl _
  | k + 1, s => by
    unfold Lib.splitB
    split
    · simp
    · have := splitB_len sep k (s.extract ((Lib.indexB s sep).toNat + sep.size) s.size)
      simp only [List.length_cons]
      omega
theorem arg2' {w : World} {F : Nat → Prop} {vs : Array Value} {x y : Value} (hl : vs.size = 2) (hr : ∀ (j : Nat) (v : Value) (d : DV), vs[j]? = some v → [DV.v x, DV.v y][j]? = some d → Rep w F v d) : vs = #[x, y] := (arg2 hl hr).1
theorem sSplitB (s : ByteArray) (hs : s.size ≤ 1048576) : GCall Tryz.prog E50 100 [.v (.string s), .v (.string sp1)] [] (fun d H => d = DStrs (splB s) ∧ H = []) := by
  have hcb := Lib.countB_le sp1 (by decide) s.size s (Nat.le_refl _)
  have hlen := splitB_len sp1 (Lib.countB s sp1) s
  refine GCall.ofRow (by kernel_rfl) (fun x hx => Nat.le_trans (splitB_size sp1 _ s x hx) (by unfold lenB; omega)) (Nat.le_trans hlen (by unfold lenB; omega)) (fun w F vs hE hF hl hr => ?_)
  rw [arg2' hl hr]
  obtain ⟨_, _, _, ⟨m, hm⟩, _⟩ := hE
  refine (Any.strings_Split { Tryz.laysSplit with } Tryz.laysSplit.i9 s sp1 m w (by omega) hm (by decide)).mono ?_
  rintro e w' ⟨h1, rfl⟩
  have hall : (splB s).length = Lib.countB s sp1 + 1 := by
    have := Lib.splitB_all sp1 (by decide) 0 _ s rfl
    unfold splB
    omega
  refine ⟨⟨w.heap.size, Lib.countB s sp1 + 1, by rw [h1, hall], by rw [hall]; exact Nat.le_refl _, Nat.le_refl _, by simp, fun j x hj => ?_⟩, (Below.refl _ w).alloc (Nat.le_refl _) _⟩
  unfold World.cell?
  rw [World.alloc_heap_new]
  have h9 : ((Lib.splitB sp1 0 (Lib.countB s sp1) s).map Value.string)[j]? = some (Value.string x) := by rw [List.getElem?_map, show (Lib.splitB sp1 0 (Lib.countB s sp1) s)[j]? = some x from hj]; rfl
  simp [h9]

/-! ### calls that only read -/
def onE {α : Type} (b : Bool) (x : α) : Option α := bif b then some x else none
theorem onE_some {α : Type} {b : Bool} {x y : α} (h : onE b x = some y) : b = true ∧ x = y := by
  unfold onE at h
  cases b with
  | true => exact ⟨rfl, Option.some.inj h⟩
  | false => cases h
theorem RL1 {ρ : Rn} {x : Value} {ds : List DV} (h : RL ρ [.v x] ds) : ds = [.v x] := by
  obtain ⟨b, t, rfl, h1, h2⟩ := h.inv_cons
  rw [h1.inv_v, h2.inv_nil]
theorem RL2 {ρ : Rn} {x y : Value} {ds : List DV} (h : RL ρ [.v x, .v y] ds) : ds = [.v x, .v y] := by
  obtain ⟨b, t, rfl, h1, h2⟩ := h.inv_cons
  rw [h1.inv_v, RL1 h2]
theorem RL.self {ρ : Rn} {l : List DV} (h : ∀ d ∈ l, ∃ x, d = .v x) : RL ρ l l := PWl.refl (fun a ha => by obtain ⟨x, rfl⟩ := h a ha; exact .v x)
theorem RD.strs (ρ : Rn) (l : List ByteArray) : RD ρ (DStrs l) (DStrs l) := RD.isl' (PWl.refl (fun a ha => RL.self (fun d hd => by
  obtain ⟨x, _, rfl⟩ := List.mem_map.1 ha
  exact ⟨_, by simpa [encS] using hd⟩)))
abbrev OkH (g : FuncId) (ds : List DV) (hp : Tr DO) (nx : Nat) (d : DV) (up : List (Nat × Option DO)) (nx' : Nat) : Prop :=
  Pure' hp.get nx (upsE hp up).get nx' (up.map (·.1)) ∧ CallOk Tryz.prog E50 g ds hp nx (d, upsE hp up, nx', up.map (·.1))
theorem hookP {g : FuncId} {ds : List DV} {hp : Tr DO} {nx : Nat} {d : DV} (hd : ∀ ρ, RD ρ d d) (h : ∀ ρ dsA, RL ρ ds dsA → GCall Tryz.prog E50 g dsA [] (fun d' H => d' = d ∧ H = [])) : OkH g ds hp nx d [] nx :=
  ⟨Pure'.refl _ _, fun ρ dsA H hc hf hR => (GCall.frameP (H0 := []) (G := H) (List.Perm.refl _) (h ρ dsA hR)).mono (by
    rintro d' H' ⟨H0', ⟨rfl, rfl⟩, rfl, _⟩
    exact ⟨ρ, Post.id (fun p hp => hp), hd ρ⟩)⟩
def isS (s t : ByteArray) : Bool := s.data.toList == t.data.toList
theorem isS_eq {s t : ByteArray} (h : isS s t = true) : s = t := by
  unfold isS at h
  have := eq_of_beq h
  exact ByteArray.ext (Array.toList_inj.1 this)
def hkP (f : FuncId) (ds : List DV) : Option (Option DV) := match ds with
  | [.v (.string s)] => bif Nat.beq f 70 then some (some (.v (.bool (utf8R s)))) else none
  | [.v (.string s), .v (.string p)] =>
    bif Nat.beq f 72 then some (some (.v (.string (trimB s p)))) else
    bif Nat.beq f 78 then some (onE (isS p spnl && (utf8R s && Nat.ble s.size 1048576)) (.v (.bool (anySp s)))) else
    bif Nat.beq f 100 then some (onE (isS p sp1 && Nat.ble s.size 1048576) (DStrs (splB s))) else none
  | [.v (.string s), .v (.int .i64 (.ofNat n))] => bif Nat.beq f 79 then some (onE (isS s sp1 && Nat.ble n 1048576) (.v (.string (blB n)))) else none
  | _ => none
theorem bif_ite {α : Type} {b : Bool} {x y z : α} (h : (bif b then x else y) = z) : (b = true ∧ x = z) ∨ (b = false ∧ y = z) := by
  cases b with
  | true => exact .inl ⟨rfl, h⟩
  | false => exact .inr ⟨rfl, h⟩
theorem hkP_ok {f : FuncId} {ds : List DV} {d : DV} {hp : Tr DO} {nx : Nat} (h : hkP f ds = some (some d)) : OkH f ds hp nx d [] nx := by
  unfold hkP at h
  split at h
  · rcases bif_ite h with ⟨hf, h⟩ | ⟨_, h⟩
    · cases h
      obtain rfl := Nat.eq_of_beq_eq_true hf
      exact hookP (fun ρ => .v _) (fun ρ dsA hR => by rw [RL1 hR]; exact vs50 _)
    · cases h
  · rcases bif_ite h with ⟨hf, h⟩ | ⟨_, h⟩
    · cases h
      obtain rfl := Nat.eq_of_beq_eq_true hf
      exact hookP (fun ρ => .v _) (fun ρ dsA hR => by rw [RL2 hR]; exact sTrimSuffix _ _)
    rcases bif_ite h with ⟨hf, h⟩ | ⟨_, h⟩
    · obtain rfl := Nat.eq_of_beq_eq_true hf
      obtain ⟨hc, rfl⟩ := onE_some (Option.some.inj h)
      simp only [Bool.and_eq_true] at hc
      obtain ⟨h1, h2, h3⟩ := hc
      obtain rfl := isS_eq h1
      exact hookP (fun ρ => .v _) (fun ρ dsA hR => by rw [RL2 hR]; exact sContainsAny _ h2 (Nat.le_of_ble_eq_true h3))
    rcases bif_ite h with ⟨hf, h⟩ | ⟨_, h⟩
    · obtain rfl := Nat.eq_of_beq_eq_true hf
      obtain ⟨hc, rfl⟩ := onE_some (Option.some.inj h)
      simp only [Bool.and_eq_true] at hc
      obtain ⟨h1, h3⟩ := hc
      obtain rfl := isS_eq h1
      exact hookP (fun ρ => RD.strs ρ _) (fun ρ dsA hR => by rw [RL2 hR]; exact sSplitB _ (Nat.le_of_ble_eq_true h3))
    · cases h
  · rcases bif_ite h with ⟨hf, h⟩ | ⟨_, h⟩
    · obtain rfl := Nat.eq_of_beq_eq_true hf
      obtain ⟨hc, rfl⟩ := onE_some (Option.some.inj h)
      simp only [Bool.and_eq_true] at hc
      obtain ⟨h1, h3⟩ := hc
      obtain rfl := isS_eq h1
      exact hookP (fun ρ => .v _) (fun ρ dsA hR => by rw [RL2 hR]; exact sRepeat _ (Nat.le_of_ble_eq_true h3))
    · cases h
  · cases h
end Go.GH
namespace Go.GH
open Go Go.Lib Go.Proofs Go.Proofs.YteodhhepbnehhaaGreatDoor
theorem u8Extra : U8Extra Tryz.prog Tryz.laysValid_ren :=
  ⟨by kernel_rfl, by kernel_rfl, by kernel_rfl, by kernel_rfl, by kernel_rfl, by kernel_rfl, by kernel_rfl⟩
theorem laid_E50 (W : World) (h : laidMetH Tryz.prog Rows.justifySheetsRow.laid W) (hS : W.ShapedOpen Tryz.prog) : E50.holds W (AllF W) := by
  have h' : laidMet Tryz.prog [("unicode/utf8.acceptRanges", Rows.laid_unicode_utf8_acceptRanges), ("unicode/utf8.first", Rows.laid_unicode_utf8_first)] W := h
  have e1 : Rows.laid_unicode_utf8_first = firstData := by kernel_rfl
  have e2 : (Rows.laid_unicode_utf8_acceptRanges : DataW Unit) = acceptData := by kernel_rfl
  rw [e1, e2] at h'
  obtain ⟨h1, h2, h3⟩ := tabE_all (utf8Tabs_of_readsT (U8Types.of196 Tryz.laysValid) u8Extra (laidMet.reads h' (.tail _ (.head _))) (laidMet.reads h' (.head _)))
  obtain ⟨m, hm⟩ := Tryz.laysSplit.s1_3 W hS
  exact ⟨h1, h2, h3, ⟨m, hm⟩, (cell?_lt hm).1⟩
end Go.GH
namespace Go.GH
open Go

theorem map_of {α β : Type} {f : α → β} : ∀ {es : List β}, (∀ e ∈ es, ∃ x, e = f x) → ∃ xs : List α, es = xs.map f
  | [], _ => ⟨[], rfl⟩
  | e :: es, h => by
    obtain ⟨x, rfl⟩ := h e (List.mem_cons_self ..)
    obtain ⟨xs, rfl⟩ := map_of (fun e he => h e (List.mem_cons_of_mem _ he))
    exact ⟨x :: xs, rfl⟩
def ElemIs (L : List DTy) (e : List DV) : Prop := e.length = L.length ∧ ∀ (j : Nat) d ty, e[j]? = some d → L[j]? = some ty → HasD ty d
theorem HasD.slice {α : Type} {L : List DTy} {f : α → List DV} {d : DV} (h : HasD (.sl L) d) (hf : ∀ e, ElemIs L e → ∃ x, e = f x) : ∃ xs : List α, d = .isl false L.length (xs.map f) := by
  cases h with
  | @sl L es hl hd =>
    obtain ⟨xs, rfl⟩ := map_of (f := f) (es := es) (fun e he => by
      obtain ⟨i, hi⟩ := List.mem_iff_getElem?.1 he
      exact hf e ⟨hl i e hi, fun j d ty hj ht => hd i e j d ty hi hj ht⟩)
    exact ⟨xs, rfl⟩
theorem ElemIs.one {ty : DTy} {e : List DV} (h : ElemIs [ty] e) : ∃ d, e = [d] ∧ HasD ty d := by
  obtain ⟨h1, h2⟩ := h
  match e, h1 with
  | [d], _ => exact ⟨d, rfl, h2 0 d ty rfl rfl⟩
theorem ElemIs.two {t1 t2 : DTy} {e : List DV} (h : ElemIs [t1, t2] e) : ∃ d1 d2, e = [d1, d2] ∧ HasD t1 d1 ∧ HasD t2 d2 := by
  obtain ⟨h1, h2⟩ := h
  match e, h1 with
  | [d1, d2], _ => exact ⟨d1, d2, rfl, h2 0 d1 t1 rfl rfl, h2 1 d2 t2 rfl rfl⟩
theorem ElemIs.three {t1 t2 t3 : DTy} {e : List DV} (h : ElemIs [t1, t2, t3] e) : ∃ d1 d2 d3, e = [d1, d2, d3] ∧ HasD t1 d1 ∧ HasD t2 d2 ∧ HasD t3 d3 := by
  obtain ⟨h1, h2⟩ := h
  match e, h1 with
  | [d1, d2, d3], _ => exact ⟨d1, d2, d3, rfl, h2 0 d1 t1 rfl rfl, h2 1 d2 t2 rfl rfl, h2 2 d3 t3 rfl rfl⟩
theorem HasD.int_inv {k : IntKind} {d : DV} (h : HasD (.int k) d) : ∃ n, d = .v (.int k n) ∧ k.has n := by cases h with | int h => exact ⟨_, rfl, h⟩
theorem HasD.str_inv {d : DV} (h : HasD .str d) : ∃ s, d = .v (.string s) := by cases h; exact ⟨_, rfl⟩
theorem HasD.bool_inv {d : DV} (h : HasD .bool d) : ∃ b, d = .v (.bool b) := by cases h; exact ⟨_, rfl⟩
theorem HasD.letters {d : DV} (h : HasD (.sl [.int .i32, .int .u32]) d) : ∃ a, d = DLs a :=
  h.slice (f := encL) (fun e he => by
    obtain ⟨d1, d2, rfl, h1, h2⟩ := he.two
    obtain ⟨r, rfl, _⟩ := h1.int_inv
    obtain ⟨c, rfl, _⟩ := h2.int_inv
    exact ⟨⟨r, c⟩, rfl⟩)
theorem HasD.ints {d : DV} (h : HasD (.sl [.int .i64]) d) : ∃ l, d = DInts l :=
  h.slice (f := encI) (fun e he => by
    obtain ⟨d1, rfl, h1⟩ := he.one
    obtain ⟨r, rfl, _⟩ := h1.int_inv
    exact ⟨r, rfl⟩)
theorem HasD.masks {d : DV} (h : HasD (.sl [.int .u32]) d) : ∃ l, d = DMasks l :=
  h.slice (f := encU) (fun e he => by
    obtain ⟨d1, rfl, h1⟩ := he.one
    obtain ⟨r, rfl, _⟩ := h1.int_inv
    exact ⟨r, rfl⟩)
theorem HasD.strs {d : DV} (h : HasD (.sl [.str]) d) : ∃ l, d = DStrs l :=
  h.slice (f := encS) (fun e he => by
    obtain ⟨d1, rfl, h1⟩ := he.one
    obtain ⟨r, rfl⟩ := h1.str_inv
    exact ⟨r, rfl⟩)

end Go.GH
namespace Go.GH
open Go Go.RowKit Go.Proofs.YteodhhepbnehhaaGreatDoor

inductive SmallD (N : Nat) : DV → Prop
  | v {x : Value} (h : ∀ s, x = .string s → s.size ≤ N) : SmallD N (.v x)
  | isl {nn : Bool} {sz : Nat} {es : List (List DV)} (hl : es.length ≤ N) (h : ∀ (i : Nat) e (j : Nat) d, es[i]? = some e → e[j]? = some d → SmallD N d) : SmallD N (.isl nn sz es)
theorem bulk_one {H : Type} (d : DataW H) : 1 ≤ Rows.uptoBulk d := by
  cases d with
  | lit l => cases l <;> simp [Rows.uptoBulk]
  | _ => simp [Rows.uptoBulk]
theorem bulk_part {H : Type} {d : DataW H} : ∀ {l : List (DataW H)}, d ∈ l → Rows.uptoBulk d ≤ Rows.uptoBulkAll l
  | [], h => by cases h
  | x :: l, h => by
    rw [Rows.uptoBulkAll]
    rcases List.mem_cons.1 h with rfl | h
    · omega
    · have := bulk_part h; omega
theorem bulk_len {H : Type} : ∀ (l : List (DataW H)), l.length ≤ Rows.uptoBulkAll l
  | [] => Nat.zero_le _
  | x :: l => by
    rw [Rows.uptoBulkAll, List.length_cons]
    have := bulk_len l
    have := bulk_one x
    omega
theorem bulk_elems {H : Type} (a b : List (DataW H)) : Rows.uptoBulkAll a ≤ Rows.uptoBulk (.slice a b) := by
  rw [Rows.uptoBulk]; omega
theorem bulk_agg {H : Type} (a : List (DataW H)) : Rows.uptoBulkAll a ≤ Rows.uptoBulk (.agg a) := by
  rw [Rows.uptoBulk]; omega
theorem bulk_str {H : Type} (s : ByteArray) : Rows.uptoBulk (DataW.lit (H := H) (.string s.data.toList)) = s.size + 1 := by
  rw [Rows.uptoBulk]; simp
def CellsS (N : Nat) (w : World) (cs : List Value) (L : List DTy) (ds : List DV) : Prop :=
  cs.length = L.length ∧ ds.length = L.length ∧ ∀ (j : Nat) v d ty, cs[j]? = some v → ds[j]? = some d → L[j]? = some ty → Rep w (AllF w) v d ∧ HasD ty d ∧ v.oneCell' = true ∧ SmallD N d
def PWS (N : Nat) (w : World) (cs : List Value) (L : List DTy) : Prop :=
  cs.length = L.length ∧ ∀ (j : Nat) v ty, cs[j]? = some v → L[j]? = some ty → ∃ d, Rep w (AllF w) v d ∧ HasD ty d ∧ v.oneCell' = true ∧ SmallD N d
theorem PWS.cells {N : Nat} {w : World} {cs : List Value} {L : List DTy} (h : PWS N w cs L) : ∃ ds, CellsS N w cs L ds := by
  have key : ∀ j, ∃ d, ∀ v ty, cs[j]? = some v → L[j]? = some ty → Rep w (AllF w) v d ∧ HasD ty d ∧ v.oneCell' = true ∧ SmallD N d := fun j => by
    by_cases hj : j < L.length
    · obtain ⟨d, hd⟩ := h.2 j _ _ (List.getElem?_eq_getElem (show j < cs.length by rw [h.1]; exact hj)) (List.getElem?_eq_getElem hj)
      refine ⟨d, fun v ty hv ht => ?_⟩
      rw [List.getElem?_eq_getElem (show j < cs.length by rw [h.1]; exact hj)] at hv
      rw [List.getElem?_eq_getElem hj] at ht
      obtain rfl := Option.some.inj hv
      obtain rfl := Option.some.inj ht
      exact hd
    · exact ⟨.any, fun v ty _ ht => absurd (List.getElem?_eq_some_iff.1 ht).1 hj⟩
  refine ⟨(List.range L.length).map (fun j => (key j).choose), h.1, by simp, fun j v d ty hv hd ht => ?_⟩
  rw [List.getElem?_map] at hd
  obtain ⟨q, hq, rfl⟩ := Option.map_eq_some_iff.1 hd
  have hlt : j < L.length := (List.getElem?_eq_some_iff.1 ht).1
  rw [List.getElem?_range hlt] at hq
  obtain rfl := Option.some.inj hq
  exact (key j).choose_spec v ty hv ht
theorem PWS.one {N : Nat} {w : World} {v : Value} {ty : DTy} {d : DV} (h1 : Rep w (AllF w) v d) (h2 : HasD ty d) (h3 : v.oneCell' = true) (h4 : SmallD N d) : PWS N w [v] [ty] :=
  ⟨rfl, fun j u t hv ht => by
    match j, hv, ht with
    | 0, hv, ht => simp at hv ht; subst hv; subst ht; exact ⟨d, h1, h2, h3, h4⟩
    | j + 1, hv, ht => simp at hv⟩
theorem pws_trod {N : Nat} {H : Type} {enc : TypeId × Value → H} {P : Program} {w : World} {sp : Nat → Bool} {held : Bool} {t : TypeId} {L : List DTy} (h : TyIs P t L) :
    ∀ (fuel : Nat) (cs : List Value) (x : DataW H × List MemPlace), DataW.trod enc P w 0 sp held fuel t cs = some x → Rows.uptoBulk x.1 ≤ N → PWS N w cs L := by
  induction h with
  | @int t k h =>
    intro fuel cs x hx hb0
    obtain ⟨n, rfl, hxe, hwf⟩ := DataW.trod_int h hx
    exact .one (d := .v (.int k n)) (.v (show k.has n from lit_int_wf hwf)) (.int (lit_int_wf hwf)) rfl (.v (fun s e => by cases e))
  | @str t h =>
    intro fuel cs x hx hb0
    obtain ⟨s, rfl, hxe, hs⟩ := DataW.trod_string h hx
    have hs : s.size ≤ lenB := by
      have e : maxLen = lenB := by decide
      omega
    exact .one (d := .v (.string s)) (.v hs) (.str hs) rfl (.v (fun s' e => by cases e; rw [hxe, bulk_str] at hb0; omega))
  | @bool t h =>
    intro fuel cs x hx hb0
    obtain ⟨b, rfl, _⟩ := DataW.trod_bool h hx
    exact .one (d := .v (.bool b)) (.v trivial) .bool rfl (.v (fun s e => by cases e))
  | @sl t e L h he hc hne ih =>
    intro fuel cs x hx hb0
    rcases DataW.trod_slice h hx with ⟨rfl, _⟩ | ⟨a, len, cap, elems, rest, n, rfl, rfl, hxe, hb, hl, hm, hlen, hel, _, _⟩
    · exact .one (d := .isl false L.length []) (.isl (b := 0) (o := 0) (fun _ _ => undef) rfl (by omega) (by simp [lenB]) (fun h => by cases h) (fun h => absurd rfl h) (fun i e h => by simp at h) (fun i e j d h => by simp at h) (fun i e j d h => by simp at h))
        (.sl (fun i e h => by simp at h) (fun i e j d ty h => by simp at h)) rfl (.isl (by simp) (fun i e j d h => by simp at h))
    · have key : ∀ i, ∃ p : List Value × List DV, i < len → w.cells? 0 (a.add (i * L.length)) L.length = some p.1 ∧ CellsS N w p.1 L p.2 := fun i => by
        by_cases hi : i < len
        · have h1 := hel i hi
          rw [List.getElem?_eq_getElem (by omega)] at h1
          obtain ⟨cs', h2, h3⟩ := Option.bind_eq_some_iff.1 h1
          have hbe : Rows.uptoBulk (elems[i]'(by omega)).1 ≤ N := by
            rw [hxe] at hb0
            exact Nat.le_trans (bulk_part (List.mem_map.2 ⟨_, List.getElem_mem _, rfl⟩)) (Nat.le_trans (bulk_elems _ _) hb0)
          obtain ⟨ds, hds⟩ := (ih n cs' _ h3 hbe).cells
          exact ⟨(cs', ds), fun _ => ⟨by rw [← hc]; exact h2, hds⟩⟩
        · exact ⟨([], []), fun h => absurd h hi⟩
      have hpos : 0 < L.length := List.length_pos_iff.2 hne
      have hspot : 0 < len → a.spot = none ∧ a.block < w.heap.size := fun h0 => by
        obtain ⟨h1, h2, _⟩ := (key 0).choose_spec h0
        obtain ⟨_, _, h4⟩ := World.cells?_some h1
        have h5 := h4 0 hpos
        rw [List.getElem?_eq_getElem (by omega)] at h5
        simp only [Nat.zero_mul] at h5
        have h6 := cell?_lt h5
        simp [Addr.add] at h6
        exact ⟨h6.2, h6.1⟩
      have hadd : 0 < len → ∀ q, a.add q = ⟨a.block, a.off + q, none⟩ := fun h0 q => by
        have := (hspot h0).1
        obtain ⟨b, o, s⟩ := a
        simp only at this
        subst this
        exact add_plain' b o q
      let es : List (List DV) := (List.range len).map (fun i => (key i).choose.2)
      have hes : ∀ (i : Nat) e, es[i]? = some e → i < len ∧ e = (key i).choose.2 := fun i e hi => by
        simp only [es, List.getElem?_map] at hi
        obtain ⟨q, hq, rfl⟩ := Option.map_eq_some_iff.1 hi
        have hlt : i < len := by have := (List.getElem?_eq_some_iff.1 hq).1; simpa using this
        rw [List.getElem?_range hlt] at hq
        obtain rfl := Option.some.inj hq
        exact ⟨hlt, rfl⟩
      have hcell : ∀ (i : Nat) e (j : Nat) d, es[i]? = some e → e[j]? = some d → ∃ v ty, L[j]? = some ty ∧ w.cell? ⟨a.block, a.off + (i * L.length + j), none⟩ = some v ∧ ((key i).choose.1)[j]? = some v ∧ Rep w (AllF w) v d ∧ HasD ty d ∧ v.oneCell' = true ∧ SmallD N d := fun i e j d hi hj => by
        obtain ⟨hlt, rfl⟩ := hes i e hi
        obtain ⟨h1, h2, h3, h4⟩ := (key i).choose_spec hlt
        obtain ⟨_, _, h5⟩ := World.cells?_some h1
        have hjl : j < L.length := by rw [← h3]; exact (List.getElem?_eq_some_iff.1 hj).1
        have hv := List.getElem?_eq_getElem (show j < ((key i).choose.1).length by omega)
        refine ⟨_, _, List.getElem?_eq_getElem hjl, ?_, hv, h4 j _ d _ hv hj (List.getElem?_eq_getElem hjl)⟩
        rw [← hv, ← h5 j hjl, hadd (by omega), add_plain', Nat.add_assoc]
      have hesl : es.length = len := by simp [es]
      have hmx : maxLen = lenB := by decide
      refine .one (d := .isl false L.length es) (.isl (b := a.block) (o := a.off) (fun i j => (((key i).choose.1)[j]?).getD undef) hesl.symm hl (by omega) (fun h => by cases h) (fun hne' => ?_) (fun i e hi => ?_) (fun i e j d hi hj => ?_) (fun i e j d hi hj => ?_)) (.sl (fun i e hi => ?_) (fun i e j d ty hi hj hty => ?_)) rfl (.isl (by rw [hesl, ← hlen]; rw [hxe] at hb0; exact Nat.le_trans (by simpa using bulk_len (elems.map (·.1))) (Nat.le_trans (bulk_elems _ _) hb0)) (fun i e j d hi hj => by obtain ⟨_, _, _, _, _, _, _, _, h7⟩ := hcell i e j d hi hj; exact h7))
      · have h0 : 0 < len := by
          rcases Nat.eq_zero_or_pos len with h | h
          · exact absurd (by simp [es, h]) hne'
          · exact h
        refine ⟨?_, (hspot h0).2⟩
        have := (hspot h0).1
        obtain ⟨b, o, s⟩ := a
        simp only at this
        subst this
        rfl
      · obtain ⟨hlt, rfl⟩ := hes i e hi; exact ((key i).choose_spec hlt).2.2.1
      · obtain ⟨v, ty, _, h2, h3, _, _, h6, _⟩ := hcell i e j d hi hj
        simp only [h3, Option.getD_some]
        exact ⟨h2, h6⟩
      · obtain ⟨v, ty, _, _, h3, h4, _⟩ := hcell i e j d hi hj
        simp only [h3, Option.getD_some]
        exact h4
      · obtain ⟨hlt, rfl⟩ := hes i e hi; exact ((key i).choose_spec hlt).2.2.1
      · obtain ⟨v, ty', h1, _, _, _, h5, _⟩ := hcell i e j d hi hj
        rw [h1] at hty
        obtain rfl := Option.some.inj hty
        exact h5
  | @struct t fs Ls h hc hl hf ho ih =>
    intro fuel cs x hx hb0
    obtain ⟨xs, n, rfl, hxe, hlen, hxl, hx⟩ := DataW.trod_struct h hx
    refine ⟨hlen.trans hc, fun j v ty hv hty => ?_⟩
    obtain ⟨i, Li, q, h1, h2, rfl⟩ := flatten_find Ls j ty hty
    have hi : i < fs.size := by rw [← hl]; exact (List.getElem?_eq_some_iff.1 h1).1
    have hfi := Array.getElem?_eq_getElem hi
    obtain ⟨o1, o2⟩ := ho i _ Li hfi h1
    have h3 := hx i _ hfi
    rw [List.getElem?_eq_getElem (show i < xs.length by omega)] at h3
    have hbe : Rows.uptoBulk (xs[i]'(by omega)).1 ≤ N := by
      rw [hxe] at hb0
      exact Nat.le_trans (bulk_part (List.mem_map.2 ⟨_, List.getElem_mem _, rfl⟩)) (Nat.le_trans (bulk_agg _) hb0)
    obtain ⟨_, h4⟩ := ih i _ Li hfi h1 n _ _ h3 hbe
    have hql : q < Li.length := (List.getElem?_eq_some_iff.1 h2).1
    exact h4 q v ty (by rw [List.getElem?_take, if_pos (by omega), List.getElem?_drop, o1]; exact hv) h2

/-- An argument of one cell. -/
theorem arg_repS {N : Nat} {H : Type} {enc : TypeId × Value → H} {P : Program} {w : World} {sp : Nat → Bool} {held : Bool} {t : TypeId} {ty : DTy} {v : Value} {d : DataW H} {p : List MemPlace} (hT : TyIs P t [ty]) (h : DataW.Trod enc P w 0 sp held t v d p) (hv : v.cells = #[v]) (hb : Rows.uptoBulk d ≤ N) : ∃ dv, Rep w (AllF w) v dv ∧ HasD ty dv ∧ SmallD N dv := by
  obtain ⟨fuel, h⟩ := h
  rw [hv] at h
  obtain ⟨ds, h1, h2, h3⟩ := (pws_trod hT fuel _ _ h hb).cells
  match ds, h2 with
  | [dv], _ => exact ⟨dv, (h3 0 v dv ty rfl rfl rfl).1, (h3 0 v dv ty rfl rfl rfl).2.1, (h3 0 v dv ty rfl rfl rfl).2.2.2⟩
end Go.GH
namespace Go.GH
open Go
theorem HasD.boxes {d : DV} (h : HasD (.sl [.str, .sl [.int .i64]]) d) : ∃ l, d = DBxs l :=
  h.slice (f := encBx) (fun e he => by
    obtain ⟨d1, d2, rfl, h1, h2⟩ := he.two
    obtain ⟨s, rfl⟩ := h1.str_inv
    obtain ⟨p, rfl⟩ := h2.ints
    exact ⟨⟨s, p⟩, rfl⟩)
theorem HasD.lines {d : DV} (h : HasD (.sl [.sl [.str], .bool]) d) : ∃ l, d = DLns l :=
  h.slice (f := encLn) (fun e he => by
    obtain ⟨d1, d2, rfl, h1, h2⟩ := he.two
    obtain ⟨p, rfl⟩ := h1.strs
    obtain ⟨b, rfl⟩ := h2.bool_inv
    exact ⟨⟨p, b⟩, rfl⟩)
end Go.GH
namespace Go.GH
open Go
theorem ElemIs.line {e : List DV} (h : ElemIs [.sl [.str], .bool] e) : ∃ x : Ln, e = encLn x := by
  obtain ⟨d1, d2, rfl, h1, h2⟩ := h.two
  obtain ⟨p, rfl⟩ := h1.strs
  obtain ⟨b, rfl⟩ := h2.bool_inv
  exact ⟨⟨p, b⟩, rfl⟩
end Go.GH
namespace Go.GH
open Go
theorem SmallD.str {N : Nat} {s : ByteArray} (h : SmallD N (.v (.string s))) : s.size ≤ N := by cases h with | v h => exact h s rfl
theorem SmallD.boxes {N : Nat} {l : List Bx} (h : SmallD N (DBxs l)) : ∀ x ∈ l, x.word.size ≤ N := fun x hx => by
  obtain ⟨i, hi⟩ := List.mem_iff_getElem?.1 hx
  cases h with
  | isl hl h => exact (h i (encBx x) 0 (.v (.string x.word)) (by rw [List.getElem?_map, hi]; rfl) rfl).str
theorem SmallD.line {N : Nat} {x : Ln} (h : ∀ d ∈ encLn x, SmallD N d) : ∀ s ∈ x.words, s.size ≤ N := fun s hs => by
  have h0 := h (DStrs x.words) (by simp [encLn])
  obtain ⟨i, hi⟩ := List.mem_iff_getElem?.1 hs
  cases h0 with
  | isl hl h => exact (h i (encS s) 0 (.v (.string s)) (by rw [List.getElem?_map, hi]; rfl) rfl).str
end Go.GH
namespace Go.GH
open Go Go.Proofs
variable {E : Env}
end Go.GH
namespace Go.GH
open Go Go.Proofs
variable {E : Env}
theorem q50utf8 (s : ByteArray) (hs : s.size ≤ 1048576) : GCall Tryz.prog E 47 [.v (.string s)] [] (fun d H => d = .v (.bool (utf8R s)) ∧ H = []) := by
 refine GCall.body (C := ⟨Tryz.prog, E, true⟩) Tryz.func47 rfl (fun _ => rfl) (by kernel_rfl) rfl ?_
 refine SCode.seqR (SOps.assign rfl (SOps.nil (SCode.seqR (SOps.assign rfl (SOps.nil (SCode.seq (SCode.seqR (SOps.move rfl ?_))))))))
 refine SOps.rangeStr rfl strB_9 (fun b0 hb_0 => ?_)
 refine SOps.nil (SCode.block (SCode.loop3 (fun (p : Nat) (b : Nat) (done : List Int) => (⟨18, [(0, .v (.string s)), (3, .v (.string (encs done))), (7, .it b)], [(b, .iter s p)]⟩ : St)) (fun (p : Nat) (b : Nat) (done : List Int) => done ++ runesAt s p = runes s ∧ done.length ≤ p) (fun (p : Nat) (b : Nat) (done : List Int) => s.size - p) (0) (b0) ([]) (by exact ⟨rfl, Nat.zero_le _⟩) (St.Le.of ⟨(by first | rfl | (show some _ = some _; simp)), (by first | rfl | (show some _ = some _; simp)), (by first | rfl | (show some _ = some _; simp)), trivial⟩ rfl (by first | rfl | (simp))) ?_))
 rintro p b done ⟨hf, hdl⟩
 refine SCode.seqR ?_
 refine SOps.next 0 rfl rfl (fun hn1 => ?_) (fun hn1 => ?_) (by first | omega | (simp only [lenB]; omega) | (simp only [List.length_map, lenB]; omega) | (simp; done))
 ·refine SOps.extract rfl rfl (SOps.nil (SCode.seq ?_))
  refine SCode.cond rfl (fun _ => ?_) (fun h => by cases h)
  refine SCode.skip ?_
  show SCode _ _ _ _
  refine SCode.block (SCode.seqR (SOps.extract rfl rfl (SOps.assign rfl (SOps.nil (SCode.region (SOps.move rfl (SOps.move rfl (SOps.convIntStr rfl someB_21 strB_9 (SOps.concat rfl rfl (by have h4 := encs_size4 done; have h5 := encs_size4 [((Utf8.decode s p).1 : Int)]; rw [show encs [((Utf8.decode s p).1 : Int)] = Utf8.encode ((Utf8.decode s p).1 : Int) ++ .empty from rfl, ByteArray.size_append] at h5; simp only [List.length_cons, List.length_nil] at h5; show _ + _ ≤ _; simp only [lenB]; omega) (SOps.assign rfl (SOps.nil ?_)))))))))))
  exact ⟨p + (Utf8.decode s p).2, b, done ++ [((Utf8.decode s p).1 : Int)], ⟨by rw [← hf, runesAt_lt hn1, List.append_assoc]; rfl, by have := decode_w s p; simp; omega⟩, by have := decode_w s p; omega, St.Le.of ⟨rfl, (by show some _ = some _; rw [encs_append]; simp only [encs, ByteArray.append_empty]), rfl, trivial⟩ rfl rfl⟩
 ·refine SOps.extract rfl rfl (SOps.nil (SCode.seq ?_))
  refine SCode.cond rfl (fun h => by cases h) (fun _ => ?_)
  refine SCode.exit ?_
  show SCode _ _ _ _
  refine SCode.seqR ?_
  have hrn : done = runes s := by rw [← hf, runesAt_ge (by omega), List.append_nil]
  refine SOps.move rfl (SOps.move rfl (SOps.bin rfl rfl rfl (SOps.assign rfl (SOps.nil (SCode.drop (SCode.ret ?_))))))
  exact ⟨_, Res.one (.tmp rfl), congrArg (fun b => DV.v (.bool b)) (by rw [Bool.eq_iff_iff, utf8R_iff, ← hrn]; simp), rfl⟩
theorem spB_iff {b : UInt8} : spB b = true ↔ ((b.toNat : Nat) : Int) = 32 ∨ ((b.toNat : Nat) : Int) = 10 := by
  unfold spB
  rw [Bool.or_eq_true, beq_iff_eq, beq_iff_eq, ← UInt8.toNat_inj, ← UInt8.toNat_inj]
  show b.toNat = 32 ∨ b.toNat = 10 ↔ _
  omega
theorem at_sp {s : ByteArray} {j : Nat} (hj : j < s.size) (h : ((s[j].toNat : Nat) : Int) = 32 ∨ ((s[j].toNat : Nat) : Int) = 10) (hu : utf8R s = true) : anySp s = true := by
  rw [← bytes_sp hu, List.any_eq_true]
  refine ⟨s[j], ?_, by rw [spB_iff]; exact h⟩
  have : s.data.toList[j]? = some s[j] := by
    rw [Array.getElem?_toList]
    exact Array.getElem?_eq_getElem hj
  exact List.mem_of_getElem? this
theorem no_sp {s : ByteArray} (hu : utf8R s = true) (h : ∀ j (hj : j < s.size), ¬ ((s[j].toNat : Nat) : Int) = 32 ∧ ¬ ((s[j].toNat : Nat) : Int) = 10) : anySp s = false := by
  rw [← bytes_sp hu, Bool.eq_false_iff]
  intro h9
  obtain ⟨b, hb, h8⟩ := List.any_eq_true.1 h9
  obtain ⟨j, hj, rfl⟩ := List.getElem_of_mem hb
  have hj' : j < s.size := by simpa using hj
  have h7 := h j hj'
  have e : s.data.toList[j] = s[j] := by rw [Array.getElem_toList]; rfl
  rw [e, spB_iff] at h8
  exact h8.elim h7.1 h7.2
theorem q50Printable (ln : Ln) (hw : ∀ w ∈ ln.words, w.size ≤ 1048576) (hl : ln.words.length ≤ 1048576) : GCall Tryz.prog E 15 [.agg (encLn ln)] [] (fun d H => d = .v (.bool (prB ln)) ∧ H = []) := by
 refine GCall.body (C := ⟨Tryz.prog, E, true⟩) Tryz.func15 rfl (fun _ => rfl) (by kernel_rfl) rfl ?_
 refine SCode.seqR (SOps.boxAM rfl rfl (SOps.assign rfl (SOps.nil (SCode.seq (SCode.seqR (SOps.assign rfl (SOps.nil (SCode.block (SCode.loop1 (fun (i : Nat) => (⟨45, [(1, .ipin (encLn ln)), (3, .v (.int .i64 (i : Int)))], []⟩ : St)) (fun (i : Nat) => i ≤ ln.words.length ∧ ∀ w ∈ ln.words.take i, wordB w = true) (fun (i : Nat) => ln.words.length - i) (0) (by simp) (St.Le.of ⟨(by first | rfl | (show some _ = some _; simp)), (by first | rfl | (show some _ = some _; simp)), trivial⟩ rfl (by first | rfl | (simp))) ?_)))))))))
 rintro i ⟨hi, hf⟩
 refine SCode.seq (SCode.seqR (SOps.move rfl (SOps.fieldPin rfl fieldB_24_0_0 (SOps.loadPin rfl flatB_22 (SOps.lenM rfl sliceB_22_9_1 (SOps.bin rfl rfl rfl (SOps.nil ?_)))))))
 refine SCode.cond rfl (fun hc1 => ?_) (fun hc1 => ?_)
 ·try simp only [nmL] at hc1
  refine SCode.skip ?_
  show SCode _ _ _ _
  refine SCode.seq (SCode.block (SCode.seqR ?_))
  have hil : i < ln.words.length := by omega
  have hwi := hw _ (List.getElem_mem hil)
  refine SOps.fieldPin rfl fieldB_24_0_0 (SOps.loadPin rfl flatB_22 (SOps.move rfl (SOps.indexM (i) rfl rfl sliceB_22_9_1 (by first | omega | (simp only [lenB]; omega) | (simp only [List.length_map, lenB]; omega) | (simp; done)) (by first | omega | (simp only [lenB]; omega) | (simp only [List.length_map, lenB]; omega) | (simp; done)) (SOps.loadPin rfl flatB_9 (SOps.assign rfl (SOps.nil (SCode.seq (SCode.seqR (SOps.move rfl (SOps.bin rfl rfl rfl (SOps.move rfl ?_)))))))))))
  refine SOps.caseB 20 rfl (fun hb2 => ?_) (fun hb2 => ?_)
  ·try simp only [nmL] at hb2
   refine SOps.skip rfl (SOps.skip rfl (SOps.skip rfl (SOps.pick rfl rfl (SOps.nil ?_))))
   refine SCode.cond rfl (fun _ => ?_) (fun h => by cases h)
   refine SCode.seqR (SOps.assign rfl (SOps.nil (SCode.ret ?_)))
   exact ⟨_, Res.one (.tmp rfl), congrArg (fun b => DV.v (.bool b)) (Eq.symm (Bool.eq_false_iff.2 (fun h => by have h9 := wordB_iff.1 ((prB_iff.1 h).2 _ (List.getElem_mem hil)); simp_all))), rfl⟩
  ·try simp only [nmL] at hb2
   refine SOps.move rfl (SOps.callP (q50utf8 _ (by assumption)) rfl ?_)
   rintro _ rfl
   refine SOps.un rfl rfl (SOps.pick rfl rfl (SOps.nil ?_))
   refine SCode.cond rfl (fun hc3 => ?_) (fun hc3 => ?_)
   ·try simp only [nmL] at hc3
    refine SCode.seqR (SOps.assign rfl (SOps.nil (SCode.ret ?_)))
    exact ⟨_, Res.one (.tmp rfl), congrArg (fun b => DV.v (.bool b)) (Eq.symm (Bool.eq_false_iff.2 (fun h => by have h9 := wordB_iff.1 ((prB_iff.1 h).2 _ (List.getElem_mem hil)); simp_all))), rfl⟩
   ·try simp only [nmL] at hc3
    refine SCode.skip ?_
    show SCode _ _ _ _
    refine SCode.seqR (SOps.assign rfl (SOps.nil (SCode.block (SCode.loop1 (fun (j : Nat) => (⟨45, [(1, .ipin (encLn ln)), (3, .v (.int .i64 (i : Int))), (4, .v (.string (ln.words[i]))), (5, .v (.int .i64 (j : Int)))], []⟩ : St)) (fun (j : Nat) => j ≤ (ln.words[i]).size ∧ ∀ k (hk : k < j) (hk2 : k < (ln.words[i]).size), ¬ (((ln.words[i])[k].toNat : Nat) : Int) = 32 ∧ ¬ (((ln.words[i])[k].toNat : Nat) : Int) = 10) (fun (j : Nat) => (ln.words[i]).size - j) (0) (by exact ⟨Nat.zero_le _, fun k hk => absurd hk (Nat.not_lt_zero _)⟩) (St.Le.of ⟨(by first | rfl | (show some _ = some _; simp)), (by first | rfl | (show some _ = some _; simp)), (by first | rfl | (show some _ = some _; simp)), (by first | rfl | (show some _ = some _; simp)), trivial⟩ rfl (by first | rfl | (simp))) ?_))))
    rintro j ⟨hj, hj2⟩
    refine SCode.seq (SCode.seqR (SOps.move rfl (SOps.move rfl (SOps.lenStr rfl strB_9 (SOps.bin rfl rfl rfl (SOps.nil ?_))))))
    refine SCode.cond rfl (fun hc4 => ?_) (fun hc4 => ?_)
    ·try simp only [nmL] at hc4
     refine SCode.skip ?_
     show SCode _ _ _ _
     refine SCode.seq (SCode.block (SCode.seqR ?_))
     have hjl : j < (ln.words[i]).size := by omega
     refine SOps.move rfl (SOps.move rfl (SOps.strIndexM (j) rfl rfl strB_9 (by first | omega | (simp only [lenB]; omega) | (simp only [List.length_map, lenB]; omega) | (simp; done)) (by first | omega | (simp only [lenB]; omega) | (simp only [List.length_map, lenB]; omega) | (simp; done)) (SOps.bin rfl rfl rfl (SOps.move rfl ?_))))
     refine SOps.caseB 35 rfl (fun hb5 => ?_) (fun hb5 => ?_)
     ·try simp only [nmL] at hb5
      refine SOps.skip rfl (SOps.skip rfl (SOps.skip rfl (SOps.skip rfl (SOps.pick rfl rfl (SOps.nil ?_)))))
      refine SCode.cond rfl (fun _ => ?_) (fun h => by cases h)
      refine SCode.seqR (SOps.assign rfl (SOps.nil (SCode.ret ?_)))
      exact ⟨_, Res.one (.tmp rfl), congrArg (fun b => DV.v (.bool b)) (Eq.symm (Bool.eq_false_iff.2 (fun h => by have h9 := wordB_iff.1 ((prB_iff.1 h).2 _ (List.getElem_mem hil)); have h7 := at_sp hjl (by first | exact .inl (by assumption) | exact .inr (by assumption)) h9.2.1; rw [h7] at h9; simp at h9))), rfl⟩
     ·try simp only [nmL] at hb5
      refine SOps.move rfl (SOps.move rfl (SOps.strIndexM (j) rfl rfl strB_9 (by first | omega | (simp only [lenB]; omega) | (simp only [List.length_map, lenB]; omega) | (simp; done)) (by first | omega | (simp only [lenB]; omega) | (simp only [List.length_map, lenB]; omega) | (simp; done)) (SOps.bin rfl rfl rfl (SOps.pick rfl rfl (SOps.nil ?_)))))
      refine SCode.cond rfl (fun hc6 => ?_) (fun hc6 => ?_)
      ·try simp only [nmL] at hc6
       refine SCode.seqR (SOps.assign rfl (SOps.nil (SCode.ret ?_)))
       exact ⟨_, Res.one (.tmp rfl), congrArg (fun b => DV.v (.bool b)) (Eq.symm (Bool.eq_false_iff.2 (fun h => by have h9 := wordB_iff.1 ((prB_iff.1 h).2 _ (List.getElem_mem hil)); have h7 := at_sp hjl (by first | exact .inl (by assumption) | exact .inr (by assumption)) h9.2.1; rw [h7] at h9; simp at h9))), rfl⟩
      ·try simp only [nmL] at hc6
       refine SCode.skip ?_
       show SCode _ _ _ _
       refine SCode.region (SOps.move rfl (SOps.addI rfl rfl (by first | omega | (simp only [lenB]; omega) | (simp only [List.length_map, lenB]; omega) | (simp; done)) (by first | omega | (simp only [lenB]; omega) | (simp only [List.length_map, lenB]; omega) | (simp; done)) (SOps.assign rfl (SOps.nil ?_))))
       exact ⟨j + 1, ⟨by omega, fun k hk hk2 => by by_cases e : k = j; subst e; exact ⟨by first | assumption | (simp_all; done), by first | assumption | (simp_all; done)⟩; exact hj2 k (by omega) hk2⟩, by omega, St.Le.of ⟨rfl, rfl, rfl, rfl, trivial⟩⟩
    ·try simp only [nmL] at hc4
     refine SCode.exit ?_
     show SCode _ _ _ _
     refine SCode.region (SOps.move rfl (SOps.addI rfl rfl (by first | omega | (simp only [lenB]; omega) | (simp only [List.length_map, lenB]; omega) | (simp; done)) (by first | omega | (simp only [lenB]; omega) | (simp only [List.length_map, lenB]; omega) | (simp; done)) (SOps.assign rfl (SOps.nil ?_))))
     exact ⟨i + 1, ⟨by omega, take_more hf hil (wordB_iff.2 ⟨by first | assumption | (simp_all; done), by first | assumption | (simp_all; done), no_sp (by first | assumption | (simp_all; done)) (fun k hk => hj2 k (by omega) hk)⟩)⟩, by omega, St.Le.of ⟨rfl, rfl, trivial⟩⟩
 ·try simp only [nmL] at hc1
  refine SCode.exit ?_
  show SCode _ _ _ _
  refine SCode.seqR (SOps.fieldPin rfl fieldB_24_0_0 (SOps.loadPin rfl flatB_22 (SOps.lenM rfl sliceB_22_9_1 (SOps.bin rfl rfl rfl (SOps.assign rfl (SOps.nil (SCode.ret ?_)))))))
  exact ⟨_, Res.one (.tmp rfl), congrArg (fun b => DV.v (.bool b)) (by rw [prB, List.all_eq_true.2 (all_of (by omega) hf), Bool.and_true, Bool.eq_iff_iff]; simp), rfl⟩
theorem SCode.reSlot {C : Ctx} {st : St} {c : Code} {Q : Exit → St → Prop} {t : Tmp} {d d' : DV} (hd : st.get t = some d) (he : d = d') (h : SCode C c ⟨st.n, (t, d') :: st.slots, st.heap⟩ Q) : SCode C c st Q := by
  subst he
  intro base ok a w ⟨F, hs⟩
  exact h base ok a w ⟨F, SimF.relabel hs hd id⟩
theorem sprK_at {ws : List ByteArray} {g m i : Nat} (hi : i < ws.length) (hg : i < g) : sprK ws g m i ++ ws[i] ++ blB (gapN m g i) = sprK ws g m (i + 1) := by rw [sprK, if_pos hg, getD_w hi]
theorem sprK_end {ws : List ByteArray} {g m : Nat} (hi : g < ws.length) : sprK ws g m g ++ ws[g] = sprK ws g m (g + 1) := by rw [sprK, if_neg (Nat.lt_irrefl _), getD_w hi]
theorem qSpread (ln : Ln) (w : Int) (last : Bool) (hw : ∀ w ∈ ln.words, w.size ≤ 1048576) (hl : ln.words.length ≤ 1048576) : GCall Tryz.prog E 14 [.agg (encLn ln), .v (.int .i64 w), .v (.bool last)] [] (fun d H => d = tupA (spreadR ln w last) ∧ H = []) := by
 refine GCall.body (C := ⟨Tryz.prog, E, true⟩) Tryz.func14 rfl (fun _ => rfl) (by kernel_rfl) rfl ?_
 refine SCode.seqR (SOps.boxAM rfl rfl (SOps.assign rfl (SOps.assign rfl (SOps.nil (SCode.seq (SCode.seqR (SOps.move rfl (SOps.callP (qWidth _) rfl ?_))))))))
 rintro _ rfl
 refine SOps.un rfl rfl (SOps.move rfl ?_)
 refine SOps.caseB 17 rfl (fun hb1 => ?_) (fun hb1 => ?_)
 ·try simp only [nmL] at hb1
  refine SOps.skip rfl (SOps.skip rfl (SOps.skip rfl (SOps.pick rfl rfl (SOps.nil ?_))))
  refine SCode.cond rfl (fun _ => ?_) (fun h => by cases h)
  refine SCode.seqR (SOps.assign rfl (SOps.assign rfl (SOps.nil (SCode.ret ?_))))
  exact ⟨_, Res.two (.tmp rfl) (.tmp rfl), (by rw [spread_bad (by simp_all)]; rfl), rfl⟩
 ·try simp only [nmL] at hb1
  refine SOps.loadPinA rfl aggB_24_2 (Nat.le_of_ble_eq_true rfl) (SOps.callP (q50Printable _ hw hl) rfl ?_)
  rintro _ rfl
  refine SOps.un rfl rfl (SOps.pick rfl rfl (SOps.nil ?_))
  refine SCode.cond rfl (fun hc2 => ?_) (fun hc2 => ?_)
  ·try simp only [nmL] at hc2
   refine SCode.seqR (SOps.assign rfl (SOps.assign rfl (SOps.nil (SCode.ret ?_))))
   exact ⟨_, Res.two (.tmp rfl) (.tmp rfl), (by rw [spread_bad (by simp_all)]; rfl), rfl⟩
  ·try simp only [nmL] at hc2
   refine SCode.skip ?_
   show SCode _ _ _ _
   refine SCode.seqR (SOps.loadPinA rfl aggB_24_2 (Nat.le_of_ble_eq_true rfl) (SOps.callP (qText _ hw hl) rfl ?_))
   rintro _ rfl
   refine SOps.assign rfl (SOps.nil (SCode.seqR ?_))
   have hgood : (wideB w && prB ln) = true := by simp_all
   have hw12 := wideX_iff.1 (Bool.and_eq_true_iff.1 hgood).1
   have hpr := prB_iff.1 (Bool.and_eq_true_iff.1 hgood).2
   have hcl := catW_sz hw
   have htl : (textL ln).size ≤ 1048577 * ln.words.length + 1 := by unfold textL; split; rw [ByteArray.size_append]; have : hy1.size = 1 := rfl; omega; omega
   have hwl : wlen (textL ln) ≤ (textL ln).size := runes_len _
   have hwl2 : wlen (textL ln) = (runes (textL ln)).length := rfl
   refine SOps.move rfl (SOps.move rfl (SOps.callP (q50Length _) rfl ?_))
   rintro _ rfl
   refine SOps.subI rfl rfl (by first | omega | (simp only [lenB]; omega) | (simp only [List.length_map, lenB]; omega) | (simp; done)) (by first | omega | (simp only [lenB]; omega) | (simp only [List.length_map, lenB]; omega) | (simp; done)) (SOps.assign rfl (SOps.nil (SCode.seq (SCode.seqR (SOps.move rfl (SOps.bin rfl rfl rfl (SOps.nil ?_)))))))
   refine SCode.cond rfl (fun hc3 => ?_) (fun hc3 => ?_)
   ·try simp only [nmL] at hc3
    refine SCode.seqR (SOps.assign rfl (SOps.assign rfl (SOps.nil (SCode.ret ?_))))
    exact ⟨_, Res.two (.tmp rfl) (.tmp rfl), (by rw [spread_tight hgood (by omega)]; rfl), rfl⟩
   ·try simp only [nmL] at hc3
    refine SCode.skip ?_
    show SCode _ _ _ _
    refine SCode.seq (SCode.seqR ?_)
    obtain ⟨m, hm⟩ : ∃ m : Nat, w - (wlen (textL ln) : Int) = (m : Int) := ⟨(w - (wlen (textL ln) : Int)).toNat, by omega⟩
    refine SOps.reSlot (t := 9) rfl (show _ = DV.v (.int .i64 (m : Int)) from congrArg (fun z => DV.v (.int .i64 z)) hm) (SOps.move rfl (SOps.move rfl ?_))
    refine SOps.caseB 31 rfl (fun hb4 => ?_) (fun hb4 => ?_)
    ·try simp only [nmL] at hb4
     refine SOps.skip rfl (SOps.skip rfl (SOps.skip rfl (SOps.skip rfl (SOps.pick rfl rfl (SOps.nil ?_)))))
     refine SCode.cond rfl (fun _ => ?_) (fun h => by cases h)
     refine SCode.seqR (SOps.move rfl (SOps.move rfl (SOps.callP (q50blanks m (by omega)) rfl ?_)))
     rintro _ rfl
     refine SOps.concat rfl rfl (by first | (simp only [lenB, ByteArray.size_append, blB_size]; omega) | (show _ + _ ≤ _; simp only [lenB]; omega)) (SOps.assign rfl (SOps.assign rfl (SOps.nil (SCode.ret ?_))))
     exact ⟨_, Res.two (.tmp rfl) (.tmp rfl), (by rw [spread_last hgood hm (by simp_all)]; rfl), rfl⟩
    ·try simp only [nmL] at hb4
     refine SOps.fieldPin rfl fieldB_24_0_0 (SOps.loadPin rfl flatB_22 (SOps.lenM rfl sliceB_22_9_1 (SOps.bin rfl rfl rfl (SOps.pick rfl rfl (SOps.nil ?_)))))
     refine SCode.cond rfl (fun hc5 => ?_) (fun hc5 => ?_)
     ·try simp only [nmL] at hc5
      refine SCode.seqR (SOps.move rfl (SOps.move rfl (SOps.callP (q50blanks m (by omega)) rfl ?_)))
      rintro _ rfl
      refine SOps.concat rfl rfl (by first | (simp only [lenB, ByteArray.size_append, blB_size]; omega) | (show _ + _ ≤ _; simp only [lenB]; omega)) (SOps.assign rfl (SOps.assign rfl (SOps.nil (SCode.ret ?_))))
      exact ⟨_, Res.two (.tmp rfl) (.tmp rfl), (by rw [spread_last hgood hm (.inr (by omega))]; rfl), rfl⟩
     ·try simp only [nmL] at hc5
      refine SCode.skip ?_
      show SCode _ _ _ _
      refine SCode.seqR (SOps.fieldPin rfl fieldB_24_0_0 (SOps.loadPin rfl flatB_22 (SOps.lenM rfl sliceB_22_9_1 (SOps.subI rfl rfl (by first | omega | (simp only [lenB]; omega) | (simp only [List.length_map, lenB]; omega) | (simp; done)) (by first | omega | (simp only [lenB]; omega) | (simp only [List.length_map, lenB]; omega) | (simp; done)) (SOps.assign rfl (SOps.nil (SCode.seqR ?_)))))))
      obtain ⟨g, hg⟩ : ∃ g : Nat, (ln.words.length : Int) - 1 = (g : Int) := ⟨ln.words.length - 1, by omega⟩
      have hgl0 : g < ln.words.length := by omega
      refine SOps.reSlot (t := 10) rfl (show _ = DV.v (.int .i64 (g : Int)) from congrArg (fun z => DV.v (.int .i64 z)) hg) (SOps.fieldPin rfl fieldB_24_0_0 (SOps.loadPin rfl flatB_22 (SOps.indexM (0) rfl rfl sliceB_22_9_1 (by first | omega | (simp only [lenB]; omega) | (simp only [List.length_map, lenB]; omega) | (simp; done)) (by first | omega | (simp only [lenB]; omega) | (simp only [List.length_map, lenB]; omega) | (simp; done)) (SOps.loadPin rfl flatB_9 (SOps.assign rfl (SOps.nil (SCode.seq (SCode.seqR (SOps.reSlot (t := 11) (d' := .v (.string (sprK ln.words g m 0 ++ ln.words.getD 0 .empty))) rfl (by congr 2; show _ = ByteArray.empty ++ _; rw [ByteArray.empty_append, getD_w (by omega)]) (SOps.assign rfl (SOps.nil (SCode.block (SCode.loop1 (fun (i : Nat) => (⟨81, [(3, .ipin (encLn ln)), (9, .v (.int .i64 (m : Int))), (10, .v (.int .i64 (g : Int))), (11, .v (.string (sprK ln.words g m i ++ ln.words.getD i .empty))), (12, .v (.int .i64 (i : Int)))], []⟩ : St)) (fun (i : Nat) => i ≤ g) (fun (i : Nat) => g - i) (0) (by exact Nat.zero_le _) (St.Le.of ⟨(by first | rfl | (show some _ = some _; simp)), (by first | rfl | (show some _ = some _; simp)), (by first | rfl | (show some _ = some _; simp)), (by first | rfl | (show some _ = some _; simp)), (by first | rfl | (show some _ = some _; simp)), trivial⟩ rfl (by first | rfl | (simp))) ?_)))))))))))))
      rintro i hi
      refine SCode.seq (SCode.seqR (SOps.move rfl (SOps.move rfl (SOps.bin rfl rfl rfl (SOps.nil ?_)))))
      refine SCode.cond rfl (fun hc6 => ?_) (fun hc6 => ?_)
      ·try simp only [nmL] at hc6
       refine SCode.skip ?_
       show SCode _ _ _ _
       refine SCode.seq (SCode.block (SCode.seqR ?_))
       have hil : i < g := by omega
       have hdl := Nat.div_le_self m g
       have hdn : (0 : Int) ≤ ((m / g : Nat) : Int) := Int.natCast_nonneg _
       refine SOps.move rfl (SOps.move rfl (SOps.quoN (m) (g) rfl rfl rfl rfl (by first | omega | (simp only [lenB]; omega) | (simp only [List.length_map, lenB]; omega) | (simp; done)) (has_div (by first | omega | (simp only [lenB]; omega) | (simp only [List.length_map, lenB]; omega) | (simp; done))) (SOps.addI rfl rfl (by first | omega | (simp only [lenB]; omega) | (simp only [List.length_map, lenB]; omega) | (simp; done)) (by first | omega | (simp only [lenB]; omega) | (simp only [List.length_map, lenB]; omega) | (simp; done)) (SOps.assign rfl (SOps.nil (SCode.seq (SCode.seqR (SOps.move rfl (SOps.move rfl (SOps.move rfl (SOps.remN (m) (g) rfl rfl rfl rfl (by first | omega | (simp only [lenB]; omega) | (simp only [List.length_map, lenB]; omega) | (simp; done)) (has_mod (by first | omega | (simp only [lenB]; omega) | (simp only [List.length_map, lenB]; omega) | (simp; done))) (SOps.bin rfl rfl rfl (SOps.nil ?_)))))))))))))
       refine SCode.cond rfl (fun hc7 => ?_) (fun hc7 => ?_)
       ·try simp only [nmL] at hc7
        refine SCode.region (SOps.move rfl (SOps.addI rfl rfl (by first | omega | (simp only [lenB]; omega) | (simp only [List.length_map, lenB]; omega) | (simp; done)) (by first | omega | (simp only [lenB]; omega) | (simp only [List.length_map, lenB]; omega) | (simp; done)) (SOps.assign rfl (SOps.nil ?_))))
        show SCode _ _ _ _
        refine SCode.reSlot (t := 13) rfl (show _ = DV.v (.int .i64 ((gapN m g i : Nat) : Int)) from congrArg (fun z => DV.v (.int .i64 z)) (by unfold gapN; first | (rw [if_pos (by omega)]; omega) | (rw [if_neg (by omega)]; omega))) ?_
        have hgb := blB_size (gapN m g i)
        have hgl := gapN_le (m := m) (g := g) (i := i) (by omega)
        have hss := sprK_size (g := g) (show m ≤ 200 by omega) hw i
        have hwi : (ln.words.getD i .empty).size ≤ 1048576 := by rw [getD_w (by omega)]; exact hw _ (List.getElem_mem _)
        have hwi1 : (ln.words[i + 1]).size ≤ 1048576 := hw _ (List.getElem_mem _)
        apply SCode.drawAuto mixed_ [65, 66, 67, 68, 69, 70, 71, 72, 73, 74, 75, 11] [[.inr 11], [.inr 13], [.inl 1], [.inl 0, .inl 2], [.inr 3], [.inl 4], [.inr 12], [.inl 6], [.inl 5, .inl 7], [.inl 8], [.inl 3, .inl 9], [.inl 10]]
        ·kernel_rfl
        ·kernel_rfl
        ·apply DOk.cons 65 
         ·rfl
         ·exact (NeedIs.inr _ rfl NeedIs.nil)
         ·intro rest
          refine SOps.move rfl ?_
          exact SOps.nil rfl
         apply DOk.cons 66 
         ·rfl
         ·exact (NeedIs.inr _ rfl NeedIs.nil)
         ·intro rest
          refine SOps.move rfl ?_
          exact SOps.nil rfl
         apply DOk.cons 67 
         ·rfl
         ·exact (NeedIs.inl 0 _ _ rfl rfl NeedIs.nil)
         ·intro rest
          refine SOps.callP (q50blanks (gapN m g i) (by omega)) rfl ?_
          rintro _ rfl
          exact SOps.nil rfl
         apply DOk.cons 68 
         ·rfl
         ·exact (NeedIs.inl 2 _ _ rfl rfl (NeedIs.inl 0 _ _ rfl rfl NeedIs.nil))
         ·intro rest
          refine SOps.concat rfl rfl (by first | (simp only [lenB, ByteArray.size_append, blB_size]; omega) | (show _ + _ ≤ _; simp only [lenB]; omega)) ?_
          exact SOps.nil rfl
         apply DOk.cons 69 
         ·rfl
         ·exact (NeedIs.inr _ rfl NeedIs.nil)
         ·intro rest
          refine SOps.fieldPin rfl fieldB_24_0_0 ?_
          exact SOps.nil rfl
         apply DOk.cons 70 
         ·rfl
         ·exact (NeedIs.inl 0 _ _ rfl rfl NeedIs.nil)
         ·intro rest
          refine SOps.loadPin rfl flatB_22 ?_
          exact SOps.nil rfl
         apply DOk.cons 71 
         ·rfl
         ·exact (NeedIs.inr _ rfl NeedIs.nil)
         ·intro rest
          refine SOps.move rfl ?_
          exact SOps.nil rfl
         apply DOk.cons 72 
         ·rfl
         ·exact (NeedIs.inl 0 _ _ rfl rfl NeedIs.nil)
         ·intro rest
          refine SOps.addI rfl rfl (by first | omega | (simp only [lenB]; omega) | (simp only [List.length_map, lenB]; omega) | (simp; done)) (by first | omega | (simp only [lenB]; omega) | (simp only [List.length_map, lenB]; omega) | (simp; done)) ?_
          exact SOps.nil rfl
         apply DOk.cons 73 
         ·rfl
         ·exact (NeedIs.inl 2 _ _ rfl rfl (NeedIs.inl 0 _ _ rfl rfl NeedIs.nil))
         ·intro rest
          refine SOps.indexM (i + 1) rfl rfl sliceB_22_9_1 (by first | omega | (simp only [lenB]; omega) | (simp only [List.length_map, lenB]; omega) | (simp; done)) (by first | omega | (simp only [lenB]; omega) | (simp only [List.length_map, lenB]; omega) | (simp; done)) ?_
          exact SOps.nil rfl
         apply DOk.cons 74 
         ·rfl
         ·exact (NeedIs.inl 0 _ _ rfl rfl NeedIs.nil)
         ·intro rest
          refine SOps.loadPin rfl flatB_9 ?_
          exact SOps.nil rfl
         apply DOk.cons 75 
         ·rfl
         ·exact (NeedIs.inl 6 _ _ rfl rfl (NeedIs.inl 0 _ _ rfl rfl NeedIs.nil))
         ·intro rest
          refine SOps.concat rfl rfl (by first | (simp only [lenB, ByteArray.size_append, blB_size]; omega) | (show _ + _ ≤ _; simp only [lenB]; omega)) ?_
          exact SOps.nil rfl
         apply DOk.cons 11 
         ·rfl
         ·exact (NeedIs.inl 0 _ _ rfl rfl NeedIs.nil)
         ·intro rest
          refine SOps.assign rfl ?_
          exact SOps.nil rfl
         exact DOk.nil
        ·rfl
        ·show SCode _ _ _ _
         refine SCode.region (SOps.move rfl (SOps.addI rfl rfl (by first | omega | (simp only [lenB]; omega) | (simp only [List.length_map, lenB]; omega) | (simp; done)) (by first | omega | (simp only [lenB]; omega) | (simp only [List.length_map, lenB]; omega) | (simp; done)) (SOps.assign rfl (SOps.nil ?_))))
         exact ⟨i + 1, by omega, by omega, St.Le.of ⟨rfl, rfl, rfl, (by show some _ = some _; rw [getD_w (show i < ln.words.length by omega), sprK_at (by omega) hil, getD_w (show i + 1 < ln.words.length by omega)]), rfl, trivial⟩⟩
       ·try simp only [nmL] at hc7
        refine SCode.skip ?_
        show SCode _ _ _ _
        refine SCode.reSlot (t := 13) rfl (show _ = DV.v (.int .i64 ((gapN m g i : Nat) : Int)) from congrArg (fun z => DV.v (.int .i64 z)) (by unfold gapN; first | (rw [if_pos (by omega)]; omega) | (rw [if_neg (by omega)]; omega))) ?_
        have hgb := blB_size (gapN m g i)
        have hgl := gapN_le (m := m) (g := g) (i := i) (by omega)
        have hss := sprK_size (g := g) (show m ≤ 200 by omega) hw i
        have hwi : (ln.words.getD i .empty).size ≤ 1048576 := by rw [getD_w (by omega)]; exact hw _ (List.getElem_mem _)
        have hwi1 : (ln.words[i + 1]).size ≤ 1048576 := hw _ (List.getElem_mem _)
        apply SCode.drawAuto mixed_ [65, 66, 67, 68, 69, 70, 71, 72, 73, 74, 75, 11] [[.inr 11], [.inr 13], [.inl 1], [.inl 0, .inl 2], [.inr 3], [.inl 4], [.inr 12], [.inl 6], [.inl 5, .inl 7], [.inl 8], [.inl 3, .inl 9], [.inl 10]]
        ·kernel_rfl
        ·kernel_rfl
        ·apply DOk.cons 65 
         ·rfl
         ·exact (NeedIs.inr _ rfl NeedIs.nil)
         ·intro rest
          refine SOps.move rfl ?_
          exact SOps.nil rfl
         apply DOk.cons 66 
         ·rfl
         ·exact (NeedIs.inr _ rfl NeedIs.nil)
         ·intro rest
          refine SOps.move rfl ?_
          exact SOps.nil rfl
         apply DOk.cons 67 
         ·rfl
         ·exact (NeedIs.inl 0 _ _ rfl rfl NeedIs.nil)
         ·intro rest
          refine SOps.callP (q50blanks (gapN m g i) (by omega)) rfl ?_
          rintro _ rfl
          exact SOps.nil rfl
         apply DOk.cons 68 
         ·rfl
         ·exact (NeedIs.inl 2 _ _ rfl rfl (NeedIs.inl 0 _ _ rfl rfl NeedIs.nil))
         ·intro rest
          refine SOps.concat rfl rfl (by first | (simp only [lenB, ByteArray.size_append, blB_size]; omega) | (show _ + _ ≤ _; simp only [lenB]; omega)) ?_
          exact SOps.nil rfl
         apply DOk.cons 69 
         ·rfl
         ·exact (NeedIs.inr _ rfl NeedIs.nil)
         ·intro rest
          refine SOps.fieldPin rfl fieldB_24_0_0 ?_
          exact SOps.nil rfl
         apply DOk.cons 70 
         ·rfl
         ·exact (NeedIs.inl 0 _ _ rfl rfl NeedIs.nil)
         ·intro rest
          refine SOps.loadPin rfl flatB_22 ?_
          exact SOps.nil rfl
         apply DOk.cons 71 
         ·rfl
         ·exact (NeedIs.inr _ rfl NeedIs.nil)
         ·intro rest
          refine SOps.move rfl ?_
          exact SOps.nil rfl
         apply DOk.cons 72 
         ·rfl
         ·exact (NeedIs.inl 0 _ _ rfl rfl NeedIs.nil)
         ·intro rest
          refine SOps.addI rfl rfl (by first | omega | (simp only [lenB]; omega) | (simp only [List.length_map, lenB]; omega) | (simp; done)) (by first | omega | (simp only [lenB]; omega) | (simp only [List.length_map, lenB]; omega) | (simp; done)) ?_
          exact SOps.nil rfl
         apply DOk.cons 73 
         ·rfl
         ·exact (NeedIs.inl 2 _ _ rfl rfl (NeedIs.inl 0 _ _ rfl rfl NeedIs.nil))
         ·intro rest
          refine SOps.indexM (i + 1) rfl rfl sliceB_22_9_1 (by first | omega | (simp only [lenB]; omega) | (simp only [List.length_map, lenB]; omega) | (simp; done)) (by first | omega | (simp only [lenB]; omega) | (simp only [List.length_map, lenB]; omega) | (simp; done)) ?_
          exact SOps.nil rfl
         apply DOk.cons 74 
         ·rfl
         ·exact (NeedIs.inl 0 _ _ rfl rfl NeedIs.nil)
         ·intro rest
          refine SOps.loadPin rfl flatB_9 ?_
          exact SOps.nil rfl
         apply DOk.cons 75 
         ·rfl
         ·exact (NeedIs.inl 6 _ _ rfl rfl (NeedIs.inl 0 _ _ rfl rfl NeedIs.nil))
         ·intro rest
          refine SOps.concat rfl rfl (by first | (simp only [lenB, ByteArray.size_append, blB_size]; omega) | (show _ + _ ≤ _; simp only [lenB]; omega)) ?_
          exact SOps.nil rfl
         apply DOk.cons 11 
         ·rfl
         ·exact (NeedIs.inl 0 _ _ rfl rfl NeedIs.nil)
         ·intro rest
          refine SOps.assign rfl ?_
          exact SOps.nil rfl
         exact DOk.nil
        ·rfl
        ·show SCode _ _ _ _
         refine SCode.region (SOps.move rfl (SOps.addI rfl rfl (by first | omega | (simp only [lenB]; omega) | (simp only [List.length_map, lenB]; omega) | (simp; done)) (by first | omega | (simp only [lenB]; omega) | (simp only [List.length_map, lenB]; omega) | (simp; done)) (SOps.assign rfl (SOps.nil ?_))))
         exact ⟨i + 1, by omega, by omega, St.Le.of ⟨rfl, rfl, rfl, (by show some _ = some _; rw [getD_w (show i < ln.words.length by omega), sprK_at (by omega) hil, getD_w (show i + 1 < ln.words.length by omega)]), rfl, trivial⟩⟩
      ·try simp only [nmL] at hc6
       refine SCode.exit ?_
       show SCode _ _ _ _
       refine SCode.seq (SCode.seqR (SOps.fieldPin rfl fieldB_24_1_1 (SOps.loadPin rfl flatB_4 (SOps.nil ?_))))
       refine SCode.cond rfl (fun hc8 => ?_) (fun hc8 => ?_)
       ·try simp only [nmL] at hc8
        refine SCode.region ?_
        have hss := sprK_size (g := g) (show m ≤ 200 by omega) hw i
        have hwi : (ln.words.getD i .empty).size ≤ 1048576 := by rw [getD_w (by omega)]; exact hw _ (List.getElem_mem _)
        have hsz2 : (sprK ln.words g m i ++ ln.words.getD i .empty).size ≤ (1048576 + 202) * i + 1048576 := by rw [ByteArray.size_append]; omega
        have h45 : (⟨#[45]⟩ : ByteArray).size = 1 := rfl
        refine SOps.move rfl (SOps.concat rfl rfl (by first | (simp only [lenB, ByteArray.size_append, blB_size]; omega) | (show _ + _ ≤ _; simp only [lenB]; omega)) (SOps.assign rfl (SOps.nil ?_)))
        show SCode _ _ _ _
        refine SCode.seqR (SOps.move rfl (SOps.assign rfl (SOps.assign rfl (SOps.nil (SCode.ret ?_)))))
        have hx : sprL ln m = (sprK ln.words g m g ++ ln.words.getD g .empty) ++ hy1 := by unfold sprL; rw [if_pos (by simp_all), show ln.words.length - 1 = g by omega, getD_w hgl0, sprK_end hgl0, show g + 1 = ln.words.length by omega]
        obtain rfl : i = g := by omega
        exact ⟨_, Res.two (.tmp rfl) (.tmp rfl), (by rw [spread_gaps hgood hm (by simp_all) (by omega), hx]; rfl), rfl⟩
       ·try simp only [nmL] at hc8
        refine SCode.skip ?_
        show SCode _ _ _ _
        refine SCode.seqR (SOps.move rfl (SOps.assign rfl (SOps.assign rfl (SOps.nil (SCode.ret ?_)))))
        have hx : sprL ln m = (sprK ln.words g m g ++ ln.words.getD g .empty) := by unfold sprL; rw [if_neg (by simp_all), show ln.words.length - 1 = g by omega, getD_w hgl0, sprK_end hgl0, show g + 1 = ln.words.length by omega]
        obtain rfl : i = g := by omega
        exact ⟨_, Res.two (.tmp rfl) (.tmp rfl), (by rw [spread_gaps hgood hm (by simp_all) (by omega), hx]; rfl), rfl⟩
end Go.GH
namespace Go.GH
open Go Go.Lib
def colP (l : List Bx) (i : Nat) : Int := (pt3 l i).2.2
def hyP (l : List Bx) (i : Nat) : Bool := decide (0 < (pt3 l i).2.1)
def endP (l : List Bx) (i : Nat) : Int := colP l i + if hyP l i then 1 else -1
theorem lenP_eq (l : List Bx) (i k : Nat) : lenP l i k = endP l k - colP l i := by
  unfold lenP endP colP hyP
  by_cases h : 0 < (pt3 l k).2.1
  · rw [if_pos h, if_pos (by simpa using h)]; omega
  · rw [if_neg h, if_neg (by simpa using h)]; omega
theorem colP_eq {l : List Bx} {i : Nat} (h : i < ptN l) : colP l i = (stB l (ptQ l i).1 : Int) + (ptQ l i).2 ∧ hyP l i = decide (0 < (ptQ l i).2) := by
  unfold colP hyP
  rw [pt3_eq h]
  exact ⟨rfl, rfl⟩
theorem pts_step2 {l : List Bx} {i k : Nat} (h : boxesB l = true) (hik : i < k) (hk : k < ptN l) : colP l i < colP l k ∧ endP l i ≤ endP l k ∧ colP l i + 1 ≤ endP l k := by
  obtain ⟨c1, y1⟩ := colP_eq (show i < ptN l by omega)
  obtain ⟨c2, y2⟩ := colP_eq hk
  have h1 := ptQ_ltP h hik hk
  have h2 := ptQ_small h (show i < ptN l - 1 by omega)
  have h3 := ptQ_ok h hk
  unfold endP
  rw [c1, c2, y1, y2]
  generalize ptQ l i = a at *
  generalize ptQ l k = b at *
  obtain ⟨h21, h22, h23⟩ := h2
  rw [wAt_lt h21] at h23
  have hb0 : 0 ≤ b.2 := by
    rcases h3 with h3 | h3
    · exact h3.2.1
    · rw [h3]; exact Int.le_refl _
  have hb1 : b.1 ≤ l.length := by
    rcases h3 with h3 | h3
    · exact Nat.le_of_lt h3.1
    · rw [h3]; exact Nat.le_refl _
  simp only [decide_eq_true_eq]
  rcases h1 with h1 | ⟨h1, h4⟩
  · have h5 := stB_succ h21
    have h6 := stB_mono (l := l) (i := a.1 + 1) (k := b.1) (by omega) hb1
    unfold wlen at h5
    split <;> split <;> omega
  · rw [h1]
    split <;> split <;> omega
theorem lenP_mono {l : List Bx} {i j k n : Nat} (h : boxesB l = true) (h1 : i ≤ j) (h2 : k ≤ n) (hj : j < ptN l) (hn : n < ptN l) : lenP l j k ≤ lenP l i n := by
  rw [lenP_eq, lenP_eq]
  have h3 : colP l i ≤ colP l j := by
    rcases Nat.lt_or_ge i j with h4 | h4
    · have := (pts_step2 h h4 hj).1; omega
    · obtain rfl : i = j := by omega
      exact Int.le_refl _
  have h5 : endP l k ≤ endP l n := by
    rcases Nat.lt_or_ge k n with h4 | h4
    · exact (pts_step2 h h4 hn).2.1
    · obtain rfl : k = n := by omega
      exact Int.le_refl _
  omega
theorem stop_iff {l : List Bx} {w : Int} {i n : Nat} (h : boxesB l = true) (h1 : i < n) (hn : n < ptN l) : n < stopP l w i ↔ lenP l i n ≤ w := by
  refine ⟨stopP_fit h1, fun h2 => ?_⟩
  rcases Nat.lt_or_ge n (stopP l w i) with h3 | h3
  · exact h3
  · rcases stopP_stop (l := l) (w := w) (i := i) (by omega) with h4 | ⟨h4, h5⟩
    · omega
    · have := lenP_mono h (Nat.le_refl i) h3 (by omega) hn
      omega
/-- From a to z by lines that fit. -/
def Fit (l : List Bx) (w : Int) : Nat → List Nat → Nat → Prop
  | a, [], z => a = z
  | a, k :: ks, z => a < k ∧ k < ptN l ∧ lenP l a k ≤ w ∧ Fit l w k ks z
theorem Fit.le {l : List Bx} {w : Int} : ∀ {a z : Nat} {ks : List Nat}, Fit l w a ks z → a ≤ z
  | _, _, [], h => Nat.le_of_eq h
  | _, _, k :: ks, ⟨h1, _, _, h2⟩ => by have := h2.le; omega
theorem Fit.wider {l : List Bx} {w v : Int} (hw : w ≤ v) : ∀ {a z : Nat} {ks : List Nat}, Fit l w a ks z → Fit l v a ks z
  | _, _, [], h => h
  | _, _, k :: ks, ⟨h1, h2, h3, h4⟩ => ⟨h1, h2, by omega, h4.wider hw⟩
theorem Fit.piece {l : List Bx} {w : Int} (h : boxesB l = true) {z : Nat} (hz : z < ptN l) : ∀ {a : Nat} {ks : List Nat}, Fit l w a ks z → ∀ i, a ≤ i → i < z → lenP l i (i + 1) ≤ w
  | a, [], hf, i, h1, h2 => by have : a = z := hf; omega
  | a, k :: ks, ⟨f1, f2, f3, f4⟩, i, h1, h2 => by
    rcases Nat.lt_or_ge i k with h3 | h3
    · have := lenP_mono h (i := a) (j := i) (k := i + 1) (n := k) h1 (by omega) (by omega) f2
      omega
    · exact f4.piece h hz i h3 h2
def AllFit (l : List Bx) (w : Int) : Prop := ∀ i, i < ptN l - 1 → lenP l i (i + 1) ≤ w
theorem Fit.steps {l : List Bx} {w : Int} {z : Nat} (hz : z < ptN l) : ∀ (d a : Nat), a + d = z → (∀ i, a ≤ i → i < z → lenP l i (i + 1) ≤ w) → ∃ ks, Fit l w a ks z
  | 0, a, h, _ => ⟨[], by show a = z; omega⟩
  | d + 1, a, h, hf => by
    obtain ⟨ks, hks⟩ := Fit.steps hz d (a + 1) (by omega) (fun i h1 h2 => hf i (by omega) h2)
    exact ⟨(a + 1) :: ks, by omega, by omega, hf a (Nat.le_refl _) (by omega), hks⟩
theorem fit_iff {l : List Bx} {w : Int} (h : boxesB l = true) : (∃ ks, Fit l w 0 ks (ptN l - 1)) ↔ AllFit l w := by
  have := ptN_pos l
  refine ⟨fun ⟨ks, hk⟩ i hi => hk.piece h (by omega) i (Nat.zero_le _) hi, fun hf => ?_⟩
  exact Fit.steps (by omega) (ptN l - 1) 0 (by omega) (fun i _ hi => hf i hi)
/-- What a line costs. -/
def stepC (l : List Bx) (w pen : Int) (a k : Nat) : Int := (if k < ptN l - 1 then (w - lenP l a k) * (w - lenP l a k) else 0) + (if hyP l k then pen else 0)
def costP (l : List Bx) (w pen : Int) : Nat → List Nat → Int
  | _, [] => 0
  | a, k :: ks => stepC l w pen a k + costP l w pen k ks
theorem lineC_eq (l : List Bx) (w pen : Int) (i n : Nat) (b : Int) : lineC l w pen i n b = b + stepC l w pen i n := by
  unfold lineC stepC hyP
  simp only [decide_eq_true_eq]
  omega
theorem sq_nonneg (x : Int) : 0 ≤ x * x := by
  rcases Int.le_total 0 x with h | h
  · exact Int.mul_nonneg h h
  · exact Int.mul_nonneg_of_nonpos_of_nonpos h h
theorem stepC_nonneg {l : List Bx} {w pen : Int} {a k : Nat} (hp : 0 ≤ pen) : 0 ≤ stepC l w pen a k := by
  have := sq_nonneg (w - lenP l a k)
  unfold stepC
  split <;> split <;> omega
theorem costP_nonneg {l : List Bx} {w pen : Int} (hp : 0 ≤ pen) : ∀ {a : Nat} {ks : List Nat}, 0 ≤ costP l w pen a ks
  | _, [] => Int.le_refl _
  | a, k :: ks => by
    have := stepC_nonneg (l := l) (w := w) (a := a) (k := k) hp
    have := costP_nonneg (l := l) (w := w) hp (a := k) (ks := ks)
    show 0 ≤ stepC l w pen a k + costP l w pen k ks
    omega
/-! the search, one point at a time -/
theorem bstV_spec {l : List Bx} {w pen : Int} {i : Nat} {t : List (Int × Int)} (hp : 0 ≤ pen) (ht : ∀ d, -1 ≤ (t.getD d (0, 0)).1) : ∀ d,
    -1 ≤ (bstV l w pen i t d).1 ∧
    (∀ e, e < d → 0 ≤ (t.getD e (0, 0)).1 → 0 ≤ (bstV l w pen i t d).1 ∧ (bstV l w pen i t d).1 ≤ (t.getD e (0, 0)).1 + stepC l w pen i (i + 1 + e)) ∧
    (0 ≤ (bstV l w pen i t d).1 → ∃ e, e < d ∧ (bstV l w pen i t d).2 = ((i + 1 + e : Nat) : Int) ∧ 0 ≤ (t.getD e (0, 0)).1 ∧ (bstV l w pen i t d).1 = (t.getD e (0, 0)).1 + stepC l w pen i (i + 1 + e) ∧
      ∀ e2, e < e2 → e2 < d → 0 ≤ (t.getD e2 (0, 0)).1 → (bstV l w pen i t d).1 < (t.getD e2 (0, 0)).1 + stepC l w pen i (i + 1 + e2))
  | 0 => ⟨Int.le_refl _, fun e he => by omega, fun h => by have : (0 : Int) ≤ -1 := h; omega⟩
  | d + 1 => by
    obtain ⟨ih0, ih1, ih2⟩ := bstV_spec hp ht (l := l) (w := w) (i := i) d
    have hst := stepC_nonneg (l := l) (w := w) (a := i) (k := i + 1 + d) hp
    rw [bstV]
    unfold stepB
    rw [lineC_eq]
    generalize bstV l w pen i t d = x at *
    generalize hq : (t.getD d (0, 0)).1 = q at *
    by_cases h1 : q < 0
    · rw [if_pos h1]
      refine ⟨ih0, fun e he h0 => ?_, fun h => ?_⟩
      · rcases Nat.lt_or_ge e d with h2 | h2
        · exact ih1 e h2 h0
        · obtain rfl : e = d := by omega
          omega
      · obtain ⟨e, e1, e2, e3, e4, e5⟩ := ih2 h
        refine ⟨e, by omega, e2, e3, e4, fun k k1 k2 k3 => ?_⟩
        rcases Nat.lt_or_ge k d with h2 | h2
        · exact e5 k k1 h2 k3
        · obtain rfl : k = d := by omega
          omega
    · rw [if_neg h1]
      by_cases h2 : x.1 < 0 ∨ q + stepC l w pen i (i + 1 + d) ≤ x.1
      · rw [if_pos h2]
        dsimp only
        refine ⟨by omega, fun e he h0 => ?_, fun h => ⟨d, by omega, rfl, by omega, by omega, fun k k1 k2 => by omega⟩⟩
        rcases Nat.lt_or_ge e d with h3 | h3
        · have := ih1 e h3 h0; omega
        · obtain rfl : e = d := by omega
          omega
      · rw [if_neg h2]
        refine ⟨ih0, fun e he h0 => ?_, fun h => ?_⟩
        · rcases Nat.lt_or_ge e d with h3 | h3
          · exact ih1 e h3 h0
          · obtain rfl : e = d := by omega
            omega
        · obtain ⟨e, e1, e2, e3, e4, e5⟩ := ih2 h
          refine ⟨e, by omega, e2, e3, e4, fun k k1 k2 k3 => ?_⟩
          rcases Nat.lt_or_ge k d with h3 | h3
          · exact e5 k k1 h3 k3
          · obtain rfl : k = d := by omega
            omega
/-- The cheapest from a point on, and the next point. -/
def bestP (l : List Bx) (w pen : Int) (i : Nat) : Int × Int := (bstL l w pen (ptN l - 1)).getD i (0, 0)
theorem bstL_shift (l : List Bx) (w pen : Int) : ∀ (j d i : Nat), (bstL l w pen (j + d)).getD (d + i) (0, 0) = (bstL l w pen j).getD i (0, 0)
  | j, 0, i => by rw [Nat.zero_add]; rfl
  | j, d + 1, i => by
    rw [← Nat.add_assoc, bstL, show d + 1 + i = (d + i) + 1 by omega, List.getD_cons_succ]
    exact bstL_shift l w pen j d i
theorem bestP_last (l : List Bx) (w pen : Int) : bestP l w pen (ptN l - 1) = (0, 0) := by
  unfold bestP
  have := bstL_shift l w pen 0 (ptN l - 1) 0
  rw [Nat.zero_add, Nat.add_zero] at this
  rw [this]; rfl
theorem bestP_step {l : List Bx} (w pen : Int) {i : Nat} (hi : i < ptN l - 1) : bestP l w pen i = bstV l w pen i (bstL l w pen (ptN l - 2 - i)) (stopP l w i - (i + 1)) ∧ ∀ d, i + 1 + d ≤ ptN l - 1 → (bstL l w pen (ptN l - 2 - i)).getD d (0, 0) = bestP l w pen (i + 1 + d) := by
  unfold bestP
  refine ⟨?_, fun d hd => ?_⟩
  · have := bstL_shift l w pen (ptN l - 1 - i) i 0
    rw [show ptN l - 1 - i + i = ptN l - 1 by omega, Nat.add_zero] at this
    rw [this, show ptN l - 1 - i = (ptN l - 2 - i) + 1 by omega, bstL, List.getD_cons_zero, show ptN l - 2 - (ptN l - 2 - i) = i by omega, show ptN l - 1 - (ptN l - 2 - i) = i + 1 by omega]
  · have := bstL_shift l w pen (ptN l - 2 - i) (i + 1) d
    rw [show ptN l - 2 - i + (i + 1) = ptN l - 1 by omega] at this
    rw [this]
theorem bstL_ge {l : List Bx} {w pen : Int} (hp : 0 ≤ pen) : ∀ j d, -1 ≤ ((bstL l w pen j).getD d (0, 0)).1
  | 0, d => by
    cases d with
    | zero => show (-1 : Int) ≤ 0; omega
    | succ d => show (-1 : Int) ≤ 0; omega
  | j + 1, d => by
    rw [bstL]
    cases d with
    | zero => rw [List.getD_cons_zero]; exact (bstV_spec hp (bstL_ge hp j) _).1
    | succ d => rw [List.getD_cons_succ]; exact bstL_ge hp j d
theorem bestP_spec {l : List Bx} {w pen : Int} (hb : boxesB l = true) (hp : 0 ≤ pen) {i : Nat} (hi : i < ptN l - 1) :
    (∀ n, i < n → n < ptN l → lenP l i n ≤ w → 0 ≤ (bestP l w pen n).1 → 0 ≤ (bestP l w pen i).1 ∧ (bestP l w pen i).1 ≤ (bestP l w pen n).1 + stepC l w pen i n) ∧
    (0 ≤ (bestP l w pen i).1 → ∃ n, i < n ∧ n < ptN l ∧ lenP l i n ≤ w ∧ (bestP l w pen i).2 = (n : Int) ∧ 0 ≤ (bestP l w pen n).1 ∧ (bestP l w pen i).1 = (bestP l w pen n).1 + stepC l w pen i n ∧
      ∀ m, n < m → m < ptN l → lenP l i m ≤ w → 0 ≤ (bestP l w pen m).1 → (bestP l w pen i).1 < (bestP l w pen m).1 + stepC l w pen i m) := by
  obtain ⟨h1, h2⟩ := bestP_step w pen hi
  obtain ⟨_, h3, h4⟩ := bstV_spec (l := l) (w := w) (i := i) hp (bstL_ge hp (ptN l - 2 - i)) (stopP l w i - (i + 1))
  have hsl := stopP_le (l := l) (w := w) (i := i) (by omega)
  rw [← h1] at h3 h4
  refine ⟨fun n n1 n2 n3 n4 => ?_, fun h0 => ?_⟩
  · have h5 := (stop_iff hb n1 n2).2 n3
    have h6 := h2 (n - (i + 1)) (by omega)
    rw [show i + 1 + (n - (i + 1)) = n by omega] at h6
    have h7 := h3 (n - (i + 1)) (by omega) (by rw [h6]; exact n4)
    rw [h6, show i + 1 + (n - (i + 1)) = n by omega] at h7
    exact h7
  · obtain ⟨e, e1, e2, e3, e4, e5⟩ := h4 h0
    have h6 := h2 e (by omega)
    rw [h6] at e3 e4
    refine ⟨i + 1 + e, by omega, by omega, stopP_fit (by omega) (by omega), e2, e3, e4, fun m m1 m2 m3 m4 => ?_⟩
    have h5 := (stop_iff hb (show i < m by omega) m2).2 m3
    have h7 := h2 (m - (i + 1)) (by omega)
    rw [show i + 1 + (m - (i + 1)) = m by omega] at h7
    have h8 := e5 (m - (i + 1)) (by omega) (by omega) (by rw [h7]; exact m4)
    rw [h7, show i + 1 + (m - (i + 1)) = m by omega] at h8
    exact h8
end Go.GH
namespace Go.GH
open Go Go.Lib
def Prp (s : ByteArray) : Prop := encs (runes s) = s
theorem prp_encs {rs : List Int} (h : ∀ r ∈ rs, Utf8.valid r = true) : Prp (encs rs) := by unfold Prp; rw [runes_encs h]
theorem prp_app {x y : ByteArray} (hx : Prp x) (hy : Prp y) : runes (x ++ y) = runes x ++ runes y ∧ Prp (x ++ y) := by
  have e : x ++ y = encs (runes x ++ runes y) := by rw [encs_append, hx, hy]
  have h : runes (x ++ y) = runes x ++ runes y := by
    rw [e]
    exact runes_encs (fun r hr => (List.mem_append.1 hr).elim runes_valid runes_valid)
  exact ⟨h, by unfold Prp; rw [h]; exact e.symm⟩
theorem wlen_app {x y : ByteArray} (hx : Prp x) (hy : Prp y) : wlen (x ++ y) = wlen x + wlen y := by
  unfold wlen; rw [(prp_app hx hy).1, List.length_append]
theorem prp_sp1 : Prp sp1 ∧ wlen sp1 = 1 := ⟨by unfold Prp; decide +kernel, by decide +kernel⟩
theorem prp_hy1 : Prp hy1 ∧ wlen hy1 = 1 := ⟨by unfold Prp; decide +kernel, by decide +kernel⟩
def sumW (ws : List ByteArray) : Nat := (ws.map (fun w => wlen w + 1)).sum
theorem sumW_app (x y : List ByteArray) : sumW (x ++ y) = sumW x + sumW y := by unfold sumW; rw [List.map_append, List.sum_append]
theorem sumW_one (x : ByteArray) : sumW [x] = wlen x + 1 := by unfold sumW; simp
theorem foldl_len : ∀ (ws : List ByteArray) (w : ByteArray), Prp w → (∀ x ∈ ws, Prp x) → wlen (ws.foldl (fun a x => a ++ sp1 ++ x) w) = wlen w + sumW ws ∧ Prp (ws.foldl (fun a x => a ++ sp1 ++ x) w)
  | [], w, hw, _ => ⟨rfl, hw⟩
  | x :: ws, w, hw, h => by
    have hx := h x (List.mem_cons_self ..)
    have h1 := (prp_app hw prp_sp1.1).2
    have h2 := (prp_app h1 hx).2
    have ih := foldl_len ws (w ++ sp1 ++ x) h2 (fun y hy => h y (List.mem_cons_of_mem _ hy))
    rw [List.foldl_cons]
    refine ⟨?_, ih.2⟩
    rw [ih.1, wlen_app h1 hx, wlen_app hw prp_sp1.1, prp_sp1.2]
    unfold sumW
    rw [List.map_cons, List.sum_cons]
    omega
theorem catW_len {ws : List ByteArray} (hne : ws ≠ []) (h : ∀ x ∈ ws, Prp x) : wlen (catW ws) + 1 = sumW ws ∧ Prp (catW ws) := by
  cases ws with
  | nil => exact absurd rfl hne
  | cons w ws =>
    have := foldl_len ws w (h w (List.mem_cons_self ..)) (fun y hy => h y (List.mem_cons_of_mem _ hy))
    refine ⟨?_, this.2⟩
    show wlen (ws.foldl _ w) + 1 = _
    rw [this.1]
    unfold sumW
    rw [List.map_cons, List.sum_cons]
    omega
theorem textL_len {ln : Ln} (hne : ln.words ≠ []) (h : ∀ x ∈ ln.words, Prp x) : wlen (textL ln) + 1 = sumW ln.words + if ln.hyph then 1 else 0 := by
  have h1 := catW_len hne h
  unfold textL
  split
  · rw [wlen_app h1.2 prp_hy1.1, prp_hy1.2]; omega
  · omega
theorem sumW_wsA {l : List Bx} {a : Nat} : ∀ {b : Nat}, a ≤ b → b ≤ l.length → sumW (wsA l a b) + stB l a = stB l b
  | 0, h, _ => by
    obtain rfl : a = 0 := by omega
    rw [wsA_zero]; rfl
  | b + 1, h, hb => by
    rcases Nat.lt_or_ge b a with h1 | h1
    · obtain rfl : a = b + 1 := by omega
      rw [wsA_zero]; exact Nat.zero_add _
    · have ih := sumW_wsA (l := l) (a := a) (b := b) h1 (by omega)
      have e : wlen (encs (runes (l[b]).word)) = wlen (l[b]).word := by unfold wlen; rw [runes_encs (fun r hr => runes_valid hr)]
      rw [wsA_succ h1 (by omega), sumW_app, sumW_one, stB_succ (show b < l.length by omega), e]
      omega
theorem wsA_cons {l : List Bx} {a b : Nat} (h : a < b) (hb : b ≤ l.length) : wsA l a b = encs (wAt l a) :: wsA l (a + 1) b := by
  unfold wsA
  rw [List.drop_eq_getElem_cons (show a < (l.take b).length by simp; omega), List.map_cons, wAt_lt (show a < l.length by omega)]
  simp
theorem wAt_valid {l : List Bx} {j : Nat} {r : Int} (h : r ∈ wAt l j) : Utf8.valid r = true := by
  unfold wAt at h
  split at h
  · exact runes_valid h
  · cases h
theorem runes_wAt (l : List Bx) (j : Nat) : runes (encs (wAt l j)) = wAt l j := runes_encs (fun r hr => wAt_valid hr)
/-- The words between two break points. -/
def pcW (l : List Bx) (a b : Nat × Int) : List ByteArray :=
  if a.1 = b.1 then [encs (((wAt l a.1).take b.2.toNat).drop a.2.toNat)] else encs ((wAt l a.1).drop a.2.toNat) :: (wsA l (a.1 + 1) b.1 ++ if 0 < b.2 then [encs ((wAt l b.1).take b.2.toNat)] else [])
theorem wsC_eq {l : List Bx} {a b : Nat × Int} (ha : PtOK l a) (hb : b.1 ≤ l.length) (hab : ltP a b) : wsC l (up3 l a) (up3 l b) = pcW l a b := by
  obtain ⟨a1, a2, a3⟩ := ha
  show (if 0 < a.2 then ((if 0 < b.2 then wsA l a.1 b.1 ++ [encs ((wAt l b.1).take b.2.toNat)] else wsA l a.1 b.1)).set 0 (encs ((runes (((if 0 < b.2 then wsA l a.1 b.1 ++ [encs ((wAt l b.1).take b.2.toNat)] else wsA l a.1 b.1)).getD 0 .empty)).drop a.2.toNat)) else (if 0 < b.2 then wsA l a.1 b.1 ++ [encs ((wAt l b.1).take b.2.toNat)] else wsA l a.1 b.1)) = _
  unfold pcW
  rcases hab with h | ⟨h, h2⟩
  · rw [if_neg (show ¬ a.1 = b.1 by omega), wsA_cons h hb]
    by_cases h0 : 0 < a.2
    · rw [if_pos h0]
      split
      · rw [List.cons_append, List.getD_cons_zero, runes_wAt, List.set_cons_zero]
      · rw [List.getD_cons_zero, runes_wAt, List.set_cons_zero, List.append_nil]
    · rw [if_neg h0, show a.2.toNat = 0 by omega, List.drop_zero]
      split
      · rfl
      · rw [List.append_nil]
  · rw [if_pos h, if_pos (show 0 < b.2 by omega), ← h, wsA_zero, List.nil_append]
    have e : runes (encs ((wAt l a.1).take b.2.toNat)) = (wAt l a.1).take b.2.toNat := runes_encs (fun r hr => wAt_valid (List.mem_of_mem_take hr))
    by_cases h0 : 0 < a.2
    · rw [if_pos h0, List.getD_cons_zero, e, List.set_cons_zero]
    · rw [if_neg h0, show a.2.toNat = 0 by omega, List.drop_zero]
theorem line_words {l : List Bx} {i k : Nat} (hb : boxesB l = true) (hik : i < k) (hk : k < ptN l) : (lineP l i k).words = pcW l (ptQ l i) (ptQ l k) ∧ (lineP l i k).hyph = hyP l k := by
  refine ⟨?_, rfl⟩
  show wsC l (pt3 l i) (pt3 l k) = _
  rw [pt3_eq (show i < ptN l by omega), pt3_eq hk]
  refine wsC_eq (ptQ_small hb (by omega)) ?_ (ptQ_ltP hb hik hk)
  rcases ptQ_ok hb hk with h | h
  · exact Nat.le_of_lt h.1
  · rw [h]; exact Nat.le_refl _
/-- A piece of a box's word. -/
def Gd (l : List Bx) (s : ByteArray) : Prop := ∃ (rs : List Int) (j : Nat), s = encs rs ∧ rs ≠ [] ∧ j < l.length ∧ (∀ r ∈ rs, r ∈ wAt l j) ∧ rs.length ≤ (wAt l j).length
theorem Gd.prp {l : List Bx} {s : ByteArray} (h : Gd l s) : Prp s := by
  obtain ⟨rs, j, rfl, _, _, h, _⟩ := h
  exact prp_encs (fun r hr => wAt_valid (h r hr))
theorem Gd.word {l : List Bx} {s : ByteArray} (hb : boxesB l = true) (h : Gd l s) : wordB s = true ∧ wlen s ≠ 0 := by
  have hp := h.prp
  obtain ⟨rs, j, rfl, hne, hj, h, _⟩ := h
  have hv : ∀ r ∈ rs, Utf8.valid r = true := fun r hr => wAt_valid (h r hr)
  have hl : wlen (encs rs) = rs.length := by unfold wlen; rw [runes_encs hv]
  have hpos : rs.length ≠ 0 := fun e => hne (List.length_eq_zero_iff.1 e)
  refine ⟨wordB_iff.2 ⟨fun e => ?_, (utf8R_iff _).2 hp, ?_⟩, by rw [hl]; exact hpos⟩
  · have e2 : wlen (encs rs) = 0 := by rw [e]; rfl
    omega
  · unfold anySp
    rw [runes_encs hv, List.any_eq_false]
    intro r hr
    have h1 := (wordB_iff.1 (boxB_iff.1 ((boxesB_iff.1 hb).2 _ (List.getElem_mem hj))).1).2.2
    have h2 := h r hr
    rw [wAt_lt hj] at h2
    unfold anySp at h1
    rw [List.any_eq_false] at h1
    exact h1 r h2
theorem Gd.size {l : List Bx} {s : ByteArray} (hb : boxesB l = true) (h : Gd l s) : s.size ≤ 800 := by
  obtain ⟨rs, j, rfl, _, hj, _, h⟩ := h
  have h1 := encs_size4 rs
  have h2 := (bnds_of hb).wlen _ (List.getElem_mem hj)
  rw [wAt_lt hj] at h
  unfold wlen at h2
  omega
theorem wAt_ne {l : List Bx} (hb : boxesB l = true) {j : Nat} (hj : j < l.length) : wAt l j ≠ [] := by
  intro e
  have h3 := (bnds_of hb).cor _ (List.getElem_mem hj)
  rw [wAt_lt hj] at e
  rw [e] at h3
  exact (wordB_iff.1 (boxB_iff.1 ((boxesB_iff.1 hb).2 _ (List.getElem_mem hj))).1).1 h3.symm
theorem wsA_gd {l : List Bx} (hb : boxesB l = true) {a b : Nat} (hbl : b ≤ l.length) : ∀ s ∈ wsA l a b, Gd l s := by
  intro s hs
  unfold wsA at hs
  obtain ⟨x, hx, rfl⟩ := List.mem_map.1 hs
  obtain ⟨j, hj, rfl⟩ := List.mem_iff_getElem.1 (List.mem_of_mem_take (List.mem_of_mem_drop hx))
  exact ⟨runes (l[j]).word, j, rfl, by have := wAt_ne hb hj; rw [wAt_lt hj] at this; exact this, hj, fun r hr => by rw [wAt_lt hj]; exact hr, by rw [wAt_lt hj]; exact Nat.le_refl _⟩
theorem pcW_gd {l : List Bx} (hb : boxesB l = true) {a b : Nat × Int} (ha : PtOK l a) (hbo : PtOK l b ∨ b = (l.length, 0)) (hab : ltP a b) : pcW l a b ≠ [] ∧ ∀ s ∈ pcW l a b, Gd l s := by
  obtain ⟨a1, a2, a3⟩ := ha
  unfold pcW
  rcases hab with h | ⟨h, h2⟩
  · rw [if_neg (show ¬ a.1 = b.1 by omega)]
    refine ⟨by simp, fun s hs => ?_⟩
    rcases List.mem_cons.1 hs with rfl | hs
    · refine ⟨_, a.1, rfl, ?_, a1, fun r hr => List.mem_of_mem_drop hr, by rw [List.length_drop]; omega⟩
      intro e
      have := congrArg List.length e
      rw [List.length_drop, List.length_nil] at this
      omega
    · rcases List.mem_append.1 hs with hs | hs
      · exact wsA_gd hb (by rcases hbo with h3 | h3; exact Nat.le_of_lt h3.1; rw [h3]; exact Nat.le_refl _) s hs
      · split at hs
        · rename_i h4
          rw [List.mem_singleton] at hs
          subst hs
          have hbl : b.1 < l.length := by
            rcases hbo with h5 | h5
            · exact h5.1
            · rw [h5] at h4; simp at h4
          refine ⟨_, b.1, rfl, ?_, hbl, fun r hr => List.mem_of_mem_take hr, by rw [List.length_take]; omega⟩
          intro e
          have := congrArg List.length e
          have hne := wAt_ne hb hbl
          have : (wAt l b.1).length ≠ 0 := fun e => hne (List.length_eq_zero_iff.1 e)
          rw [List.length_take, List.length_nil] at *
          omega
        · cases hs
  · rw [if_pos h]
    refine ⟨by simp, fun s hs => ?_⟩
    rw [List.mem_singleton] at hs
    subst hs
    have hb3 : b.2 < ((wAt l b.1).length : Int) := by
      rcases hbo with h5 | h5
      · exact h5.2.2
      · rw [h5] at h2; dsimp only at h2; omega
    refine ⟨_, a.1, rfl, ?_, a1, fun r hr => List.mem_of_mem_take (List.mem_of_mem_drop hr), by rw [List.length_drop, List.length_take]; omega⟩
    intro e
    have := congrArg List.length e
    rw [List.length_drop, List.length_take, List.length_nil] at this
    rw [h] at this
    omega
theorem line_gd {l : List Bx} {i k : Nat} (hb : boxesB l = true) (hik : i < k) (hk : k < ptN l) : (lineP l i k).words ≠ [] ∧ ∀ s ∈ (lineP l i k).words, Gd l s := by
  rw [(line_words hb hik hk).1]
  exact pcW_gd hb (ptQ_small hb (by omega)) (ptQ_ok hb hk) (ptQ_ltP hb hik hk)
theorem pcW_length {l : List Bx} {a b : Nat × Int} (hb : b.1 ≤ l.length) : (pcW l a b).length ≤ l.length + 2 := by
  unfold pcW
  split
  · simp
  · rw [List.length_cons, List.length_append, wsA_len hb]
    split
    · rw [List.length_singleton]; omega
    · rw [List.length_nil]; omega
theorem line_ok {l : List Bx} {i k : Nat} (hb : boxesB l = true) (hik : i < k) (hk : k < ptN l) : LnOK (lineP l i k) := by
  have h1 := line_gd hb hik hk
  have h2 := bnds_of hb
  refine ⟨?_, fun s hs => by have := (h1.2 s hs).size hb; omega⟩
  rw [(line_words hb hik hk).1]
  have h3 : (ptQ l k).1 ≤ l.length := by
    rcases ptQ_ok hb hk with h | h
    · exact Nat.le_of_lt h.1
    · rw [h]; exact Nat.le_refl _
  have := pcW_length (l := l) (a := ptQ l i) h3
  have := h2.len
  omega
theorem wlen_encs {rs : List Int} (h : ∀ r ∈ rs, Utf8.valid r = true) : wlen (encs rs) = rs.length := by unfold wlen; rw [runes_encs h]
theorem pcW_sum {l : List Bx} {a b : Nat × Int} (ha : PtOK l a) (hbo : PtOK l b ∨ b = (l.length, 0)) (hab : ltP a b) : (sumW (pcW l a b) : Int) = (stB l b.1 : Int) + b.2 - ((stB l a.1 : Int) + a.2) + if 0 < b.2 then 1 else 0 := by
  obtain ⟨a1, a2, a3⟩ := ha
  have hs := stB_succ a1
  have hw : wlen (l[a.1]).word = (wAt l a.1).length := by rw [wAt_lt a1]; rfl
  unfold pcW
  rcases hab with h | ⟨h, h2⟩
  · have hbl : b.1 ≤ l.length := by
      rcases hbo with h3 | h3
      · exact Nat.le_of_lt h3.1
      · rw [h3]; exact Nat.le_refl _
    have hA := sumW_wsA (l := l) (a := a.1 + 1) (b := b.1) (by omega) hbl
    rw [if_neg (show ¬ a.1 = b.1 by omega), ← List.singleton_append, sumW_app, sumW_app, sumW_one, wlen_encs (fun r hr => wAt_valid (List.mem_of_mem_drop hr)), List.length_drop]
    by_cases h0 : 0 < b.2
    · have hb3 : b.2 < ((wAt l b.1).length : Int) := by
        rcases hbo with h5 | h5
        · exact h5.2.2
        · rw [h5] at h0; simp at h0
      rw [if_pos h0, if_pos h0, sumW_one, wlen_encs (fun r hr => wAt_valid (List.mem_of_mem_take hr)), List.length_take]
      omega
    · have hb0 : b.2 = 0 := by
        rcases hbo with h5 | h5
        · have := h5.2.1; omega
        · rw [h5]
      have e0 : sumW [] = 0 := rfl
      rw [if_neg h0, if_neg h0, e0]
      omega
  · have hb3 : b.2 < ((wAt l b.1).length : Int) := by
      rcases hbo with h5 | h5
      · exact h5.2.2
      · rw [h5] at h2; dsimp only at h2; omega
    rw [if_pos h, if_pos (show 0 < b.2 by omega), sumW_one, wlen_encs (fun r hr => wAt_valid (List.mem_of_mem_take (List.mem_of_mem_drop hr))), List.length_drop, List.length_take, ← h]
    rw [← h] at hb3
    omega
/-- The text of a line is as long as the columns between its points say. -/
theorem line_len {l : List Bx} {i k : Nat} (hb : boxesB l = true) (hik : i < k) (hk : k < ptN l) : (wlen (textL (lineP l i k)) : Int) = lenP l i k := by
  have h1 := line_gd hb hik hk
  have h2 := textL_len h1.1 (fun x hx => (h1.2 x hx).prp)
  rw [(line_words hb hik hk).2, (line_words hb hik hk).1] at h2
  have h3 := pcW_sum (ptQ_small hb (show i < ptN l - 1 by omega)) (ptQ_ok hb hk) (ptQ_ltP hb hik hk)
  obtain ⟨c1, _⟩ := colP_eq (show i < ptN l by omega)
  obtain ⟨c2, y2⟩ := colP_eq hk
  rw [lenP_eq]
  unfold endP
  rw [c1, c2, y2]
  rw [y2] at h2
  simp only [decide_eq_true_eq] at h2 ⊢
  by_cases h0 : 0 < (ptQ l k).2
  · rw [if_pos h0] at h2 h3 ⊢; omega
  · rw [if_neg h0] at h2 h3 ⊢; omega
theorem free_line {l : List Bx} {w : Int} {i k : Nat} (hb : boxesB l = true) (hik : i < k) (hk : k < ptN l) : freeL w (lineP l i k) = w - lenP l i k := by
  unfold freeL; rw [line_len hb hik hk]
/-! what the reference builds -/
def btwW (l : List Bx) (a b : Nat × Int) (w : Nat) : List ByteArray :=
  if (if w = a.1 then a.2 else 0) < (if w = b.1 then b.2 else ((wAt l w).length : Int)) then [encs (((wAt l w).drop (if w = a.1 then a.2 else 0).toNat).take ((if w = b.1 then b.2 else ((wAt l w).length : Int)).toNat - (if w = a.1 then a.2 else 0).toNat))] else []
def btwN (l : List Bx) (a b : Nat × Int) : Nat → List ByteArray
  | 0 => []
  | j + 1 => btwN l a b j ++ btwW l a b (a.1 + j)
theorem btwN_len (l : List Bx) (a b : Nat × Int) : ∀ j, (btwN l a b j).length ≤ j
  | 0 => Nat.le_refl _
  | j + 1 => by
    have ih := btwN_len l a b j
    have h : (btwW l a b (a.1 + j)).length ≤ 1 := by
      have key : ∀ (p : Prop) [Decidable p] (x : ByteArray), (if p then [x] else []).length ≤ 1 := fun p _ x => by
        split
        · exact Nat.le_refl _
        · exact Nat.zero_le _
      exact key _ _
    show (btwN l a b j ++ btwW l a b (a.1 + j)).length ≤ _
    rw [List.length_append]
    omega
theorem btw_mid {l : List Bx} (hb : boxesB l = true) {a b : Nat × Int} (ha : PtOK l a) (hbl : b.1 ≤ l.length) (h : a.1 < b.1) : ∀ j, 0 < j → j ≤ b.1 - a.1 → btwN l a b j = encs ((wAt l a.1).drop a.2.toNat) :: wsA l (a.1 + 1) (a.1 + j)
  | 0, h0, _ => absurd h0 (Nat.lt_irrefl _)
  | 1, _, _ => by
    obtain ⟨a1, a2, a3⟩ := ha
    show [] ++ btwW l a b (a.1 + 0) = _
    rw [List.nil_append, Nat.add_zero, wsA_zero]
    unfold btwW
    rw [if_pos rfl, if_neg (show ¬ a.1 = b.1 by omega), if_pos a3, List.take_of_length_le (by rw [List.length_drop]; omega)]
  | j + 2, _, hj => by
    have ih := btw_mid hb ha hbl h (j + 1) (by omega) (by omega)
    have hjl : a.1 + (j + 1) < l.length := by omega
    show btwN l a b (j + 1) ++ btwW l a b (a.1 + (j + 1)) = _
    have hne := wAt_ne hb hjl
    have hpos : 0 < (wAt l (a.1 + (j + 1))).length := List.length_pos_iff.2 hne
    rw [ih, show a.1 + (j + 2) = a.1 + (j + 1) + 1 by omega, wsA_succ (show a.1 + 1 ≤ a.1 + (j + 1) by omega) hjl, ← wAt_lt hjl]
    unfold btwW
    rw [if_neg (show ¬ a.1 + (j + 1) = a.1 by omega), if_neg (show ¬ a.1 + (j + 1) = b.1 by omega), if_pos (by omega), List.cons_append]
    congr 1
    simp
def btwL (l : List Bx) (a b : Nat × Int) : Nat := min (b.1 + 1) l.length - a.1
theorem btw_eq {l : List Bx} (hb : boxesB l = true) {a b : Nat × Int} (ha : PtOK l a) (hbo : PtOK l b ∨ b = (l.length, 0)) (hab : ltP a b) : btwN l a b (btwL l a b) = pcW l a b := by
  have ha' := ha
  obtain ⟨a1, a2, a3⟩ := ha
  unfold btwL
  rcases hab with h | ⟨h, h2⟩
  · unfold pcW
    rw [if_neg (show ¬ a.1 = b.1 by omega)]
    rcases hbo with hbo | hbo
    · have hbl := hbo.1
      rw [show min (b.1 + 1) l.length - a.1 = (b.1 - a.1) + 1 by omega]
      show btwN l a b (b.1 - a.1) ++ btwW l a b (a.1 + (b.1 - a.1)) = _
      rw [btw_mid hb ha' (by omega) h _ (by omega) (Nat.le_refl _), show a.1 + (b.1 - a.1) = b.1 by omega, List.cons_append]
      unfold btwW
      rw [if_neg (show ¬ b.1 = a.1 by omega), if_pos rfl]
      congr 2
    · rw [hbo] at h ⊢
      dsimp only at h ⊢
      rw [show min (l.length + 1) l.length - a.1 = l.length - a.1 by omega, btw_mid hb ha' (Nat.le_refl _) h _ (by omega) (by omega), show a.1 + (l.length - a.1) = l.length by omega]
      simp
  · unfold pcW
    have hbl : b.1 < l.length := by omega
    rw [if_pos h, show min (b.1 + 1) l.length - a.1 = 1 by omega]
    show [] ++ btwW l a b (a.1 + 0) = _
    unfold btwW
    rw [List.nil_append, Nat.add_zero, if_pos rfl, if_pos h, if_pos h2, List.drop_take]
end Go.GH
namespace Go.GH
open Go Go.Lib
theorem best_le {l : List Bx} {w pen : Int} (hb : boxesB l = true) (hp : 0 ≤ pen) : ∀ {i : Nat} {ks : List Nat}, Fit l w i ks (ptN l - 1) → 0 ≤ (bestP l w pen i).1 ∧ (bestP l w pen i).1 ≤ costP l w pen i ks
  | i, [], h => by
    have h1 : i = ptN l - 1 := h
    rw [h1, bestP_last]
    exact ⟨Int.le_refl _, Int.le_refl _⟩
  | i, k :: ks, ⟨h1, h2, h3, h4⟩ => by
    have ih := best_le hb hp h4
    have h5 := (bestP_spec (w := w) hb hp (show i < ptN l - 1 by have := h4.le; omega)).1 k h1 h2 h3 ih.1
    refine ⟨h5.1, ?_⟩
    show _ ≤ stepC l w pen i k + costP l w pen k ks
    omega
def nextL (l : List Bx) (w pen : Int) : List Int := (bstL l w pen (ptN l - 1)).map (·.2)
theorem nextL_at (l : List Bx) (w pen : Int) (i : Nat) : (nextL l w pen).getD i 0 = (bestP l w pen i).2 := by
  unfold nextL bestP
  rw [List.getD_eq_getElem?_getD, List.getD_eq_getElem?_getD, List.getElem?_map]
  cases (bstL l w pen (ptN l - 1))[i]? <;> rfl
theorem best_way {l : List Bx} {w pen : Int} (hb : boxesB l = true) (hp : 0 ≤ pen) : ∀ (f i : Nat), i ≤ ptN l - 1 → ptN l - 1 < f + i → 0 ≤ (bestP l w pen i).1 →
    Fit l w i (pathF (ptN l - 1) (nextL l w pen) f i) (ptN l - 1) ∧ costP l w pen i (pathF (ptN l - 1) (nextL l w pen) f i) = (bestP l w pen i).1
  | 0, i, h1, h2, _ => by omega
  | f + 1, i, h1, h2, h0 => by
    rw [pathF]
    by_cases hi : i < ptN l - 1
    · rw [if_pos hi]
      obtain ⟨n, n1, n2, n3, n4, n5, n6, _⟩ := (bestP_spec (w := w) hb hp hi).2 h0
      have ih := best_way hb hp f n (by omega) (by omega) n5
      rw [nextL_at, n4, Int.toNat_natCast]
      refine ⟨⟨n1, n2, n3, ih.1⟩, ?_⟩
      show stepC l w pen i n + costP l w pen n _ = _
      rw [ih.2, n6]; omega
    · rw [if_neg hi]
      have h3 : i = ptN l - 1 := by omega
      refine ⟨h3, ?_⟩
      rw [h3, bestP_last]; rfl
theorem best_iff {l : List Bx} {w pen : Int} (hb : boxesB l = true) (hp : 0 ≤ pen) : 0 ≤ (bestP l w pen 0).1 ↔ AllFit l w := by
  have h1 := ptN_pos l
  refine ⟨fun h => (fit_iff hb).1 ⟨_, (best_way hb hp (ptN l) 0 (Nat.zero_le _) (by omega) h).1⟩, fun h => ?_⟩
  obtain ⟨ks, hk⟩ := (fit_iff hb).2 h
  exact (best_le hb hp hk).1
/-! greedy -/
/-! counting -/
theorem AllFit.wider {l : List Bx} {w v : Int} (hw : w ≤ v) (h : AllFit l w) : AllFit l v := fun i hi => by have := h i hi; omega
end Go.GH
namespace Go.GH
open Go Go.Lib
theorem linesOf_len (l : List Bx) : ∀ (a : Nat) (ks : List Nat), (linesOf l a ks).length = ks.length
  | _, [] => rfl
  | a, k :: ks => by rw [linesOf, List.length_cons, List.length_cons, linesOf_len l k ks]
theorem valid_of {l : List Bx} {w : Int} (h : validL l w = true) : (1 ≤ w ∧ w ≤ 200) ∧ boxesB l = true := by
  unfold validL at h
  rw [Bool.and_eq_true, wideB_iff] at h
  exact h
theorem linesR_ok {l : List Bx} {w pen : Int} (hv : validL l w = true) (hp : penB pen = true) :
    ((linesR l w pen).2.2 = 0 ∧ AllFit l w ∧ ∃ ks, Fit l w 0 ks (ptN l - 1) ∧ (linesR l w pen).1 = linesOf l 0 ks ∧ costP l w pen 0 ks = (linesR l w pen).2.1 ∧ ∀ qs, Fit l w 0 qs (ptN l - 1) → (linesR l w pen).2.1 ≤ costP l w pen 0 qs) ∨ ((linesR l w pen).2.2 = 2 ∧ ¬ AllFit l w ∧ (linesR l w pen).2.1 = 0 ∧ (linesR l w pen).1 = []) := by
  have hb := (valid_of hv).2
  have hp0 := (penB_iff.1 hp).1
  have hpos := ptN_pos l
  have hbi := best_iff (w := w) hb hp0
  have hbp : ((bstL l w pen (ptN l - 1)).getD 0 (0, 0)).1 = (bestP l w pen 0).1 := rfl
  unfold linesR
  rw [if_pos (by rw [hv, hp]; rfl), hbp]
  by_cases h : (bestP l w pen 0).1 < 0
  · rw [if_pos h]
    exact .inr ⟨rfl, fun h2 => by have := hbi.2 h2; omega, rfl, rfl⟩
  · rw [if_neg h]
    have hw := best_way hb hp0 (ptN l) 0 (Nat.zero_le _) (by omega) (show 0 ≤ (bestP l w pen 0).1 by omega)
    exact .inl ⟨rfl, hbi.1 (by omega), _, hw.1, rfl, hw.2, fun qs hq => (best_le hb hp0 hq).2⟩
/-! penalties -/
theorem Fit.len {l : List Bx} {w : Int} : ∀ {a z : Nat} {ks : List Nat}, Fit l w a ks z → ks.length ≤ z - a
  | _, _, [], _ => Nat.zero_le _
  | a, z, k :: ks, ⟨h1, _, _, h2⟩ => by
    have := h2.len
    have := h2.le
    rw [List.length_cons]; omega
/-! smallest pieces -/
end Go.GH
namespace Go.GH
open Go Go.Lib
end Go.GH
namespace Go.GH
open Go Go.Lib
/-- Ways, longest first step first: what was collected after so many ends. -/
def wayN (l : List Bx) (w : Int) (i : Nat) (D : Nat → List (List Nat)) : Nat → List (List Nat)
  | 0 => []
  | d + 1 => wayN l w i D d ++ if lenP l i (ptN l - 1 - d) ≤ w then (D (ptN l - 1 - d)).map (fun x => (ptN l - 1 - d) :: x) else []
def wayF (l : List Bx) (w : Int) : Nat → Nat → List (List Nat)
  | 0, _ => []
  | f + 1, i => if i = ptN l - 1 then [[]] else wayN l w i (wayF l w f) (ptN l - 1 - i)
def divN (l : List Bx) (w : Int) (i : Nat) (D : Nat → List (List Ln)) : Nat → List (List Ln)
  | 0 => []
  | d + 1 => divN l w i D d ++ if lenP l i (ptN l - 1 - d) ≤ w then (D (ptN l - 1 - d)).map (fun x => lineP l i (ptN l - 1 - d) :: x) else []
theorem divN_way {l : List Bx} {w : Int} {i : Nat} {D : Nat → List (List Nat)} : ∀ d, divN l w i (fun n => (D n).map (linesOf l n)) d = (wayN l w i D d).map (linesOf l i)
  | 0 => rfl
  | d + 1 => by
    rw [divN, wayN, List.map_append, divN_way d]
    congr 1
    split
    · rw [List.map_map, List.map_map]; rfl
    · rfl
def divsR (l : List Bx) (w : Int) (i : Nat) : List (List Ln) := (wayF l w (ptN l) i).map (linesOf l i)
theorem wayF_fuel {l : List Bx} {w : Int} : ∀ (f g i : Nat), i ≤ ptN l - 1 → ptN l - 1 < f + i → ptN l - 1 < g + i → wayF l w f i = wayF l w g i
  | 0, g, i, h1, h2, _ => by omega
  | f + 1, 0, i, h1, _, h3 => by omega
  | f + 1, g + 1, i, h1, h2, h3 => by
    rw [wayF, wayF]
    split
    · rfl
    · rename_i hi
      have key : ∀ d, d ≤ ptN l - 1 - i → wayN l w i (wayF l w f) d = wayN l w i (wayF l w g) d := fun d => by
        induction d with
        | zero => intro _; rfl
        | succ d ih =>
          intro hd
          rw [wayN, wayN, ih (by omega), wayF_fuel f g (ptN l - 1 - d) (by omega) (by omega) (by omega)]
      exact key _ (Nat.le_refl _)
theorem wayF_len {l : List Bx} {w : Int} : ∀ (f i : Nat), i ≤ ptN l - 1 → (wayF l w f i).length ≤ 2 ^ (ptN l - 1 - i) ∧ ∀ x ∈ wayF l w f i, x.length ≤ f
  | 0, i, _ => ⟨Nat.zero_le _, fun x hx => by cases hx⟩
  | f + 1, i, hi => by
    rw [wayF]
    split
    · rename_i h
      rw [h, Nat.sub_self]
      exact ⟨Nat.le_refl _, fun x hx => by rw [List.mem_singleton.1 hx]; exact Nat.zero_le _⟩
    · rename_i h
      have key : ∀ d, d ≤ ptN l - 1 - i → (wayN l w i (wayF l w f) d).length + 1 ≤ 2 ^ d ∧ ∀ x ∈ wayN l w i (wayF l w f) d, x.length ≤ f + 1 := fun d => by
        induction d with
        | zero => intro _; exact ⟨Nat.le_refl _, fun x hx => by cases hx⟩
        | succ d ih =>
          intro hd
          obtain ⟨k1, k2⟩ := ih (by omega)
          obtain ⟨q1, q2⟩ := wayF_len (l := l) (w := w) f (ptN l - 1 - d) (by omega)
          rw [show ptN l - 1 - (ptN l - 1 - d) = d by omega] at q1
          rw [wayN, Nat.pow_succ]
          split
          · rw [List.length_append, List.length_map]
            refine ⟨by omega, fun x hx => ?_⟩
            rcases List.mem_append.1 hx with hx | hx
            · exact k2 x hx
            · obtain ⟨y, hy, rfl⟩ := List.mem_map.1 hx
              have := q2 y hy
              rw [List.length_cons]; omega
          · rw [List.append_nil]
            exact ⟨by omega, k2⟩
      have := key _ (Nat.le_refl _)
      exact ⟨by omega, this.2⟩
theorem wayF_fit {l : List Bx} {w : Int} : ∀ (f i : Nat), i ≤ ptN l - 1 → ∀ x ∈ wayF l w f i, Fit l w i x (ptN l - 1)
  | 0, i, _, x, hx => by cases hx
  | f + 1, i, hi, x, hx => by
    have hpos := ptN_pos l
    rw [wayF] at hx
    split at hx
    · rename_i h
      rw [List.mem_singleton.1 hx]
      exact h
    · rename_i h
      have key : ∀ d, d ≤ ptN l - 1 - i → ∀ x ∈ wayN l w i (wayF l w f) d, Fit l w i x (ptN l - 1) := fun d => by
        induction d with
        | zero => intro _ x hx; cases hx
        | succ d ih =>
          intro hd x hx
          rw [wayN] at hx
          rcases List.mem_append.1 hx with hx | hx
          · exact ih (by omega) x hx
          · split at hx
            · rename_i h2
              obtain ⟨y, hy, rfl⟩ := List.mem_map.1 hx
              exact ⟨by omega, by omega, h2, wayF_fit f _ (by omega) y hy⟩
            · cases hx
      exact key _ (Nat.le_refl _) x hx
/-! how many -/
/-! the first cheapest -/
def pick1 {α : Type} (c : α → Int) (x : α × Int) (d : α) : α × Int := if x.2 < 0 ∨ c d < x.2 then (d, c d) else x
def pickL {α : Type} (c : α → Int) (x : α × Int) (ds : List α) : α × Int := ds.foldl (pick1 c) x
theorem pickL_app {α : Type} (c : α → Int) (x : α × Int) (s t : List α) : pickL c x (s ++ t) = pickL c (pickL c x s) t := List.foldl_append
/-- Of ways that all begin alike. -/
theorem pickL_map {α : Type} {c c2 : α → Int} {g : α → α} {s : Int} (hs : 0 ≤ s) (hc : ∀ d, c (g d) = s + c2 d) : ∀ (ds : List α) (e : α) (x0 : α × Int), (∀ d ∈ ds, 0 ≤ c2 d) → -1 ≤ x0.2 →
    (pickL c2 (e, -1) ds).2 = -1 ∧ ds = [] ∧ pickL c x0 (ds.map g) = x0 ∨
      0 ≤ (pickL c2 (e, -1) ds).2 ∧ ds ≠ [] ∧ pickL c x0 (ds.map g) = if x0.2 < 0 ∨ s + (pickL c2 (e, -1) ds).2 < x0.2 then (g (pickL c2 (e, -1) ds).1, s + (pickL c2 (e, -1) ds).2) else x0 := by
  intro ds e x0 h h0
  -- at any state of the inner search
  have gen : ∀ (ds : List α) (y : α × Int) (x0 : α × Int), (∀ d ∈ ds, 0 ≤ c2 d) → 0 ≤ y.2 → -1 ≤ x0.2 → 0 ≤ (pickL c2 y ds).2 ∧
      pickL c (if x0.2 < 0 ∨ s + y.2 < x0.2 then (g y.1, s + y.2) else x0) (ds.map g) = if x0.2 < 0 ∨ s + (pickL c2 y ds).2 < x0.2 then (g (pickL c2 y ds).1, s + (pickL c2 y ds).2) else x0 := by
    intro ds
    induction ds with
    | nil => intro y x0 _ hy _; exact ⟨hy, rfl⟩
    | cons d ds ih =>
      intro y x0 hd hy hx
      have hd0 := hd d (List.mem_cons_self ..)
      have hrest := fun q hq => hd q (List.mem_cons_of_mem _ hq)
      show 0 ≤ (pickL c2 (pick1 c2 y d) ds).2 ∧ pickL c (pick1 c _ (g d)) (ds.map g) = if x0.2 < 0 ∨ s + (pickL c2 (pick1 c2 y d) ds).2 < x0.2 then (g (pickL c2 (pick1 c2 y d) ds).1, s + (pickL c2 (pick1 c2 y d) ds).2) else x0
      have hy2 : 0 ≤ (pick1 c2 y d).2 := by unfold pick1; split <;> assumption
      have := ih (pick1 c2 y d) x0 hrest hy2 hx
      refine ⟨this.1, ?_⟩
      rw [← this.2]
      congr 1
      unfold pick1
      rw [hc]
      by_cases h1 : x0.2 < 0 ∨ s + y.2 < x0.2
      · rw [if_pos h1]
        dsimp only
        by_cases h2 : c2 d < y.2
        · rw [if_pos (show s + y.2 < 0 ∨ s + c2 d < s + y.2 by omega), if_pos (show y.2 < 0 ∨ c2 d < y.2 by omega)]
          dsimp only
          rw [if_pos (by omega)]
        · rw [if_neg (show ¬ (s + y.2 < 0 ∨ s + c2 d < s + y.2) by omega), if_neg (show ¬ (y.2 < 0 ∨ c2 d < y.2) by omega), if_pos h1]
      · rw [if_neg h1]
        by_cases h2 : c2 d < y.2
        · rw [if_pos (show y.2 < 0 ∨ c2 d < y.2 by omega)]
        · rw [if_neg (show ¬ (y.2 < 0 ∨ c2 d < y.2) by omega), if_neg h1, if_neg (by omega)]
  cases ds with
  | nil => exact .inl ⟨rfl, rfl, rfl⟩
  | cons d ds =>
    have hd0 := h d (List.mem_cons_self ..)
    have h1 := gen ds (d, c2 d) x0 (fun q hq => h q (List.mem_cons_of_mem _ hq)) hd0 h0
    have e1 : pickL c2 (e, -1) (d :: ds) = pickL c2 (d, c2 d) ds := by
      show pickL c2 (pick1 c2 (e, -1) d) ds = _
      unfold pick1
      rw [if_pos (.inl (by show (-1 : Int) < 0; omega))]
    rw [e1]
    refine .inr ⟨h1.1, by simp, ?_⟩
    rw [← h1.2]
    show pickL c (pick1 c x0 (g d)) (ds.map g) = _
    unfold pick1
    rw [hc]
/-- The first cheapest way is the one that the search finds. -/
theorem pick_way {l : List Bx} {w pen : Int} (hb : boxesB l = true) (hp : 0 ≤ pen) : ∀ (f i : Nat), i ≤ ptN l - 1 → ptN l - 1 < f + i →
    ((bestP l w pen i).1 < 0 ∧ wayF l w f i = []) ∨ (0 ≤ (bestP l w pen i).1 ∧ pickL (costP l w pen i) ([], -1) (wayF l w f i) = (pathF (ptN l - 1) (nextL l w pen) f i, (bestP l w pen i).1))
  | 0, i, h1, h2 => by omega
  | f + 1, i, h1, h2 => by
    have hpos := ptN_pos l
    rw [wayF, pathF]
    by_cases hi : i = ptN l - 1
    · rw [if_pos hi, if_neg (by omega), hi, bestP_last]
      exact .inr ⟨Int.le_refl _, rfl⟩
    · rw [if_neg hi, if_pos (by omega), nextL_at]
      obtain ⟨s1, s2⟩ := bestP_spec (w := w) hb hp (show i < ptN l - 1 by omega)
      -- after the ends from the last one down
      have key : ∀ d, d ≤ ptN l - 1 - i →
          ((pickL (costP l w pen i) ([], -1) (wayN l w i (wayF l w f) d) = ([], -1) ∧ wayN l w i (wayF l w f) d = [] ∧ ∀ n, ptN l - 1 - d < n → n < ptN l → ¬ (lenP l i n ≤ w ∧ 0 ≤ (bestP l w pen n).1)) ∨
          (∃ n, ptN l - 1 - d < n ∧ n < ptN l ∧ lenP l i n ≤ w ∧ 0 ≤ (bestP l w pen n).1 ∧ pickL (costP l w pen i) ([], -1) (wayN l w i (wayF l w f) d) = (n :: pathF (ptN l - 1) (nextL l w pen) f n, stepC l w pen i n + (bestP l w pen n).1) ∧
            (∀ m, n < m → m < ptN l → lenP l i m ≤ w → 0 ≤ (bestP l w pen m).1 → (bestP l w pen n).1 + stepC l w pen i n < (bestP l w pen m).1 + stepC l w pen i m) ∧
            (∀ m, ptN l - 1 - d < m → m < n → lenP l i m ≤ w → 0 ≤ (bestP l w pen m).1 → (bestP l w pen n).1 + stepC l w pen i n ≤ (bestP l w pen m).1 + stepC l w pen i m))) := fun d => by
        induction d with
        | zero => intro _; exact .inl ⟨rfl, rfl, fun n h1 h2 => by omega⟩
        | succ d ih =>
          intro hd
          have ih := ih (by omega)
          rw [wayN, pickL_app]
          obtain ⟨k, hk⟩ : ∃ k, k = ptN l - 1 - d := ⟨_, rfl⟩
          rw [← hk] at ih ⊢
          have hkk : ptN l - 1 - (d + 1) + 1 = k := by omega
          by_cases hf : lenP l i k ≤ w
          · rw [if_pos hf]
            have hrec := pick_way hb hp f k (by omega) (by omega) (w := w)
            have hst := stepC_nonneg (l := l) (w := w) (a := i) (k := k) hp
            have hx0 : -1 ≤ (pickL (costP l w pen i) ([], -1) (wayN l w i (wayF l w f) d)).2 := by
              rcases ih with ⟨q, _⟩ | ⟨n, _, _, _, q4, q, _⟩
              · rw [q]; exact Int.le_refl _
              · rw [q]
                have := stepC_nonneg (l := l) (w := w) (a := i) (k := n) hp
                dsimp only; omega
            have hm := pickL_map (c := costP l w pen i) (c2 := costP l w pen k) (g := fun x => k :: x) hst (fun d => rfl) (wayF l w f k) [] (pickL (costP l w pen i) ([], -1) (wayN l w i (wayF l w f) d)) (fun x _ => costP_nonneg hp) hx0
            rcases hrec with ⟨r1, r2⟩ | ⟨r1, r2⟩
            · rw [r2, List.map_nil, List.append_nil]
              show _ ∨ _
              rcases ih with ⟨q1, q2, q3⟩ | ⟨n, n1, n2, n3, n4, n5, n6, n7⟩
              · refine .inl ⟨q1, q2, fun n h1 h2 => ?_⟩
                rcases Nat.lt_or_ge k n with h3 | h3
                · exact q3 n h3 h2
                · obtain rfl : n = k := by omega
                  exact fun h => by omega
              · refine .inr ⟨n, by omega, n2, n3, n4, n5, n6, fun m m1 m2 m3 m4 => ?_⟩
                rcases Nat.lt_or_ge k m with h3 | h3
                · exact n7 m h3 m2 m3 m4
                · obtain rfl : m = k := by omega
                  omega
            · rw [r2] at hm
              rcases hm with ⟨m1, _, _⟩ | ⟨m1, m2, m3⟩
              · dsimp only at m1; omega
              · dsimp only at m1 m3
                rw [m3]
                rcases ih with ⟨q1, q2, q3⟩ | ⟨n, n1, n2, n3, n4, n5, n6, n7⟩
                · rw [q1]
                  refine .inr ⟨k, by omega, by omega, hf, r1, ?_, fun m h1 h2 h3 h4 => absurd ⟨h3, h4⟩ (q3 m h1 h2), fun m h1 h2 => by omega⟩
                  rw [if_pos (.inl (by show (-1 : Int) < 0; omega))]
                · rw [n5]
                  dsimp only
                  have hsn := stepC_nonneg (l := l) (w := w) (a := i) (k := n) hp
                  by_cases hlt : stepC l w pen i k + (bestP l w pen k).1 < stepC l w pen i n + (bestP l w pen n).1
                  · rw [if_pos (.inr hlt)]
                    refine .inr ⟨k, by omega, by omega, hf, r1, rfl, fun m h1 h2 h3 h4 => ?_, fun m h1 h2 => by omega⟩
                    rcases Nat.lt_or_ge n m with h5 | h5
                    · have := n6 m h5 h2 h3 h4; omega
                    · rcases Nat.lt_or_ge m n with h6 | h6
                      · have := n7 m h1 h6 h3 h4; omega
                      · obtain rfl : m = n := by omega
                        omega
                  · rw [if_neg (by omega)]
                    refine .inr ⟨n, by omega, n2, n3, n4, rfl, n6, fun m h1 h2 h3 h4 => ?_⟩
                    rcases Nat.lt_or_ge k m with h5 | h5
                    · exact n7 m h5 h2 h3 h4
                    · obtain rfl : m = k := by omega
                      omega
          · rw [if_neg hf, List.append_nil]
            show _ ∨ _
            rcases ih with ⟨q1, q2, q3⟩ | ⟨n, n1, n2, n3, n4, n5, n6, n7⟩
            · refine .inl ⟨q1, q2, fun n h1 h2 => ?_⟩
              rcases Nat.lt_or_ge k n with h3 | h3
              · exact q3 n h3 h2
              · obtain rfl : n = k := by omega
                exact fun h => hf h.1
            · refine .inr ⟨n, by omega, n2, n3, n4, n5, n6, fun m m1 m2 m3 m4 => ?_⟩
              rcases Nat.lt_or_ge k m with h3 | h3
              · exact n7 m h3 m2 m3 m4
              · obtain rfl : m = k := by omega
                exact absurd m3 hf
      rcases key (ptN l - 1 - i) (Nat.le_refl _) with ⟨q1, q2, q3⟩ | ⟨n, n1, n2, n3, n4, n5, n6, n7⟩
      · refine .inl ⟨?_, q2⟩
        rcases Int.lt_or_le (bestP l w pen i).1 0 with h3 | h3
        · exact h3
        · obtain ⟨n, n1, n2, n3, _, n5, _⟩ := s2 h3
          exact absurd ⟨n3, n5⟩ (q3 n (by omega) n2)
      · have hin : i < n := by omega
        have h5 := s1 n hin n2 n3 n4
        obtain ⟨m, m1, m2, m3, m4, m5, m6, m7⟩ := s2 h5.1
        have hmn : m = n := by
          rcases Nat.lt_trichotomy m n with h6 | h6 | h6
          · have h7 := m7 n h6 n2 n3 n4
            have h8 := n7 m (by omega) h6 m3 m5
            omega
          · exact h6
          · have h7 := n6 m h6 m2 m3 m5
            omega
        subst hmn
        refine .inr ⟨h5.1, ?_⟩
        rw [n5, m4, Int.toNat_natCast, m6, Int.add_comm]
end Go.GH
namespace Go.GH
open Go Go.Lib
theorem costAt_succ (ln : Ln) (l : List Ln) (w p : Int) (k : Nat) : costAt (ln :: l) w p (k + 1) = costAt l w p k := by
  unfold costAt lnAt
  rw [List.length_cons, List.getD_cons_succ]
  congr 1
  by_cases h : k + 1 < l.length
  · rw [if_pos h, if_pos (by omega)]
  · rw [if_neg h, if_neg (by omega)]
theorem sumK_succ (ln : Ln) (l : List Ln) (w p : Int) : ∀ k, sumK (ln :: l) w p (k + 1) = costAt (ln :: l) w p 0 + sumK l w p k
  | 0 => by show 0 + costAt _ _ _ 0 = costAt _ _ _ 0 + 0; omega
  | k + 1 => by
    have ih := sumK_succ ln l w p k
    rw [sumK, ih, costAt_succ, sumK]; omega
theorem sumL_cons (ln : Ln) (l : List Ln) (w p : Int) : sumL (ln :: l) w p = ((if 0 < l.length then freeL w ln * freeL w ln else 0) + if ln.hyph then p else 0) + sumL l w p := by
  unfold sumL
  rw [List.length_cons, sumK_succ]
  congr 1
  unfold costAt lnAt
  rw [List.length_cons, List.getD_cons_zero]
  congr 1
  by_cases h : 0 < l.length
  · rw [if_pos h, if_pos (by omega)]
  · rw [if_neg h, if_neg (by omega)]
theorem way_sum {l : List Bx} {w pen : Int} (hb : boxesB l = true) : ∀ {i : Nat} {ks : List Nat}, Fit l w i ks (ptN l - 1) → sumL (linesOf l i ks) w pen = costP l w pen i ks
  | _, [], _ => rfl
  | i, k :: ks, ⟨h1, h2, h3, h4⟩ => by
    have ih := way_sum hb (pen := pen) h4
    show sumL (lineP l i k :: linesOf l k ks) w pen = stepC l w pen i k + costP l w pen k ks
    rw [sumL_cons, ih, linesOf_len, free_line hb h1 h2]
    have e : (lineP l i k).hyph = hyP l k := rfl
    rw [e]
    unfold stepC
    have hk : 0 < ks.length ↔ k < ptN l - 1 := by
      cases ks with
      | nil => have h5 : k = ptN l - 1 := h4; simp; omega
      | cons q qs => have h5 := h4.2.2.2.le; have h6 := h4.1; simp; omega
    by_cases h5 : 0 < ks.length
    · rw [if_pos h5, if_pos (hk.1 h5)]
    · rw [if_neg h5, if_neg (fun h => h5 (hk.2 h))]
theorem way_ok {l : List Bx} {w : Int} (hb : boxesB l = true) : ∀ {i z : Nat} {ks : List Nat}, Fit l w i ks z → ∀ x ∈ linesOf l i ks, LnOK x
  | _, _, [], _, x, hx => by cases hx
  | i, z, k :: ks, ⟨h1, h2, h3, h4⟩, x, hx => by
    rcases List.mem_cons.1 hx with rfl | hx
    · exact line_ok hb h1 h2
    · exact way_ok hb h4 x hx
theorem cnt_pts {l : List Bx} : ∀ k, k ≤ l.length → (ptsF (l.take k)).length + 1 = cntB (l.take k)
  | 0, _ => by rw [List.take_zero]; rfl
  | k + 1, hk => by
    have ih := cnt_pts k (by omega) (l := l)
    rw [ptsF_take (by omega), cntB_take (by omega), List.length_append, List.length_cons, List.length_map]
    omega
theorem ptN_cnt (l : List Bx) : ptN l = cntB l := by
  have h := cnt_pts l.length (Nat.le_refl _) (l := l)
  rw [List.take_length] at h
  rw [ptN_eq, pointsL, List.length_append, List.length_singleton, h]
theorem divsR_bound {l : List Bx} {w : Int} (h : ptN l ≤ 11) {i : Nat} (hi : i ≤ ptN l - 1) : (divsR l w i).length ≤ 1024 ∧ ∀ x ∈ divsR l w i, x.length ≤ 11 := by
  have h1 := wayF_len (l := l) (w := w) (ptN l) i hi
  have h2 : 2 ^ (ptN l - 1 - i) ≤ 2 ^ 10 := Nat.pow_le_pow_right (by omega) (by omega)
  unfold divsR
  rw [List.length_map]
  refine ⟨by omega, fun x hx => ?_⟩
  obtain ⟨y, hy, rfl⟩ := List.mem_map.1 hx
  rw [linesOf_len]
  have := h1.2 y hy
  omega
theorem divN_bound {l : List Bx} {w : Int} {i : Nat} {D : Nat → List (List Ln)} (h : ∀ n, (D n).length ≤ 100000) : ∀ d, (divN l w i D d).length ≤ 100000 * d
  | 0 => Nat.zero_le _
  | d + 1 => by
    have ih := divN_bound h d (l := l) (w := w) (i := i)
    have := h (ptN l - 1 - d)
    rw [divN, List.length_append]
    split
    · rw [List.length_map]; omega
    · rw [List.length_nil]; omega
theorem divN_congr {l : List Bx} {w : Int} {i : Nat} {D E : Nat → List (List Ln)} (h : ∀ n, n ≤ ptN l - 1 → D n = E n) : ∀ d, divN l w i D d = divN l w i E d
  | 0 => rfl
  | d + 1 => by rw [divN, divN, divN_congr h d, h _ (Nat.sub_le _ _)]
theorem divsR_step {l : List Bx} {w : Int} {i : Nat} (hi : i < ptN l - 1) : divsR l w i = divN l w i (divsR l w) (ptN l - 1 - i) := by
  have hpos := ptN_pos l
  unfold divsR
  rw [divN_way]
  congr 1
  obtain ⟨f, hf⟩ : ∃ f, ptN l = f + 1 := ⟨ptN l - 1, by omega⟩
  rw [show wayF l w (ptN l) i = wayF l w (f + 1) i by rw [hf], wayF, if_neg (by omega)]
  have key : ∀ d, d ≤ ptN l - 1 - i → wayN l w i (wayF l w f) d = wayN l w i (wayF l w (ptN l)) d := fun d => by
    induction d with
    | zero => intro _; rfl
    | succ d ih =>
      intro hd
      rw [wayN, wayN, ih (by omega), wayF_fuel f (ptN l) (ptN l - 1 - d) (by omega) (by omega) (by omega)]
  exact key _ (Nat.le_refl _)
theorem divsR_last {l : List Bx} {w : Int} : divsR l w (ptN l - 1) = [[]] := by
  have hpos := ptN_pos l
  obtain ⟨f, hf⟩ : ∃ f, ptN l = f + 1 := ⟨ptN l - 1, by omega⟩
  unfold divsR
  rw [show wayF l w (ptN l) (ptN l - 1) = wayF l w (f + 1) (ptN l - 1) by rw [hf], wayF, if_pos rfl]
  rfl
def endK : Nat → List Nat → Nat
  | a, [] => a
  | _, k :: ks => endK k ks
def encDv (x : List Ln) : List DV := [DLns x]
abbrev DDs (xs : List (List Ln)) : DV := .isl false 1 (xs.map encDv)
/-- What the reference's search through all divisions keeps. -/
def keepR (w pen : Int) (xs : List (List Ln)) : List Ln × Int := pickL (fun d => sumL d w pen) ([], -1) xs
theorem keep_way {l : List Bx} {w pen : Int} (hb : boxesB l = true) : ∀ (xs : List (List Nat)) (x : List Nat × Int), (∀ y ∈ xs, Fit l w 0 y (ptN l - 1)) → pickL (fun d => sumL d w pen) (linesOf l 0 x.1, x.2) (xs.map (linesOf l 0)) = (linesOf l 0 (pickL (costP l w pen 0) x xs).1, (pickL (costP l w pen 0) x xs).2)
  | [], x, _ => rfl
  | y :: xs, x, h => by
    have hy := way_sum (pen := pen) hb (h y (List.mem_cons_self ..))
    have ih := keep_way (pen := pen) hb xs (pick1 (costP l w pen 0) x y) (fun q hq => h q (List.mem_cons_of_mem _ hq))
    show pickL _ (pick1 _ (linesOf l 0 x.1, x.2) (linesOf l 0 y)) (xs.map (linesOf l 0)) = _
    have e : pick1 (fun d => sumL d w pen) (linesOf l 0 x.1, x.2) (linesOf l 0 y) = (linesOf l 0 (pick1 (costP l w pen 0) x y).1, (pick1 (costP l w pen 0) x y).2) := by
      show (if x.2 < 0 ∨ sumL (linesOf l 0 y) w pen < x.2 then (linesOf l 0 y, sumL (linesOf l 0 y) w pen) else (linesOf l 0 x.1, x.2)) = _
      simp only [hy]
      unfold pick1
      split <;> rfl
    rw [e, ih]; rfl
theorem lines_keep {l : List Bx} {w pen : Int} (hv : validL l w = true) (hp : penB pen = true) : linesR l w pen = if (keepR w pen (divsR l w 0)).2 < 0 then ([], 0, 2) else ((keepR w pen (divsR l w 0)).1, (keepR w pen (divsR l w 0)).2, 0) := by
  have hb := (valid_of hv).2
  have hp0 := (penB_iff.1 hp).1
  have hpos := ptN_pos l
  have hk := keep_way (pen := pen) hb (wayF l w (ptN l) 0) ([], -1) (fun y hy => wayF_fit _ _ (Nat.zero_le _) y hy)
  have hke : keepR w pen (divsR l w 0) = (linesOf l 0 (pickL (costP l w pen 0) ([], -1) (wayF l w (ptN l) 0)).1, (pickL (costP l w pen 0) ([], -1) (wayF l w (ptN l) 0)).2) := hk
  have hbp : ((bstL l w pen (ptN l - 1)).getD 0 (0, 0)).1 = (bestP l w pen 0).1 := rfl
  unfold linesR
  rw [if_pos (by rw [hv, hp]; rfl), hbp, hke]
  rcases pick_way (w := w) hb hp0 (ptN l) 0 (Nat.zero_le _) (by omega) with ⟨h1, h2⟩ | ⟨h1, h2⟩
  · rw [if_pos h1, h2]
    rw [if_pos (by show (-1 : Int) < 0; omega)]
  · rw [if_neg (by omega), h2]
    dsimp only
    rw [if_neg (by omega)]
    rfl
end Go.GH
namespace Go.GH
open Go Go.Lib
/-! nothing runs over -/
end Go.GH
namespace Go.GH
open Go Go.Lib
/-! along a way -/
theorem Fit.at {l : List Bx} {w : Int} : ∀ {a z : Nat} {ks : List Nat}, Fit l w a ks z → ∀ i, i < ks.length → endK a (ks.take i) < ks.getD i 0 ∧ ks.getD i 0 < ptN l ∧ lenP l (endK a (ks.take i)) (ks.getD i 0) ≤ w ∧ ks.getD i 0 ≤ z ∧ (i + 1 < ks.length → ks.getD i 0 < z)
  | a, z, k :: ks, ⟨h1, h2, h3, h4⟩, 0, _ => ⟨h1, h2, h3, h4.le, fun h => by
      show k < z
      cases ks with
      | nil => simp at h
      | cons q qs => have := h4.1; have := h4.2.2.2.le; omega⟩
  | a, z, k :: ks, ⟨h1, h2, h3, h4⟩, i + 1, hi => by
    have := h4.at i (by simpa using hi)
    exact ⟨this.1, this.2.1, this.2.2.1, this.2.2.2.1, fun h => this.2.2.2.2 (by simpa using h)⟩
end Go.GH
namespace Go.GH
open Go Go.Lib
theorem many_pts {l : List Bx} (h : manyB l = false) : ptN l ≤ 841 := by
  obtain ⟨h1, h2⟩ := many_ok h
  rw [ptN_cnt]
  have key : ∀ l : List Bx, (∀ x ∈ l, x.pts.length ≤ 20) → (l.map (fun b => 1 + b.pts.length)).sum ≤ 21 * l.length := fun l => by
    induction l with
    | nil => intro _; exact Nat.le_refl _
    | cons b l ih =>
      intro hx
      have := ih (fun x hx' => hx x (List.mem_cons_of_mem _ hx'))
      have := hx b (List.mem_cons_self ..)
      rw [List.map_cons, List.sum_cons, List.length_cons]; omega
  have := key l (fun x hx => (h2 x hx).2)
  unfold cntB
  omega
theorem Fit.small {l : List Bx} {w : Int} (h : manyB l = false) {ks : List Nat} (hf : Fit l w 0 ks (ptN l - 1)) : ks.length ≤ 840 := by
  have := hf.len
  have := many_pts h
  omega
end Go.GH
namespace Go.GH
open Go Go.Lib
theorem prpW {s : ByteArray} (h : wordB s = true) : Prp s := (utf8R_iff s).1 (wordB_iff.1 h).2.1
theorem blB_next (n : Nat) : blB (n + 1) = blB n ++ sp1 := by
  apply ByteArray.ext
  apply Array.toList_inj.1
  rw [ByteArray.data_append, Array.toList_append]
  show List.replicate (n + 1) 32 = List.replicate n 32 ++ [32]
  rw [List.replicate_succ']
theorem prp_bl : ∀ n, Prp (blB n) ∧ wlen (blB n) = n
  | 0 => ⟨by unfold Prp; decide +kernel, by decide +kernel⟩
  | n + 1 => by
    obtain ⟨h1, h2⟩ := prp_bl n
    rw [blB_next]
    exact ⟨(prp_app h1 prp_sp1.1).2, by rw [wlen_app h1 prp_sp1.1, h2, prp_sp1.2]⟩
theorem prp_empty : Prp ByteArray.empty ∧ wlen ByteArray.empty = 0 := ⟨by unfold Prp; decide +kernel, by decide +kernel⟩
def sumT (ws : List ByteArray) (k : Nat) : Nat := ((ws.take k).map wlen).sum
theorem sumT_next {ws : List ByteArray} {k : Nat} (h : k < ws.length) : sumT ws (k + 1) = sumT ws k + wlen (ws.getD k .empty) := by
  unfold sumT
  rw [List.take_add_one, List.getElem?_eq_getElem h, List.map_append, List.sum_append, getD_w h]
  simp
theorem sumT_all (ws : List ByteArray) : sumW ws = sumT ws ws.length + ws.length := by
  unfold sumT sumW
  rw [List.take_length]
  induction ws with
  | nil => rfl
  | cons w ws ih => simp only [List.map_cons, List.sum_cons, List.length_cons]; omega
theorem sprK_len {ws : List ByteArray} {g m : Nat} (hw : ∀ w ∈ ws, Prp w) (hg : g < ws.length) : ∀ k, k ≤ g → Prp (sprK ws g m k) ∧ wlen (sprK ws g m k) = sumT ws k + k * (1 + m / g) + min k (m % g)
  | 0, _ => ⟨prp_empty.1, by rw [sprK, prp_empty.2]; simp [sumT]⟩
  | k + 1, hk => by
    obtain ⟨h1, h2⟩ := sprK_len hw hg k (by omega)
    have hkl : k < ws.length := by omega
    have hpw : Prp (ws.getD k .empty) := by rw [getD_w hkl]; exact hw _ (List.getElem_mem hkl)
    obtain ⟨b1, b2⟩ := prp_bl (gapN m g k)
    have a1 := (prp_app h1 hpw).2
    rw [sprK, if_pos (by omega)]
    refine ⟨(prp_app a1 b1).2, ?_⟩
    rw [wlen_app a1 b1, wlen_app h1 hpw, b2, h2, sumT_next hkl, Nat.succ_mul]
    unfold gapN
    split <;> omega
theorem sprL_len {ln : Ln} {m : Nat} (hw : ∀ w ∈ ln.words, Prp w) (h2 : 2 ≤ ln.words.length) : wlen (sprL ln m) + 1 = sumW ln.words + m + if ln.hyph then 1 else 0 := by
  obtain ⟨g, hg⟩ : ∃ g, ln.words.length = g + 1 := ⟨ln.words.length - 1, by omega⟩
  obtain ⟨h1, h3⟩ := sprK_len (m := m) hw (show g < ln.words.length by omega) g (Nat.le_refl _)
  have hpw : Prp (ln.words.getD g .empty) := by rw [getD_w (by omega)]; exact hw _ (List.getElem_mem (by omega))
  have e : sprK ln.words (ln.words.length - 1) m ln.words.length = sprK ln.words g m g ++ ln.words.getD g .empty := by
    rw [hg, Nat.add_sub_cancel, sprK, if_neg (Nat.lt_irrefl _)]
  have hdm := Nat.div_add_mod m g
  have hml : m % g < g := Nat.mod_lt _ (by omega)
  have hk := sumT_all ln.words
  rw [hg, sumT_next (by omega)] at hk
  have hmul : g * (1 + m / g) = g + g * (m / g) := by rw [Nat.mul_add, Nat.mul_one]
  have h4 : wlen (sprK ln.words g m g ++ ln.words.getD g .empty) + 1 = sumW ln.words + m := by
    rw [wlen_app h1 hpw, h3, hmul, Nat.min_eq_right (by omega)]
    omega
  unfold sprL
  rw [e]
  split
  · rw [wlen_app (prp_app h1 hpw).2 prp_hy1.1, prp_hy1.2]; omega
  · omega
theorem spread_ok {ln : Ln} {w : Int} {last : Bool} (hwd : wideB w = true) (hp : prB ln = true) (hle : (wlen (textL ln) : Int) ≤ w) : (spreadR ln w last).2 = 0 ∧ (wlen (spreadR ln w last).1 : Int) = w := by
  have hgood : (wideB w && prB ln) = true := by rw [hwd, hp]; rfl
  obtain ⟨hp1, hp2⟩ := prB_iff.1 hp
  have hpw : ∀ x ∈ ln.words, Prp x := fun x hx => prpW (hp2 x hx)
  have hne : ln.words ≠ [] := List.length_pos_iff.1 hp1
  have htl := textL_len hne hpw
  obtain ⟨m, hm⟩ : ∃ m : Nat, w - (wlen (textL ln) : Int) = (m : Int) := ⟨(w - (wlen (textL ln) : Int)).toNat, by omega⟩
  by_cases hc : last = true ∨ ln.words.length = 1
  · rw [spread_last hgood hm hc]
    refine ⟨rfl, ?_⟩
    have hpt : Prp (textL ln) := by
      unfold textL
      split
      · exact (prp_app (catW_len hne hpw).2 prp_hy1.1).2
      · exact (catW_len hne hpw).2
    obtain ⟨b1, b2⟩ := prp_bl m
    show ((wlen (textL ln ++ blB m) : Nat) : Int) = w
    rw [wlen_app hpt b1, b2]
    omega
  · have hl : last = false := by cases last with | true => exact absurd (.inl rfl) hc | false => rfl
    have h1 : ¬ ln.words.length = 1 := fun e => hc (.inr e)
    rw [spread_gaps hgood hm hl h1]
    refine ⟨rfl, ?_⟩
    have := sprL_len (m := m) hpw (by omega)
    show ((wlen (sprL ln m) : Nat) : Int) = w
    omega
theorem linesOf_good {l : List Bx} {w : Int} (hb : boxesB l = true) : ∀ {a z : Nat} {ks : List Nat}, Fit l w a ks z → ∀ ln ∈ linesOf l a ks, prB ln = true ∧ (wlen (textL ln) : Int) ≤ w
  | _, _, [], _, ln, h => by cases h
  | a, z, k :: ks, ⟨h1, h2, h3, h4⟩, ln, h => by
    rcases List.mem_cons.1 h with rfl | h
    · obtain ⟨g1, g2⟩ := line_gd hb h1 h2
      exact ⟨prB_iff.2 ⟨List.length_pos_iff.2 g1, fun s hs => ((g2 s hs).word hb).1⟩, by rw [line_len hb h1 h2]; exact h3⟩
    · exact linesOf_good hb h4 ln h
theorem lines_good {l : List Bx} {w pen : Int} : ∀ ln ∈ (linesR l w pen).1, wideB w = true ∧ prB ln = true ∧ (wlen (textL ln) : Int) ≤ w ∧ LnOK ln := fun ln hln => by
  by_cases hv : validL l w = true
  · by_cases hp : penB pen = true
    · have hb := (valid_of hv).2
      rcases linesR_ok hv hp with ⟨_, _, ks, hf, e, _⟩ | ⟨_, _, _, e⟩
      · rw [e] at hln
        have := linesOf_good hb hf ln hln
        exact ⟨wideX_iff.2 (valid_of hv).1, this.1, this.2, way_ok hb hf ln hln⟩
      · rw [e] at hln; cases hln
    · unfold linesR at hln
      rw [if_neg (by simp [hp])] at hln
      cases hln
  · unfold linesR at hln
    rw [if_neg (by simp [hv])] at hln
    cases hln
end Go.GH
namespace Go.GH
open Go Go.Proofs
variable {E : Env}
theorem fieldB_113_0_0 : fieldB Tryz.prog 113 0 0 = true := by kernel_rfl
theorem fieldB_113_1_1 : fieldB Tryz.prog 113 1 1 = true := by kernel_rfl
theorem qBetween0 (l : List Bx) (pa pb : Nat × Int) (hb : boxesB l = true) (ha : PtOK l pa) (hbo : PtOK l pb ∨ pb = (l.length, 0)) : GCall Tryz.prog E 119 [DBxs l, .agg (encK pa), .agg (encK pb)] [] (fun d H => d = .agg (encLn ⟨btwN l pa pb (btwL l pa pb), decide (0 < pb.2)⟩)) := by
 obtain ⟨ha1, ha2, ha3⟩ := ha
 have hbn := bnds_of hb
 have hbl : pb.1 ≤ l.length ∧ 0 ≤ pb.2 := by rcases hbo with h | h; exact ⟨Nat.le_of_lt h.1, h.2.1⟩; rw [h]; exact ⟨Nat.le_refl _, Int.le_refl _⟩
 have hb2 : pb.1 < l.length → pb.2 ≤ ((wAt l pb.1).length : Int) := fun h3 => by rcases hbo with h | h; exact Int.le_of_lt h.2.2; rw [h] at h3; exact absurd h3 (Nat.lt_irrefl _)
 have hln := hbn.len
 have hbtl : ∀ j, (btwN l pa pb j).length ≤ j := btwN_len l pa pb
 refine GCall.body (C := ⟨Tryz.prog, E, true⟩) Tryz.func119 rfl (fun _ => rfl) (by kernel_rfl) rfl ?_
 refine SCode.seqR (SOps.boxAM rfl rfl (SOps.boxAM rfl rfl ?_))
 refine SOps.alloc (sz := 2) zeroIs_24 (fun b0 hb_0 => ?_)
 refine SOps.nil (SCode.seqR ?_)
 refine SOps.alloc (sz := 2) zeroIs_24 (fun b9 hb_9 => ?_)
 refine SOps.swap01 (SOps.nil (SCode.seq (SCode.seqR (SOps.fieldPin rfl fieldB_113_0_0 (SOps.loadPin rfl flatB_3 (SOps.assign rfl (SOps.nil (SCode.block (SCode.loop2 (fun (j : Nat) (kw : Nat) => (⟨64, [(0, DBxs l), (4, .ipin (encK pa)), (5, .ipin (encK pb)), (6, .ref b0 0), (7, .ref b9 0), (8, .v (.int .i64 (((pa.1 + j) : Nat) : Int)))], [(b0, DO.row 24 2 [[.v (.slice none 0 0), .v (.bool false)]])] ++ (((b9, DO.row 24 2 [[accD 1 kw ((btwN l pa pb j).map encS), .v (.bool false)]]) :: accH 9 1 kw ((btwN l pa pb j).map encS)) ++ [])⟩ : St)) (fun (j : Nat) (kw : Nat) => j ≤ btwL l pa pb) (fun (j : Nat) (kw : Nat) => l.length + 1 - j) (0) (0) (by exact Nat.zero_le _) (St.Le.of ⟨rfl, rfl, rfl, rfl, rfl, rfl, trivial⟩ rfl rfl) ?_)))))))))
 rintro j kw hjn
 refine SCode.seq (SCode.seqR (SOps.move rfl (SOps.fieldPin rfl fieldB_113_0_0 (SOps.loadPin rfl flatB_3 (SOps.bin rfl rfl rfl (SOps.move rfl ?_))))))
 refine SOps.caseB 18 rfl (fun hb1 => ?_) (fun hb1 => ?_)
 ·try simp only [nmL] at hb1
  refine SOps.move rfl (SOps.move rfl (SOps.lenM rfl sliceB_33_111_2 (SOps.bin rfl rfl rfl (SOps.pick rfl rfl (SOps.nil ?_)))))
  refine SCode.cond rfl (fun hc2 => ?_) (fun hc2 => ?_)
  ·try simp only [nmL] at hc2
   refine SCode.skip ?_
   show SCode _ _ _ _
   refine SCode.seq (SCode.block (SCode.seqR (SOps.move rfl (SOps.move rfl (SOps.indexM ((pa.1 + j)) rfl rfl sliceB_33_111_2 (by omega) (by omega) (SOps.fieldPin rfl fieldB_111_0_0 (SOps.loadPin rfl flatB_9 (SOps.runesF rfl rfl strB_9 sliceB_94_21_1 intB_21_i32 (SOps.assign rfl (SOps.nil (SCode.seqR ?_)))))))))))
   have hul : pa.1 + j < l.length := by omega
   have hwl := hbn.wlen _ (List.getElem_mem hul)
   have hwe := wAt_lt hul
   have hwl2 : (wAt l (pa.1 + j)).length ≤ 200 := by rw [hwe]; exact hwl
   refine SOps.reSlot (t := 9) rfl (show _ = DRunes (wAt l (pa.1 + j)) by rw [hwe] <;> rfl) (SOps.move rfl (SOps.lenM rfl sliceB_94_21_1 (SOps.assign rfl (SOps.assign rfl (SOps.nil ?_)))))
   refine SCode.seqJ (fun (_ : Nat) => (⟨64, [(0, DBxs l), (4, .ipin (encK pa)), (5, .ipin (encK pb)), (6, .ref b0 0), (7, .ref b9 0), (8, .v (.int .i64 (((pa.1 + j) : Nat) : Int))), (9, DRunes (wAt l (pa.1 + j))), (10, .v (.int .i64 (if pa.1 + j = pa.1 then pa.2 else 0))), (11, .v (.int .i64 (((wAt l (pa.1 + j)).length : Nat) : Int)))], [(b0, DO.row 24 2 [[.v (.slice none 0 0), .v (.bool false)]])] ++ (((b9, DO.row 24 2 [[accD 1 kw ((btwN l pa pb j).map encS), .v (.bool false)]]) :: accH 9 1 kw ((btwN l pa pb j).map encS)) ++ [])⟩ : St)) ?_ ?_
   ·refine SCode.seqR (SOps.move rfl (SOps.fieldPin rfl fieldB_113_0_0 (SOps.loadPin rfl flatB_3 (SOps.bin rfl rfl rfl (SOps.nil ?_)))))
    refine SCode.cond rfl (fun hc3 => ?_) (fun hc3 => ?_)
    ·try simp only [nmL] at hc3
     refine SCode.region (SOps.fieldPin rfl fieldB_113_1_1 (SOps.loadPin rfl flatB_3 (SOps.assign rfl (SOps.nil ?_))))
     first
      | exact ⟨0, St.Le.of ⟨rfl, rfl, rfl, rfl, rfl, rfl, rfl, (congrArg (fun z => some (DV.v (.int .i64 z))) (if_pos (by omega)).symm), rfl, trivial⟩⟩
      | exact ⟨0, St.Le.of ⟨rfl, rfl, rfl, rfl, rfl, rfl, rfl, (congrArg (fun z => some (DV.v (.int .i64 z))) (if_neg (by omega)).symm), rfl, trivial⟩⟩
    ·try simp only [nmL] at hc3
     refine SCode.skip ?_
     first
      | exact ⟨0, St.Le.of ⟨rfl, rfl, rfl, rfl, rfl, rfl, rfl, (congrArg (fun z => some (DV.v (.int .i64 z))) (if_pos (by omega)).symm), rfl, trivial⟩⟩
      | exact ⟨0, St.Le.of ⟨rfl, rfl, rfl, rfl, rfl, rfl, rfl, (congrArg (fun z => some (DV.v (.int .i64 z))) (if_neg (by omega)).symm), rfl, trivial⟩⟩
   ·intro _
    refine SCode.seqJ (fun (_ : Nat) => (⟨64, [(0, DBxs l), (4, .ipin (encK pa)), (5, .ipin (encK pb)), (6, .ref b0 0), (7, .ref b9 0), (8, .v (.int .i64 (((pa.1 + j) : Nat) : Int))), (9, DRunes (wAt l (pa.1 + j))), (10, .v (.int .i64 (if pa.1 + j = pa.1 then pa.2 else 0))), (11, .v (.int .i64 (if pa.1 + j = pb.1 then pb.2 else ((wAt l (pa.1 + j)).length : Int))))], [(b0, DO.row 24 2 [[.v (.slice none 0 0), .v (.bool false)]])] ++ (((b9, DO.row 24 2 [[accD 1 kw ((btwN l pa pb j).map encS), .v (.bool false)]]) :: accH 9 1 kw ((btwN l pa pb j).map encS)) ++ [])⟩ : St)) ?_ ?_
    ·refine SCode.seqR (SOps.move rfl (SOps.fieldPin rfl fieldB_113_0_0 (SOps.loadPin rfl flatB_3 (SOps.bin rfl rfl rfl (SOps.nil ?_)))))
     refine SCode.cond rfl (fun hc4 => ?_) (fun hc4 => ?_)
     ·try simp only [nmL] at hc4
      refine SCode.region (SOps.fieldPin rfl fieldB_113_1_1 (SOps.loadPin rfl flatB_3 (SOps.assign rfl (SOps.nil ?_))))
      first
       | exact ⟨0, St.Le.of ⟨rfl, rfl, rfl, rfl, rfl, rfl, rfl, rfl, (congrArg (fun z => some (DV.v (.int .i64 z))) (if_pos (by omega)).symm), trivial⟩⟩
       | exact ⟨0, St.Le.of ⟨rfl, rfl, rfl, rfl, rfl, rfl, rfl, rfl, (congrArg (fun z => some (DV.v (.int .i64 z))) (if_neg (by omega)).symm), trivial⟩⟩
     ·try simp only [nmL] at hc4
      refine SCode.skip ?_
      first
       | exact ⟨0, St.Le.of ⟨rfl, rfl, rfl, rfl, rfl, rfl, rfl, rfl, (congrArg (fun z => some (DV.v (.int .i64 z))) (if_pos (by omega)).symm), trivial⟩⟩
       | exact ⟨0, St.Le.of ⟨rfl, rfl, rfl, rfl, rfl, rfl, rfl, rfl, (congrArg (fun z => some (DV.v (.int .i64 z))) (if_neg (by omega)).symm), trivial⟩⟩
    ·intro _
     refine SCode.seqR ?_
     have hfr0 : 0 ≤ (if pa.1 + j = pa.1 then pa.2 else 0) := by split <;> omega
     have hto0 : (if pa.1 + j = pb.1 then pb.2 else ((wAt l (pa.1 + j)).length : Int)) ≤ ((wAt l (pa.1 + j)).length : Int) := by split; rename_i h9; have h8 := hb2 (by omega); rw [← h9] at h8; exact h8; exact Int.le_refl _
     refine SOps.move rfl (SOps.move rfl (SOps.bin rfl rfl rfl (SOps.nil ?_)))
     refine SCode.cond rfl (fun hc5 => ?_) (fun hc5 => ?_)
     ·try simp only [nmL] at hc5
      have hbw : btwN l pa pb (j + 1) = btwN l pa pb j ++ [encs (((wAt l (pa.1 + j)).drop (if pa.1 + j = pa.1 then pa.2 else 0).toNat).take ((if pa.1 + j = pb.1 then pb.2 else ((wAt l (pa.1 + j)).length : Int)).toNat - (if pa.1 + j = pa.1 then pa.2 else 0).toNat))] := by show _ ++ btwW l pa pb (pa.1 + j) = _; unfold btwW; rw [if_pos (by assumption)]
      have hbl9 := hbtl j
      apply SCode.drawG 12 [some 49, some 50, some 51, some 52, some 53, some 54, some 55, some 56, some 57, some 58, none] [[.inr 7], [.inl 0], [.inr 9], [.inr 10], [.inr 11], [.inl 2, .inl 3, .inl 4], [.inl 5], [.inl 6], [.inl 1, .inl 7], [.inr 7], [.inl 9, .inl 8]] [[1, 8, 10]] [none, some (0, 0), none, none, none, none, none, none, some (0, 1), none, some (0, 2)] [[], [], [], [], [], [], [], [], [8], [], []] ([(b0, DO.row 24 2 [[.v (.slice none 0 0), .v (.bool false)]])]) [⟨[1, 8, 10], fun ids c => match c with | 0 => (b9, DO.row 24 2 [[accD 1 kw ((btwN l pa pb j).map encS), .v (.bool false)]]) :: accH 9 1 kw ((btwN l pa pb j).map encS) | 1 => (b9, DO.row 24 2 [[accD 1 kw ((btwN l pa pb j).map encS), .v (.bool false)]]) :: accH 9 1 kw ((btwN l pa pb j).map encS) | 2 => (b9, DO.row 24 2 [[accD 1 kw ((btwN l pa pb j).map encS), .v (.bool false)]]) :: accH 9 1 (ids.getD 1 0) (((btwN l pa pb j).map encS) ++ [encS (encs (((wAt l (pa.1 + j)).drop (if pa.1 + j = pa.1 then pa.2 else 0).toNat).take ((if pa.1 + j = pb.1 then pb.2 else ((wAt l (pa.1 + j)).length : Int)).toNat - (if pa.1 + j = pa.1 then pa.2 else 0).toNat)))]) | _ => (b9, DO.row 24 2 [[accD 1 (ids.getD 1 0) (((btwN l pa pb j).map encS) ++ [encS (encs (((wAt l (pa.1 + j)).drop (if pa.1 + j = pa.1 then pa.2 else 0).toNat).take ((if pa.1 + j = pb.1 then pb.2 else ((wAt l (pa.1 + j)).length : Int)).toNat - (if pa.1 + j = pa.1 then pa.2 else 0).toNat)))]), .v (.bool false)]]) :: accH 9 1 (ids.getD 1 0) (((btwN l pa pb j).map encS) ++ [encS (encs (((wAt l (pa.1 + j)).drop (if pa.1 + j = pa.1 then pa.2 else 0).toNat).take ((if pa.1 + j = pb.1 then pb.2 else ((wAt l (pa.1 + j)).length : Int)).toNat - (if pa.1 + j = pa.1 then pa.2 else 0).toNat)))])⟩] mixed_
      ·kernel_rfl
      ·rfl
      ·exact fun _ => .refl _
      ·apply GOk.rd 49
       ·rfl
       ·exact fun b => (NeedG.inr _ rfl NeedG.nil)
       ·intro b rest ext
        refine SOps.fieldRef rfl fieldB_24_0_0 ?_
        exact SOps.nil rfl
       apply GOk.act [] (fun ids => some (50, accD 1 kw ((btwN l pa pb j).map encS)))
       ·rfl
       ·rfl
       ·rfl
       ·exact fun b => (NeedG.inl 0 _ _ rfl rfl rfl NeedG.nil)
       ·intro b rest ext
        refine SOps.loadRef 1 0 0 rfl flatB_22 rfl rfl rfl rfl ?_
        exact SOps.nil ⟨b, fun _ _ => rfl, ⟨rfl, fun t d h => .inl h, _, .refl _, .refl _⟩⟩
       apply GOk.rd 51
       ·rfl
       ·exact fun b => (NeedG.inr _ rfl NeedG.nil)
       ·intro b rest ext
        refine SOps.move rfl ?_
        exact SOps.nil rfl
       apply GOk.rd 52
       ·rfl
       ·exact fun b => (NeedG.inr _ rfl NeedG.nil)
       ·intro b rest ext
        refine SOps.move rfl ?_
        exact SOps.nil rfl
       apply GOk.rd 53
       ·rfl
       ·exact fun b => (NeedG.inr _ rfl NeedG.nil)
       ·intro b rest ext
        refine SOps.move rfl ?_
        exact SOps.nil rfl
       apply GOk.rd 54
       ·rfl
       ·exact fun b => (NeedG.inl 2 _ _ rfl rfl rfl (NeedG.inl 1 _ _ rfl rfl rfl (NeedG.inl 0 _ _ rfl rfl rfl NeedG.nil)))
       ·intro b rest ext
        refine SOps.sliceM (n1 := 0) ((if pa.1 + j = pa.1 then pa.2 else 0).toNat) ((if pa.1 + j = pb.1 then pb.2 else ((wAt l (pa.1 + j)).length : Int)).toNat) sliceB_94_21_1 rfl (.at ((if pa.1 + j = pa.1 then pa.2 else 0).toNat) rfl (by omega)) (.at ((if pa.1 + j = pb.1 then pb.2 else ((wAt l (pa.1 + j)).length : Int)).toNat) rfl (by omega)) (by omega) (by omega) ?_
        exact SOps.nil rfl
       apply GOk.rd 55
       ·rfl
       ·exact fun b => (NeedG.inl 0 _ _ rfl rfl rfl NeedG.nil)
       ·intro b rest ext
        refine SOps.convRunesStr rfl sliceB_94_21_1 intB_21_i32 strB_9 (by simp [lenB] <;> (first | omega | (simp only [lenB] <;> omega))) ?_
        exact SOps.nil rfl
       apply GOk.rd 56
       ·rfl
       ·exact fun b => (NeedG.inl 0 _ _ rfl rfl rfl NeedG.nil)
       ·intro b rest ext
        refine SOps.litF rfl sliceB_22_9_1 zeroIs_9 rfl ?_
        exact SOps.nil rfl
       apply GOk.act [8] (fun ids => some (57, accD 1 (ids.getD 0 0) (((btwN l pa pb j).map encS) ++ [encS (encs (((wAt l (pa.1 + j)).drop (if pa.1 + j = pa.1 then pa.2 else 0).toNat).take ((if pa.1 + j = pb.1 then pb.2 else ((wAt l (pa.1 + j)).length : Int)).toNat - (if pa.1 + j = pa.1 then pa.2 else 0).toNat)))])))
       ·rfl
       ·rfl
       ·rfl
       ·exact fun b => (NeedG.inl 6 _ _ rfl rfl rfl (NeedG.inl 0 _ _ rfl rfl rfl NeedG.nil))
       ·intro b rest ext
        refine SOps.appendAcc [_, _] _ sliceB_22_9_1 elemB_9_1_16 rfl rfl rfl SrcD.isl (by simp) (by first | (simp [lenB] <;> (first | omega | (simp only [lenB] <;> omega))) | (simp only [lenB]; (first | omega | (simp only [lenB] <;> omega)))) (by first | (simp <;> (first | omega | (simp only [lenB] <;> omega))) | (first | omega | (simp only [lenB] <;> omega))) (fun b2 => ?_)
        exact SOps.nil ⟨fun k => if k = 8 then b2 else b k, fun k hk => if_neg hk, ⟨rfl, fun t d h => .inl h, _, .refl _, .refl _⟩⟩
       apply GOk.rd 58
       ·rfl
       ·exact fun b => (NeedG.inr _ rfl NeedG.nil)
       ·intro b rest ext
        refine SOps.fieldRef rfl fieldB_24_0_0 ?_
        exact SOps.nil rfl
       apply GOk.act [] (fun _ => none)
       ·rfl
       ·rfl
       ·rfl
       ·exact fun b => (NeedG.inl 0 _ _ rfl rfl rfl (NeedG.inl 1 _ _ rfl rfl rfl NeedG.nil))
       ·intro b rest ext
        refine SOps.store 1 0 0 rfl rfl oneB_22 rfl rfl rfl (by decide) (by first | rfl | exact accD_one _ _ _) ?_
        exact SOps.nil ⟨b, fun _ _ => rfl, ⟨rfl, fun t d h => .inl h, _, .refl _, .refl _⟩⟩
       exact GOk.nil
      ·exact fun _ => rfl
      ·intro ids
       show SCode _ _ _ _
       refine SCode.region (SOps.move rfl (SOps.addI rfl rfl (by omega) (by omega) (SOps.assign rfl (SOps.nil ?_))))
       exact ⟨j + 1, ids 8, by unfold btwL at hjn ⊢; omega, by omega, St.Le.of ⟨rfl, rfl, rfl, rfl, rfl, rfl, trivial⟩ rfl (by rw [hbw, List.map_append] <;> rfl)⟩
     ·try simp only [nmL] at hc5
      have hbw : btwN l pa pb (j + 1) = btwN l pa pb j := by show _ ++ btwW l pa pb (pa.1 + j) = _; unfold btwW; rw [if_neg (by omega), List.append_nil]
      refine SCode.skip ?_
      show SCode _ _ _ _
      refine SCode.region (SOps.move rfl (SOps.addI rfl rfl (by omega) (by omega) (SOps.assign rfl (SOps.nil ?_))))
      exact ⟨j + 1, kw, by unfold btwL at hjn ⊢; omega, by omega, St.Le.of ⟨rfl, rfl, rfl, rfl, rfl, rfl, trivial⟩ rfl (by rw [hbw] <;> rfl)⟩
  ·try simp only [nmL] at hc2
   have hje : j = btwL l pa pb := by unfold btwL at hjn ⊢; omega
   refine SCode.exit ?_
   show SCode _ _ _ _
   refine SCode.seqR (SOps.fieldPin rfl fieldB_113_1_1 (SOps.loadPin rfl flatB_3 (SOps.bin rfl rfl rfl (SOps.fieldRef rfl fieldB_24_1_1 (SOps.store 1 0 1 rfl rfl oneB_4 rfl rfl rfl (by decide) (by first | rfl | exact accD_one _ _ _) (SOps.nil (SCode.seqR (SOps.freezeAccIn rfl rfl (SOps.loadRefA 1 0 0 rfl aggB_24_2 rfl rfl rfl (Nat.le_of_ble_eq_true rfl) (SOps.storeAM 0 rfl rfl aggB_24_2 rfl (SOps.nil (SCode.ret ?_))))))))))))
   exact ⟨_, Res.one (.agg (i := 0) (k := 0) (j := 0) rfl aggB_24_2 rfl rfl rfl (Nat.le_of_ble_eq_true rfl)), by rw [← hje] <;> rfl⟩
 ·try simp only [nmL] at hb1
  have hje : j = btwL l pa pb := by unfold btwL at hjn ⊢; omega
  refine SOps.skip rfl (SOps.skip rfl (SOps.skip rfl (SOps.skip rfl (SOps.pick rfl rfl (SOps.nil ?_)))))
  refine SCode.cond rfl (fun h => by cases h) (fun _ => ?_)
  refine SCode.exit ?_
  show SCode _ _ _ _
  refine SCode.seqR (SOps.fieldPin rfl fieldB_113_1_1 (SOps.loadPin rfl flatB_3 (SOps.bin rfl rfl rfl (SOps.fieldRef rfl fieldB_24_1_1 (SOps.store 1 0 1 rfl rfl oneB_4 rfl rfl rfl (by decide) (by first | rfl | exact accD_one _ _ _) (SOps.nil (SCode.seqR (SOps.freezeAccIn rfl rfl (SOps.loadRefA 1 0 0 rfl aggB_24_2 rfl rfl rfl (Nat.le_of_ble_eq_true rfl) (SOps.storeAM 0 rfl rfl aggB_24_2 rfl (SOps.nil (SCode.ret ?_))))))))))))
  exact ⟨_, Res.one (.agg (i := 0) (k := 0) (j := 0) rfl aggB_24_2 rfl rfl rfl (Nat.le_of_ble_eq_true rfl)), by rw [← hje] <;> rfl⟩
end Go.GH
namespace Go.GH
open Go Go.Proofs
variable {E : Env}
theorem qBetween (l : List Bx) (i k : Nat) (hb : boxesB l = true) (hik : i < k) (hk : k < ptN l) (h1 : i < (pointsL l).length) (h2 : k < (pointsL l).length) : GCall Tryz.prog E 119 [DBxs l, .agg (encK (pointsL l)[i]), .agg (encK (pointsL l)[k])] [] (fun d H => d = .agg (encLn (lineP l i k)) ∧ H = []) := by
  rw [← ptQ_lt (show i < ptN l by omega), ← ptQ_lt hk]
  refine (qBetween0 l _ _ hb (ptQ_small hb (by omega)) (ptQ_ok hb hk)).clean (fun d H e => ⟨_, fun _ _ _ h => h, ?_⟩)
  rw [e, btw_eq hb (ptQ_small hb (by omega)) (ptQ_ok hb hk) (ptQ_ltP hb hik hk)]
  have e2 : lineP l i k = ⟨pcW l (ptQ l i) (ptQ l k), decide (0 < (ptQ l k).2)⟩ := by
    have h3 := line_words hb hik hk
    have h4 := (colP_eq hk).2
    rw [h4] at h3
    rw [← h3.1, ← h3.2]
  rw [e2]
end Go.GH
namespace Go.GH
open Go Go.Proofs
variable {E : Env}
theorem aggB_113_2 : aggB Tryz.prog 113 2 = true := by kernel_rfl
theorem elemB_36_1_24 : elemB Tryz.prog 36 1 24 = true := by kernel_rfl
theorem flatB_36 : flatB Tryz.prog 36 = true := by kernel_rfl
theorem sliceB_142_36_1 : sliceB Tryz.prog 142 36 1 = true := by kernel_rfl
theorem zeroIs_36 : zeroIs Tryz.prog 36 (.slice none 0 0) := by unfold zeroIs; kernel_rfl
theorem rep_islNil {w : World} {F : Nat → Prop} {v : Value} {sz : Nat} (h : Rep w F v (.isl false 1 [[.v (.slice none 0 0)]])) : Rep w F v (.isl false 1 [[.isl false sz []]]) := by
  cases h with
  | isl xs hlen hcap hB hnn hA hsz hc hr =>
    have h0 : ∀ (i : Nat) (e : List DV) (j : Nat) (d : DV), ([[DV.isl false sz []]] : List (List DV))[i]? = some e → e[j]? = some d → i = 0 ∧ j = 0 ∧ d = .isl false sz [] := fun i e j d hi hj => by
      have hi0 : i = 0 := by have := (List.getElem?_eq_some_iff.1 hi).1; simp at this; omega
      subst hi0
      simp only [List.getElem?_cons_zero, Option.some.injEq] at hi
      subst hi
      have hj0 : j = 0 := by have := (List.getElem?_eq_some_iff.1 hj).1; simp at this; omega
      subst hj0
      simp only [List.getElem?_cons_zero, Option.some.injEq] at hj
      exact ⟨rfl, rfl, hj.symm⟩
    refine .isl xs hlen hcap hB hnn (fun _ => hA (by simp)) (fun i e hi => ?_) (fun i e j d hi hj => ?_) (fun i e j d hi hj => ?_)
    · have hi0 : i = 0 := by have := (List.getElem?_eq_some_iff.1 hi).1; simp at this; omega
      subst hi0
      simp only [List.getElem?_cons_zero, Option.some.injEq] at hi
      subst hi; rfl
    · obtain ⟨rfl, rfl, rfl⟩ := h0 i e j d hi hj
      exact ⟨(hc 0 _ 0 _ rfl rfl).1, (hc 0 _ 0 _ rfl rfl).2⟩
    · obtain ⟨rfl, rfl, rfl⟩ := h0 i e j d hi hj
      exact nil_isl (hr 0 _ 0 _ rfl rfl)
theorem qDiv0 (l : List Bx) (w : Int) (i : Nat) (hb : boxesB l = true) (hw1 : 1 ≤ w) (hw2 : w ≤ 200) (h11 : ptN l ≤ 11) (hi : i ≤ ptN l - 1) (ih : ∀ n, i < n → n ≤ ptN l - 1 → GCall Tryz.prog E 86 [DBxs l, .v (.int .i64 w), .v (.int .i64 ((n : Nat) : Int))] [] (fun d H => d = DDs (divsR l w n) ∧ H = [])) : GCall Tryz.prog E 86 [DBxs l, .v (.int .i64 w), .v (.int .i64 (i : Int))] [] (fun d H => d = (if i = ptN l - 1 then .isl false 1 [[.v (.slice none 0 0)]] else DDs (divsR l w i))) := by
 have hbn := bnds_of hb
 have hpe : (pointsL l).length = ptN l := (ptN_eq l).symm
 have hpos := ptN_pos l
 have hNl := ptN_le hb
 refine GCall.body (C := ⟨Tryz.prog, E, true⟩) Tryz.func86 rfl (fun _ => rfl) (by kernel_rfl) rfl ?_
 refine SCode.seqR (SOps.assign rfl (SOps.nil (SCode.seqR (SOps.move rfl (SOps.callP (qPoints l (fun b h => by have := hbn.pts b h; omega) (by have := hbn.len; omega)) rfl ?_)))))
 rintro _ rfl
 refine SOps.assign rfl (SOps.nil (SCode.seq (SCode.seqR (SOps.move rfl (SOps.move rfl (SOps.lenM rfl sliceB_41_113_2 (SOps.subI rfl rfl (by omega) (by omega) (SOps.bin rfl rfl rfl (SOps.nil ?_)))))))))
 refine SCode.cond rfl (fun hc1 => ?_) (fun hc1 => ?_)
 ·try simp only [nmL] at hc1
  refine SCode.seqR (SOps.litF rfl sliceB_142_36_1 zeroIs_36 rfl (SOps.assign rfl (SOps.nil (SCode.ret ?_))))
  exact ⟨_, Res.one (.tmp rfl), by rw [if_pos (by omega)] <;> rfl⟩
 ·try simp only [nmL] at hc1
  have hds := divsR_step (w := w) (show i < ptN l - 1 by omega)
  refine SCode.skip ?_
  show SCode _ _ _ _
  refine SCode.seqR (SOps.assign rfl (SOps.nil (SCode.seq (SCode.seqR (SOps.move rfl (SOps.lenM rfl sliceB_41_113_2 (SOps.subI rfl rfl (by omega) (by omega) (SOps.assign rfl (SOps.nil (SCode.block (SCode.loop2 (fun (d : Nat) (b : Nat) => (⟨61, [(0, DBxs l), (1, .v (.int .i64 w)), (2, .v (.int .i64 (i : Int))), (7, DKs (pointsL l)), (8, accD 1 b ((divN l w i (divsR l w) d).map encDv)), (9, .v (.int .i64 (((ptN l - 1 - d) : Nat) : Int)))], accH 36 1 b ((divN l w i (divsR l w) d).map encDv) ++ []⟩ : St)) (fun (d : Nat) (b : Nat) => d ≤ ptN l - 1 - i) (fun (d : Nat) (b : Nat) => ptN l - d) (0) (0) (by exact Nat.zero_le _) (St.Le.of ⟨(by first | rfl | (show some _ = some _; congr 3; omega)), (by first | rfl | (show some _ = some _; congr 3; omega)), (by first | rfl | (show some _ = some _; congr 3; omega)), (by first | rfl | (show some _ = some _; congr 3; omega)), (by first | rfl | (show some _ = some _; congr 3; omega)), (by first | rfl | (show some _ = some _; congr 3; omega)), trivial⟩ rfl rfl) ?_)))))))))))
  rintro d b hdn
  refine SCode.seq (SCode.seqR (SOps.move rfl (SOps.move rfl (SOps.bin rfl rfl rfl (SOps.nil ?_)))))
  refine SCode.cond rfl (fun hc2 => ?_) (fun hc2 => ?_)
  ·try simp only [nmL] at hc2
   have hdb := divN_bound (l := l) (w := w) (i := i) (D := fun n => if n ≤ ptN l - 1 then divsR l w n else []) (fun n => by split; have := (divsR_bound (w := w) h11 (show n ≤ ptN l - 1 by assumption)).1; omega; exact Nat.zero_le _) d
   rw [show divN l w i (fun n => if n ≤ ptN l - 1 then divsR l w n else []) d = (divN l w i (divsR l w) d) from divN_congr (fun n hn => if_pos (by omega)) d] at hdb
   have hrb := divsR_bound (w := w) h11 (show (ptN l - 1 - d) ≤ ptN l - 1 by omega)
   refine SCode.skip ?_
   show SCode _ _ _ _
   refine SCode.seq (SCode.block (SCode.seq ?_))
   apply SCode.drawG 13 [some 29, some 30, some 31, some 32, some 33, some 34, some 35, some 36, some 37, some 38, some 10, none] [[.inr 0], [.inr 7], [.inr 2], [.inl 1, .inl 2], [.inl 3], [.inr 7], [.inr 9], [.inl 5, .inl 6], [.inl 7], [.inl 0, .inl 4, .inl 8], [], [.inl 10, .inl 9]] [[10, 11], []] [none, none, none, none, none, none, none, none, none, none, some (0, 0), some (0, 1)] [[], [], [], [], [], [], [], [], [], [], [10], []] ([]) [⟨[10, 11], fun ids c => match c with | 0 => [] | 1 => [((ids.getD 0 0), .row 24 2 [[.v (.slice none 0 0), .v (.bool false)]])] | _ => [((ids.getD 0 0), .row 24 2 [encLn (lineP l i (ptN l - 1 - d))])]⟩, ⟨[], fun ids c => match c with | _ => accH 36 1 b ((divN l w i (divsR l w) d).map encDv)⟩] mixed_
   ·kernel_rfl
   ·rfl
   ·exact fun _ => .refl _
   ·apply GOk.rd 29
    ·rfl
    ·exact fun b => (NeedG.inr _ rfl NeedG.nil)
    ·intro b rest ext
     refine SOps.move rfl ?_
     exact SOps.nil rfl
    apply GOk.rd 30
    ·rfl
    ·exact fun b => (NeedG.inr _ rfl NeedG.nil)
    ·intro b rest ext
     refine SOps.move rfl ?_
     exact SOps.nil rfl
    apply GOk.rd 31
    ·rfl
    ·exact fun b => (NeedG.inr _ rfl NeedG.nil)
    ·intro b rest ext
     refine SOps.move rfl ?_
     exact SOps.nil rfl
    apply GOk.rd 32
    ·rfl
    ·exact fun b => (NeedG.inl 1 _ _ rfl rfl rfl (NeedG.inl 0 _ _ rfl rfl rfl NeedG.nil))
    ·intro b rest ext
     refine SOps.indexM (i) rfl rfl sliceB_41_113_2 (by omega) (by omega) ?_
     exact SOps.nil rfl
    apply GOk.rd 33
    ·rfl
    ·exact fun b => (NeedG.inl 0 _ _ rfl rfl rfl NeedG.nil)
    ·intro b rest ext
     refine SOps.loadPinA rfl aggB_113_2 (Nat.le_of_ble_eq_true rfl) ?_
     exact SOps.nil rfl
    apply GOk.rd 34
    ·rfl
    ·exact fun b => (NeedG.inr _ rfl NeedG.nil)
    ·intro b rest ext
     refine SOps.move rfl ?_
     exact SOps.nil rfl
    apply GOk.rd 35
    ·rfl
    ·exact fun b => (NeedG.inr _ rfl NeedG.nil)
    ·intro b rest ext
     refine SOps.move rfl ?_
     exact SOps.nil rfl
    apply GOk.rd 36
    ·rfl
    ·exact fun b => (NeedG.inl 1 _ _ rfl rfl rfl (NeedG.inl 0 _ _ rfl rfl rfl NeedG.nil))
    ·intro b rest ext
     refine SOps.indexM ((ptN l - 1 - d)) rfl rfl sliceB_41_113_2 (by omega) (by omega) ?_
     exact SOps.nil rfl
    apply GOk.rd 37
    ·rfl
    ·exact fun b => (NeedG.inl 0 _ _ rfl rfl rfl NeedG.nil)
    ·intro b rest ext
     refine SOps.loadPinA rfl aggB_113_2 (Nat.le_of_ble_eq_true rfl) ?_
     exact SOps.nil rfl
    apply GOk.rd 38
    ·rfl
    ·exact fun b => (NeedG.inl 8 _ _ rfl rfl rfl (NeedG.inl 4 _ _ rfl rfl rfl (NeedG.inl 0 _ _ rfl rfl rfl NeedG.nil)))
    ·intro b rest ext
     refine SOps.callP (qBetween l i (ptN l - 1 - d) hb (by omega) (by omega) (by omega) (by omega)) rfl ?_
     rintro _ rfl
     exact SOps.nil rfl
    apply GOk.act [10] (fun ids => some (10, .ref (ids.getD 0 0) 0))
    ·rfl
    ·rfl
    ·rfl
    ·exact fun b => NeedG.nil
    ·intro b rest ext
     refine SOps.alloc (sz := 2) zeroIs_24 (fun b0 hb_0 => ?_)
     exact SOps.nil ⟨fun k => if k = 10 then b0 else b k, fun k hk => if_neg hk, ⟨rfl, fun t d h => .inl h, _, List.perm_middle, .refl _⟩⟩
    apply GOk.act [] (fun _ => none)
    ·rfl
    ·rfl
    ·rfl
    ·exact fun b => (NeedG.inl 0 _ _ rfl rfl rfl (NeedG.inl 1 _ _ rfl rfl rfl NeedG.nil))
    ·intro b rest ext
     refine SOps.storeAM 0 rfl rfl aggB_24_2 rfl ?_
     exact SOps.nil ⟨b, fun _ _ => rfl, ⟨rfl, fun t d h => .inl h, _, .refl _, .refl _⟩⟩
    exact GOk.nil
   ·exact fun _ => rfl
   ·intro ids
    show SCode _ _ _ _
    refine SCode.seq (SCode.seqR (SOps.freezeRef (t := 10) 0 0 rfl rfl rfl rfl rfl (SOps.reSlot (t := 10) rfl (show _ = DV.ipin (encLn (lineP l i (ptN l - 1 - d))) from rfl) (SOps.loadPinA rfl aggB_24_2 (Nat.le_of_ble_eq_true rfl) (SOps.move rfl (SOps.callP (qFree _ _ (line_ok hb (by omega) (by omega)) (by omega) (by omega)) rfl ?_))))))
    rintro _ rfl
    refine SOps.bin rfl rfl rfl (SOps.nil ?_)
    refine SCode.cond rfl (fun hc3 => ?_) (fun hc3 => ?_)
    ·try simp only [nmL] at hc3
     have hst : divN l w i (divsR l w) (d + 1) = (divN l w i (divsR l w) d) := by rw [divN, if_neg (by have h9 := free_line (w := w) hb (show i < (ptN l - 1 - d) by omega) (show (ptN l - 1 - d) < ptN l by omega); omega), List.append_nil]
     refine SCode.exit ?_
     show SCode _ _ _ _
     refine SCode.region (SOps.move rfl (SOps.subI rfl rfl (by omega) (by omega) (SOps.assign rfl (SOps.nil ?_))))
     exact ⟨d + 1, b, by omega, by omega, St.Le.of ⟨rfl, rfl, rfl, rfl, (by show some _ = some _; rw [hst] <;> rfl), congrArg (fun z => some (DV.v (.int .i64 z))) (by omega), trivial⟩ rfl (by rw [hst] <;> rfl)⟩
    ·try simp only [nmL] at hc3
     have hft : lenP l i (ptN l - 1 - d) ≤ w := by have h9 := free_line (w := w) hb (show i < (ptN l - 1 - d) by omega) (show (ptN l - 1 - d) < ptN l by omega); omega
     refine SCode.skip ?_
     show SCode _ _ _ _
     refine SCode.seqR (SOps.move rfl (SOps.move rfl (SOps.move rfl (SOps.callP (ih (ptN l - 1 - d) (by omega) (by omega)) rfl ?_))))
     rintro _ rfl
     refine SOps.lenM rfl sliceB_142_36_1 (SOps.move rfl (SOps.nil (SCode.block (SCode.loop2 (fun (q : Nat) (c : Nat) => (⟨61, [(0, DBxs l), (1, .v (.int .i64 w)), (2, .v (.int .i64 (i : Int))), (7, DKs (pointsL l)), (8, accD 1 c (((divN l w i (divsR l w) d) ++ ((divsR l w (ptN l - 1 - d)).take q).map (fun x => lineP l i (ptN l - 1 - d) :: x)).map encDv)), (9, .v (.int .i64 (((ptN l - 1 - d) : Nat) : Int))), (10, .ipin (encLn (lineP l i (ptN l - 1 - d)))), (46, DDs (divsR l w (ptN l - 1 - d))), (47, .v (.int .i64 ((divsR l w (ptN l - 1 - d)).length : Int))), (48, .v (.int .i64 (q : Int)))], accH 36 1 c (((divN l w i (divsR l w) d) ++ ((divsR l w (ptN l - 1 - d)).take q).map (fun x => lineP l i (ptN l - 1 - d) :: x)).map encDv) ++ []⟩ : St)) (fun (q : Nat) (c : Nat) => q ≤ (divsR l w (ptN l - 1 - d)).length) (fun (q : Nat) (c : Nat) => (divsR l w (ptN l - 1 - d)).length - q) (0) (b) (by exact Nat.zero_le _) (St.Le.of ⟨(by first | rfl | (show some _ = some _; rw [List.take_zero, List.map_nil, List.append_nil])), (by first | rfl | (show some _ = some _; rw [List.take_zero, List.map_nil, List.append_nil])), (by first | rfl | (show some _ = some _; rw [List.take_zero, List.map_nil, List.append_nil])), (by first | rfl | (show some _ = some _; rw [List.take_zero, List.map_nil, List.append_nil])), (by first | rfl | (show some _ = some _; rw [List.take_zero, List.map_nil, List.append_nil])), (by first | rfl | (show some _ = some _; rw [List.take_zero, List.map_nil, List.append_nil])), (by first | rfl | (show some _ = some _; rw [List.take_zero, List.map_nil, List.append_nil])), (by first | rfl | (show some _ = some _; rw [List.take_zero, List.map_nil, List.append_nil])), (by first | rfl | (show some _ = some _; rw [List.take_zero, List.map_nil, List.append_nil])), (by first | rfl | (show some _ = some _; rw [List.take_zero, List.map_nil, List.append_nil])), trivial⟩ rfl (by first | rfl | (rw [show ((divN l w i (divsR l w) d) ++ ((divsR l w (ptN l - 1 - d)).take 0).map (fun x => lineP l i (ptN l - 1 - d) :: x)) = (divN l w i (divsR l w) d) from by rw [List.take_zero, List.map_nil, List.append_nil]] <;> rfl))) ?_))))
     rintro q c hqn
     have hDl : ((divN l w i (divsR l w) d) ++ ((divsR l w (ptN l - 1 - d)).take q).map (fun x => lineP l i (ptN l - 1 - d) :: x)).length ≤ 2000000 := by simp only [List.length_append, List.length_map, List.length_take]; omega
     refine SCode.seqR (SOps.bin rfl rfl rfl (SOps.nil (SCode.seq ?_)))
     refine SCode.cond rfl (fun hc4 => ?_) (fun hc4 => ?_)
     ·try simp only [nmL] at hc4
      refine SCode.skip ?_
      show SCode _ _ _ _
      refine SCode.seq (SCode.block (SCode.seqR (SOps.indexM (q) rfl rfl sliceB_142_36_1 (by omega) (by omega) (SOps.loadPin rfl flatB_36 (SOps.assign rfl (SOps.nil (SCode.region ?_)))))))
      have hq : q < (divsR l w (ptN l - 1 - d)).length := by omega
      have hxl := hrb.2 _ (List.getElem_mem hq)
      have hqe : ((divN l w i (divsR l w) d) ++ ((divsR l w (ptN l - 1 - d)).take (q + 1)).map (fun x => lineP l i (ptN l - 1 - d) :: x)) = ((divN l w i (divsR l w) d) ++ ((divsR l w (ptN l - 1 - d)).take q).map (fun x => lineP l i (ptN l - 1 - d) :: x)) ++ [(lineP l i (ptN l - 1 - d)) :: ((divsR l w (ptN l - 1 - d))[q])] := by rw [List.take_add_one, List.getElem?_eq_getElem hq, List.map_append, ← List.append_assoc]; rfl
      have hqs : (((divN l w i (divsR l w) d) ++ ((divsR l w (ptN l - 1 - d)).take (q + 1)).map (fun x => lineP l i (ptN l - 1 - d) :: x)).map encDv) = (((divN l w i (divsR l w) d) ++ ((divsR l w (ptN l - 1 - d)).take q).map (fun x => lineP l i (ptN l - 1 - d) :: x)).map encDv) ++ [encDv ((lineP l i (ptN l - 1 - d)) :: ((divsR l w (ptN l - 1 - d))[q]))] := by rw [hqe, List.map_append]; rfl
      refine SOps.move rfl (SOps.loadPinA rfl aggB_24_2 (Nat.le_of_ble_eq_true rfl) ?_)
      refine SOps.litO sliceB_36_24_2 zeroIs_24 rfl (fun b1 hb_1 => ?_)
      refine SOps.move rfl ?_
      refine SOps.appendOwnE 0 sliceB_36_24_2 elemB_24_2_32 rfl rfl rfl rfl SrcD.isl (by simp only [List.length_map, lenB]; omega) (by simp only [List.length_map]; omega) (fun b2 => ?_)
      refine SOps.freezeS (t := 56) 0 rfl rfl rfl (by simp <;> omega) (SOps.reSlot (t := 56) rfl (show _ = DLns ((lineP l i (ptN l - 1 - d)) :: ((divsR l w (ptN l - 1 - d))[q])) from rfl) (SOps.litF rfl sliceB_142_36_1 zeroIs_36 rfl ?_))
      refine SOps.appendAcc [] [] sliceB_142_36_1 elemB_36_1_24 rfl rfl rfl SrcD.isl (by simp) (by first | (simp [lenB] <;> (first | omega | (simp only [lenB] <;> omega))) | (simp only [lenB]; (first | omega | (simp only [lenB] <;> omega)))) (by first | (simp <;> (first | omega | (simp only [lenB] <;> omega))) | (first | omega | (simp only [lenB] <;> omega))) (fun b3 => ?_)
      refine SOps.assign rfl (SOps.nil ?_)
      show SCode _ _ _ _
      refine SCode.region (SOps.addI rfl rfl (by omega) (by omega) (SOps.move rfl (SOps.nil ?_)))
      exact ⟨q + 1, b3, by omega, by omega, St.Le.of ⟨rfl, rfl, rfl, rfl, (by show some _ = some _; rw [hqs] <;> rfl), rfl, rfl, rfl, rfl, rfl, trivial⟩ rfl (by rw [hqs] <;> rfl)⟩
     ·try simp only [nmL] at hc4
      have hst : divN l w i (divsR l w) (d + 1) = ((divN l w i (divsR l w) d) ++ ((divsR l w (ptN l - 1 - d)).take q).map (fun x => lineP l i (ptN l - 1 - d) :: x)) := by rw [divN, if_pos hft, List.take_of_length_le (by omega)]
      refine SCode.exit ?_
      show SCode _ _ _ _
      refine SCode.region (SOps.move rfl (SOps.subI rfl rfl (by omega) (by omega) (SOps.assign rfl (SOps.nil ?_))))
      exact ⟨d + 1, c, by omega, by omega, St.Le.of ⟨rfl, rfl, rfl, rfl, (by show some _ = some _; rw [hst] <;> rfl), congrArg (fun z => some (DV.v (.int .i64 z))) (by omega), trivial⟩ rfl (by rw [hst] <;> rfl)⟩
  ·try simp only [nmL] at hc2
   have hde : d = ptN l - 1 - i := by omega
   refine SCode.exit ?_
   show SCode _ _ _ _
   refine SCode.seqR (SOps.freezeAcc (t := 8) [] [] rfl rfl rfl (SOps.move rfl (SOps.assign rfl (SOps.nil (SCode.ret ?_)))))
   exact ⟨_, Res.one (.tmp rfl), by rw [if_neg (by omega), hds, ← hde] <;> rfl⟩
theorem qDiv (l : List Bx) (w : Int) (hb : boxesB l = true) (hw1 : 1 ≤ w) (hw2 : w ≤ 200) (h11 : ptN l ≤ 11) : ∀ (f i : Nat), i ≤ ptN l - 1 → ptN l - 1 < f + i → GCall Tryz.prog E 86 [DBxs l, .v (.int .i64 w), .v (.int .i64 (i : Int))] [] (fun d H => d = DDs (divsR l w i) ∧ H = [])
  | 0, i, h1, h2 => by omega
  | f + 1, i, h1, h2 => (qDiv0 l w i hb hw1 hw2 h11 h1 (fun n k1 k2 => qDiv l w hb hw1 hw2 h11 f n k2 (by omega))).clean (fun d H e => by
    subst e
    split
    · rename_i h
      rw [h, divsR_last]
      exact ⟨_, fun _ _ _ h => rep_islNil h, rfl⟩
    · exact ⟨_, fun _ _ _ h => h, rfl⟩)
end Go.GH
