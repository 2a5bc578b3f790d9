/-
  Syllables as plain data. Proved here: laws of plain lists. No conditions.
-/
import Derived.Test.YtnelkblhplellaaDoorHu
import Derived.KernelRfl
set_option linter.unusedVariables false
set_option linter.unusedSimpArgs false
namespace Go.GH
open Go

def encO (ms : List Int) : List DV := [DMasks ms]
abbrev DOns (ons : List (List Int)) : DV := .isl false 1 (ons.map encO)
abbrev DP (ons : List (List Int)) (ml mr : Int) : DV := .agg [DOns ons, .v (.int .i64 ml), .v (.int .i64 mr)]
def sideOK (n : Int) : Bool := decide (1 ≤ n) && decide (n ≤ 8)
def validP (ons : List (List Int)) (ml mr : Int) : Bool := decide (ons.length ≤ 32) && sideOK ml && sideOK mr && !(ons.any (fun o => decide (4 < o.length)))
/-- The place of the first element that p names, or -1. -/
def findI {α : Type} (p : α → Bool) (xs : List α) : Int := match xs.findIdx? p with
  | some i => (i : Int)
  | none => -1
theorem findI_nonneg {α : Type} {p : α → Bool} {xs : List α} : decide (0 ≤ findI p xs) = xs.any p := by
  unfold findI
  cases h : xs.findIdx? p with
  | none =>
    rw [List.findIdx?_eq_none_iff] at h
    have : xs.any p = false := by rw [List.any_eq_false]; intro x hx; simp [h x hx]
    rw [this]; rfl
  | some i =>
    have : xs.any p = true := by
      obtain ⟨h1, h2, h3⟩ := List.findIdx?_eq_some_iff_getElem.1 h
      exact List.any_eq_true.2 ⟨_, List.getElem_mem h1, h2⟩
    rw [this]
    simp
theorem findI_at {α : Type} {p : α → Bool} {xs : List α} {i : Nat} (h : ∀ x ∈ xs.take i, p x = false) (hi : i < xs.length) (e : p (xs[i]'hi) = true) : findI p xs = i := by
  have : xs.findIdx? p = some i := by
    rw [List.findIdx?_eq_some_iff_getElem]
    refine ⟨hi, e, fun j hji => ?_⟩
    have : xs[j] ∈ xs.take i := by
      rw [List.mem_iff_getElem?]
      exact ⟨j, by rw [List.getElem?_take, if_pos hji, List.getElem?_eq_getElem (by omega)]⟩
    simp [h _ this]
  simp [findI, this]
theorem findI_none {α : Type} {p : α → Bool} {xs : List α} (h : ∀ x ∈ xs, p x = false) : findI p xs = -1 := by
  have : xs.findIdx? p = none := List.findIdx?_eq_none_iff.2 h
  simp [findI, this]

theorem and_one (c : Int) : andU c 1 = 0 ∨ andU c 1 = 1 := by
  have h1 : (BitVec.ofInt 32 c &&& BitVec.ofInt 32 1).toNat ≤ 1 := by
    rw [BitVec.toNat_and]
    exact Nat.le_trans Nat.and_le_right (by decide)
  unfold andU
  generalize (BitVec.ofInt 32 c &&& BitVec.ofInt 32 1).toNat = n at h1
  have : n = 0 ∨ n = 1 := by omega
  rcases this with rfl | rfl
  · exact .inl (by decide)
  · exact .inr (by decide)
def vowelA (a : List Letter) (r : Int) : Bool := hasC (clsOf a r) 1
theorem vowel_ne (a : List Letter) (r : Int) : (andU (clsOf a r) 1 != 0) = vowelA a r := by
  unfold vowelA hasC
  rcases and_one (clsOf a r) with h | h <;> rw [h] <;> rfl
theorem vowel_none {a : List Letter} {r : Int} (h : idx a r = none) : vowelA a r = false := by
  rw [vowelA, clsOf_none h]; decide
def nucF (V : Int → Bool) : List Int → Nat → List Nat
  | [], _ => []
  | r :: rs, n => if V r then n :: nucF V rs (n + 1) else nucF V rs (n + 1)
def nuclei (a : List Letter) (s : ByteArray) : List Nat := nucF (vowelA a) (runes s) 0
def fits (a : List Letter) (ms rs : List Int) : Bool := decide (ms.length = rs.length) && (rs.zip ms).all (fun p => (idx a p.1).isSome && hasC (clsOf a p.1) p.2)
def onsetR (a : List Letter) (ons : List (List Int)) (rs : List Int) : Bool := rs.isEmpty || ons.any (fun ms => fits a ms rs)
def onset (a : List Letter) (ons : List (List Int)) (s : ByteArray) : Bool := onsetR a ons (runes s)
theorem nucF_lt (V : Int → Bool) : ∀ (rs : List Int) (n : Nat), ∀ k ∈ nucF V rs n, n ≤ k ∧ k < n + rs.length
  | [], _, _, h => by simp [nucF] at h
  | r :: rs, n, k, h => by
    simp only [nucF] at h
    split at h
    · rcases List.mem_cons.1 h with rfl | h
      · simp
      · have := nucF_lt V rs (n + 1) k h; simp only [List.length_cons]; omega
    · have := nucF_lt V rs (n + 1) k h; simp only [List.length_cons]; omega
theorem nucF_len (V : Int → Bool) : ∀ (rs : List Int) (n : Nat), (nucF V rs n).length ≤ rs.length
  | [], _ => by simp [nucF]
  | r :: rs, n => by
    have := nucF_len V rs (n + 1)
    simp only [nucF]
    split <;> simp only [List.length_cons] <;> omega
theorem nucF_cons (V : Int → Bool) (r : Int) (rs : List Int) (n : Nat) : nucF V (r :: rs) n = (if V r then [n] else []) ++ nucF V rs (n + 1) := by
  simp only [nucF]; split <;> simp
theorem fits_at {a : List Letter} {ms rs : List Int} {i : Nat} (hl : ms.length = rs.length) (hi : i < rs.length) (hm : i < ms.length) (h : ((rs.zip ms).take i).all (fun p => (idx a p.1).isSome && hasC (clsOf a p.1) p.2) = true) (e : ((idx a (rs[i]'hi)).isSome && hasC (clsOf a (rs[i]'hi)) (ms[i]'hm)) = true) :
    ((rs.zip ms).take (i + 1)).all (fun p => (idx a p.1).isSome && hasC (clsOf a p.1) p.2) = true := by
  have hz : i < (rs.zip ms).length := by simp; omega
  rw [List.take_add_one, List.getElem?_eq_getElem hz, List.all_append, h]
  simpa using e
theorem fits_bad {a : List Letter} {ms rs : List Int} {i : Nat} (hi : i < rs.length) (hm : i < ms.length) (e : ((idx a (rs[i]'hi)).isSome && hasC (clsOf a (rs[i]'hi)) (ms[i]'hm)) = false) : fits a ms rs = false := by
  have hz : i < (rs.zip ms).length := by simp; omega
  unfold fits
  rw [Bool.and_eq_false_iff]
  right
  rw [List.all_eq_false]
  exact ⟨_, List.getElem_mem hz, by simpa using e⟩
theorem fits_end {a : List Letter} {ms rs : List Int} {i : Nat} (hl : ms.length = rs.length) (hi : rs.length ≤ i) (h : ((rs.zip ms).take i).all (fun p => (idx a p.1).isSome && hasC (clsOf a p.1) p.2) = true) : fits a ms rs = true := by
  rw [List.take_of_length_le (by simp; omega)] at h
  rw [fits, decide_eq_true hl, h]; rfl

/-! #### starts of syllables -/
def cutR (rs : List Int) (l h : Nat) : List Int := (rs.drop l).take (h - l)
def firstOnF (ok : Nat → Bool) : Nat → Nat → Nat
  | 0, t => t
  | k + 1, t => if ok t then t else firstOnF ok k (t + 1)
def firstOn (ok : Nat → Bool) (hi t : Nat) : Nat := firstOnF ok (hi - t) t
theorem firstOn_yes {ok : Nat → Bool} {hi t : Nat} (h : ok t = true) : firstOn ok hi t = t := by
  unfold firstOn
  cases hi - t <;> simp [firstOnF, h]
theorem firstOn_no {ok : Nat → Bool} {hi t : Nat} (h : ok t = false) (ht : t < hi) : firstOn ok hi t = firstOn ok hi (t + 1) := by
  unfold firstOn
  obtain ⟨k, hk⟩ : ∃ k, hi - t = k + 1 := ⟨hi - t - 1, by omega⟩
  rw [hk, show hi - (t + 1) = k from by omega]
  simp [firstOnF, h]
theorem firstOnF_range (ok : Nat → Bool) : ∀ (k t : Nat), t ≤ firstOnF ok k t ∧ firstOnF ok k t ≤ t + k
  | 0, t => by simp [firstOnF]
  | k + 1, t => by
    simp only [firstOnF]
    split
    · omega
    · have := firstOnF_range ok k (t + 1); omega
theorem firstOn_range {ok : Nat → Bool} {hi t : Nat} (h : t ≤ hi) : t ≤ firstOn ok hi t ∧ firstOn ok hi t ≤ hi := by
  have := firstOnF_range ok (hi - t) t
  unfold firstOn; omega
def cutAt (a : List Letter) (ons : List (List Int)) (rs : List Int) (n1 n2 : Nat) : Nat := firstOn (fun t => onsetR a ons (cutR rs t n2)) n2 (n1 + 1)
/-- Where the syllables behind the first begin. -/
def cutsF (a : List Letter) (ons : List (List Int)) (rs : List Int) : List Nat → List Nat
  | n1 :: n2 :: l => cutAt a ons rs n1 n2 :: cutsF a ons rs (n2 :: l)
  | _ => []
theorem onsetR_nil (a : List Letter) (ons : List (List Int)) : onsetR a ons [] = true := rfl
theorem cutR_same (rs : List Int) (n : Nat) : cutR rs n n = [] := by simp [cutR]
theorem onset_cut (a : List Letter) (ons : List (List Int)) (s : ByteArray) (l h : Nat) : onset a ons (encs (cutR (runes s) l h)) = onsetR a ons (cutR (runes s) l h) := by
  rw [onset, cutR, runes_cut]
theorem nucF_sorted (V : Int → Bool) : ∀ (rs : List Int) (n : Nat), (nucF V rs n).Pairwise (· < ·)
  | [], _ => List.Pairwise.nil
  | r :: rs, n => by
    simp only [nucF]
    split
    · exact List.Pairwise.cons (fun k hk => by have := nucF_lt V rs (n + 1) k hk; omega) (nucF_sorted V rs (n + 1))
    · exact nucF_sorted V rs (n + 1)
theorem nuc_bounds {a : List Letter} {s : ByteArray} {i : Nat} (hi : i + 1 < (nuclei a s).length) : (nuclei a s)[i]'(by omega) < (nuclei a s)[i + 1]'hi ∧ (nuclei a s)[i + 1]'hi < (runes s).length := by
  refine ⟨List.pairwise_iff_getElem.1 (show (nuclei a s).Pairwise (· < ·) from nucF_sorted _ _ _) i (i + 1) (by omega) hi (by omega), ?_⟩
  have := nucF_lt (vowelA a) (runes s) 0 _ (List.getElem_mem hi)
  omega
theorem cutsF_drop {a : List Letter} {ons : List (List Int)} {rs : List Int} {ns : List Nat} {i : Nat} (h : i + 1 < ns.length) : cutsF a ons rs (ns.drop i) = cutAt a ons rs (ns[i]'(by omega)) (ns[i + 1]'h) :: cutsF a ons rs (ns.drop (i + 1)) := by
  rw [List.drop_eq_getElem_cons (show i < ns.length by omega), List.drop_eq_getElem_cons h]
  rfl
theorem cutsF_end {a : List Letter} {ons : List (List Int)} {rs : List Int} {ns : List Nat} {i : Nat} (h : ns.length ≤ i + 1) : cutsF a ons rs (ns.drop i) = [] := by
  have : (ns.drop i).length ≤ 1 := by rw [List.length_drop]; omega
  match ns.drop i, this with
  | [], _ => rfl
  | [_], _ => rfl
  | _ :: _ :: _, h => simp at h
def st0 (s : ByteArray) : List Nat := if 0 < (runes s).length then [0] else []
def starts (a : List Letter) (ons : List (List Int)) (s : ByteArray) : List Nat := st0 s ++ cutsF a ons (runes s) (nuclei a s)
def checkE (a : List Letter) (ons : List (List Int)) (ml mr : Int) (s : ByteArray) : Int := if validA a && validP ons ml mr && isWordA a s then 0 else 1
/-- The runes of a word, cut at the given places. -/
def pieces (rs : List Int) : Nat → List Nat → List ByteArray
  | l, [] => if 0 < rs.length then [encs (rs.drop l)] else []
  | l, c :: cs => encs (cutR rs l c) :: pieces rs c cs
def splitA (a : List Letter) (ons : List (List Int)) (s : ByteArray) : List ByteArray := pieces (runes s) 0 (cutsF a ons (runes s) (nuclei a s))
theorem cutR_len (rs : List Int) (l h : Nat) : (cutR rs l h).length ≤ rs.length := by
  simp only [cutR, List.length_take, List.length_drop]; omega
theorem encs_size (rs : List Int) : (encs rs).size ≤ 4 * rs.length := by
  have := runesBytes_size_le rs
  rwa [encs_eq] at this
theorem cut_more {a : List Letter} {ons : List (List Int)} {rs : List Int} {t n : Nat} (h : onsetR a ons (cutR rs t n) = false) (ht : t ≤ n) : t < n := by
  rcases Nat.lt_or_ge t n with h1 | h1
  · exact h1
  · obtain rfl : t = n := by omega
    rw [cutR_same, onsetR_nil] at h
    cases h
theorem pieces_cons (rs : List Int) (l c : Nat) (cs : List Nat) : pieces rs l (c :: cs) = [encs (cutR rs l c)] ++ pieces rs c cs := rfl

/-! #### the reference's way -/
theorem cutsF_len (a : List Letter) (ons : List (List Int)) (rs : List Int) : ∀ ns : List Nat, (cutsF a ons rs ns).length ≤ ns.length - 1
  | [] => by simp [cutsF]
  | [_] => by simp [cutsF]
  | n1 :: n2 :: l => by
    have := cutsF_len a ons rs (n2 :: l)
    simp only [cutsF, List.length_cons] at this ⊢
    omega
theorem starts_len (a : List Letter) (ons : List (List Int)) (s : ByteArray) : (starts a ons s).length ≤ (runes s).length + 1 := by
  have h1 := cutsF_len a ons (runes s) (nuclei a s)
  have h2 : (nuclei a s).length ≤ (runes s).length := nucF_len _ _ _
  have h3 : (st0 s).length ≤ 1 := by unfold st0; split <;> simp
  rw [starts, List.length_append]; omega
/-- The cuts lie one behind the other, each not beyond the nucleus behind it. -/
theorem cutsF_ok (a : List Letter) (ons : List (List Int)) (rs : List Int) : ∀ (ns : List Nat) (m : Nat), ns.Pairwise (· < ·) → (∀ n ∈ ns, n < m) → (cutsF a ons rs ns).Pairwise (· ≤ ·) ∧ (∀ c ∈ cutsF a ons rs ns, c < m ∧ ∀ n, ns.head? = some n → n < c)
  | [], _, _, _ => by simp [cutsF]
  | [_], _, _, _ => by simp [cutsF]
  | n1 :: n2 :: l, m, hp, hm => by
    have hp2 := (List.pairwise_cons.1 hp).2
    have h12 := (List.pairwise_cons.1 hp).1 n2 (List.mem_cons_self ..)
    obtain ⟨k1, k2⟩ := cutsF_ok a ons rs (n2 :: l) m hp2 (fun n hn => hm n (List.mem_cons_of_mem _ hn))
    have hr := firstOn_range (ok := fun t => onsetR a ons (cutR rs t n2)) (hi := n2) (t := n1 + 1) (by omega)
    have hc : n1 + 1 ≤ cutAt a ons rs n1 n2 ∧ cutAt a ons rs n1 n2 ≤ n2 := hr
    have hm2 := hm n2 (by simp)
    simp only [cutsF]
    refine ⟨List.pairwise_cons.2 ⟨fun c hc' => ?_, k1⟩, fun c hc' => ?_⟩
    · have := (k2 c hc').2 n2 rfl; omega
    · simp only [List.head?_cons, Option.some.injEq]
      rcases List.mem_cons.1 hc' with rfl | hc'
      · exact ⟨by omega, fun n e => by omega⟩
      · have := k2 c hc'
        exact ⟨this.1, fun n e => by have := this.2 n2 rfl; omega⟩
def endS (rs : List Int) (ss : List Nat) (i : Nat) : Nat := match ss[i + 1]? with
  | some e => e
  | none => rs.length
theorem endS_in {rs : List Int} {ss : List Nat} {i : Nat} (h : i + 1 < ss.length) : endS rs ss i = ss[i + 1]'h := by
  simp [endS, List.getElem?_eq_getElem h]
theorem endS_out {rs : List Int} {ss : List Nat} {i : Nat} (h : ss.length ≤ i + 1) : endS rs ss i = rs.length := by
  simp [endS, List.getElem?_eq_none h]
def splitS (rs : List Int) : List Nat → List ByteArray
  | [] => []
  | c :: cs => encs (cutR rs c (endS rs (c :: cs) 0)) :: splitS rs cs
theorem splitS_drop {rs : List Int} {ss : List Nat} {i : Nat} (h : i < ss.length) : splitS rs (ss.drop i) = [encs (cutR rs (ss[i]'h) (endS rs ss i))] ++ splitS rs (ss.drop (i + 1)) := by
  rw [List.drop_eq_getElem_cons h, splitS]
  have : endS rs (ss[i] :: ss.drop (i + 1)) 0 = endS rs ss i := by
    simp [endS, List.getElem?_drop]
  rw [this]
  rfl
theorem starts_sorted (a : List Letter) (ons : List (List Int)) (s : ByteArray) : (starts a ons s).Pairwise (· ≤ ·) ∧ ∀ c ∈ starts a ons s, c < (runes s).length := by
  obtain ⟨k1, k2⟩ := cutsF_ok a ons (runes s) (nuclei a s) (runes s).length (nucF_sorted _ _ _) (fun n hn => by have := nucF_lt (vowelA a) (runes s) 0 n hn; omega)
  unfold starts st0
  split
  · rename_i h
    refine ⟨List.pairwise_cons.2 ⟨fun c _ => Nat.zero_le _, k1⟩, fun c hc => ?_⟩
    rcases List.mem_cons.1 hc with rfl | hc
    · exact h
    · exact (k2 c hc).1
  · exact ⟨k1, fun c hc => (k2 c hc).1⟩
theorem starts_bound (a : List Letter) (ons : List (List Int)) (s : ByteArray) (i : Nat) (h : i < (starts a ons s).length) : (starts a ons s)[i] ≤ endS (runes s) (starts a ons s) i ∧ endS (runes s) (starts a ons s) i ≤ (runes s).length := by
  obtain ⟨k1, k2⟩ := starts_sorted a ons s
  have h0 := k2 _ (List.getElem_mem h)
  by_cases h1 : i + 1 < (starts a ons s).length
  · rw [endS_in h1]
    have := List.pairwise_iff_getElem.1 k1 i (i + 1) h h1 (by omega)
    have := k2 _ (List.getElem_mem h1)
    omega
  · rw [endS_out (by omega)]
    omega

/-! #### points -/
def sumR : List ByteArray → Nat
  | [] => 0
  | s :: l => (runes s).length + sumR l
def ptOK (ml mr : Int) (all n : Nat) : Bool := decide (0 < n) && decide (ml ≤ n) && decide (mr ≤ (all : Int) - n)
def ptsF (ml mr : Int) (all : Nat) : List ByteArray → Nat → List Nat
  | [], _ => []
  | s :: l, n => (if ptOK ml mr all n then [n] else []) ++ ptsF ml mr all l (n + (runes s).length)
theorem runes_cutR (s : ByteArray) (l h : Nat) : runes (encs (cutR (runes s) l h)) = cutR (runes s) l h := runes_cut s l (h - l)
theorem runes_drop (s : ByteArray) (l : Nat) : runes (encs ((runes s).drop l)) = (runes s).drop l :=
  runes_encs (fun r hr => runes_valid (List.mem_of_mem_drop hr))
theorem pieces_sum (s : ByteArray) : ∀ (cs : List Nat) (l : Nat), cs.Pairwise (· ≤ ·) → (∀ c ∈ cs, l ≤ c ∧ c ≤ (runes s).length) → l ≤ (runes s).length → sumR (pieces (runes s) l cs) = (runes s).length - l
  | [], l, _, _, hl => by
    simp only [pieces]
    split
    · simp [sumR, runes_drop]
    · simp [sumR]; omega
  | c :: cs, l, hp, hc, hl => by
    have h1 := hc c (List.mem_cons_self ..)
    have ih := pieces_sum s cs c (List.pairwise_cons.1 hp).2 (fun d hd => ⟨(List.pairwise_cons.1 hp).1 d hd, (hc d (List.mem_cons_of_mem _ hd)).2⟩) h1.2
    simp only [pieces, sumR, runes_cutR, ih]
    have : (cutR (runes s) l c).length = c - l := by simp only [cutR, List.length_take, List.length_drop]; omega
    omega
theorem cuts_sorted (a : List Letter) (ons : List (List Int)) (s : ByteArray) : (cutsF a ons (runes s) (nuclei a s)).Pairwise (· ≤ ·) ∧ ∀ c ∈ cutsF a ons (runes s) (nuclei a s), 0 < c ∧ c < (runes s).length := by
  obtain ⟨k1, k2⟩ := cutsF_ok a ons (runes s) (nuclei a s) (runes s).length (nucF_sorted _ _ _) (fun n hn => by have := nucF_lt (vowelA a) (runes s) 0 n hn; omega)
  refine ⟨k1, fun c hc => ⟨?_, (k2 c hc).1⟩⟩
  cases hn : (nuclei a s).head? with
  | none => rw [List.head?_eq_none_iff.1 hn] at hc; simp [cutsF] at hc
  | some n => have := (k2 c hc).2 n hn; omega
theorem splitA_sum (a : List Letter) (ons : List (List Int)) (s : ByteArray) : sumR (splitA a ons s) = (runes s).length := by
  obtain ⟨k1, k2⟩ := cuts_sorted a ons s
  have := pieces_sum s (cutsF a ons (runes s) (nuclei a s)) 0 k1 (fun c hc => ⟨Nat.zero_le _, by have := k2 c hc; omega⟩) (Nat.zero_le _)
  simpa [splitA] using this
theorem pieces_len (rs : List Int) : ∀ (cs : List Nat) (l : Nat), (pieces rs l cs).length ≤ cs.length + 1
  | [], l => by simp only [pieces]; split <;> simp
  | c :: cs, l => by have := pieces_len rs cs c; simp only [pieces, List.length_cons]; omega
theorem splitA_len (a : List Letter) (ons : List (List Int)) (s : ByteArray) : (splitA a ons s).length ≤ (runes s).length + 1 := by
  have h1 := pieces_len (runes s) (cutsF a ons (runes s) (nuclei a s)) 0
  have h2 := cutsF_len a ons (runes s) (nuclei a s)
  have h3 : (nuclei a s).length ≤ (runes s).length := nucF_len _ _ _
  unfold splitA; omega
theorem ptOK_iff {ml mr : Int} {all n : Nat} : ptOK ml mr all n = true ↔ 0 < n ∧ ml ≤ n ∧ mr ≤ (all : Int) - n := by
  simp [ptOK, and_assoc]

def ptOK2 (ml mr : Int) (all i n : Nat) : Bool := decide (0 < i) && decide (ml ≤ n) && decide (mr ≤ (all : Int) - n)
def ptsR (ml mr : Int) (all : Nat) : List Nat → Nat → List Nat
  | [], _ => []
  | n :: l, i => (if ptOK2 ml mr all i n then [n] else []) ++ ptsR ml mr all l (i + 1)
theorem ptOK2_iff {ml mr : Int} {all i n : Nat} : ptOK2 ml mr all i n = true ↔ 0 < i ∧ ml ≤ n ∧ mr ≤ (all : Int) - n := by
  simp [ptOK2, and_assoc]

/-! #### hyphens -/
def dash : ByteArray := ⟨#[45]⟩
def hyF (pts : List Int) : List Int → Nat → ByteArray → ByteArray
  | [], _, acc => acc
  | r :: rs, i, acc => hyF pts rs (i + 1) ((if pts.any (fun k => k == (i : Int)) && decide (0 < i) then acc ++ dash else acc) ++ Utf8.encode r)
def hyph (pts : List Int) (s : ByteArray) : ByteArray := if utf8R s then hyF pts (runes s) 0 .empty else s
def rejoin (s : ByteArray) : ByteArray := ⟨(s.data.toList.filter (fun b => b != 45)).toArray⟩
theorem any_take_succ {pts : List Int} {j : Nat} (h : j < pts.length) (f : Int → Bool) : (pts.take (j + 1)).any f = ((pts.take j).any f || f (pts[j]'h)) := by
  rw [List.take_add_one, List.getElem?_eq_getElem h, List.any_append]; simp
theorem byte_ne {b : UInt8} (h : ¬ ((b.toNat : Int)) = 45) : (b != 45) = true := by
  rw [bne_iff_ne]; rintro rfl; exact h rfl
theorem byte_eq {b : UInt8} (h : ((b.toNat : Int)) = 45) : ¬ (b != 45) = true := by
  rw [bne_iff_ne, Decidable.not_not]
  apply UInt8.toNat_inj.1
  have : (45 : UInt8).toNat = 45 := rfl
  omega
theorem data_drop {s : ByteArray} {i : Nat} (h : i < s.size) : s.data.toList.drop i = s[i] :: s.data.toList.drop (i + 1) := by
  rw [List.drop_eq_getElem_cons (show i < s.data.toList.length from by simpa using h)]
  rfl

/-! #### the laws -/
def fewA (a : List Letter) (ons : List (List Int)) (s : ByteArray) : Bool := ons.all (fun o => decide (o.length ≤ 8)) && (decide (a.length ≤ 70) && (decide (ons.length ≤ 40) && decide (s.size ≤ 200)))

/-! #### the examples -/
def awL : List Letter := [⟨97, 1⟩, ⟨105, 1⟩, ⟨116, 258⟩, ⟨114, 130⟩, ⟨110, 66⟩]
def awO : List (List Int) := [[2], [256, 128]]
def awS : ByteArray := { data := #[116, 97, 110, 116, 114, 105, 110, 97] }
def awP : List ByteArray := [{ data := #[116, 97, 110] }, { data := #[116, 114, 105] }, { data := #[110, 97] }]
def awH : ByteArray := { data := #[116, 97, 110, 45, 116, 114, 105, 45, 110, 97] }
theorem aw_check : checkE awL awO 2 2 awS = 0 := by kernel_rfl
theorem aw_split : splitA awL awO awS = awP := by kernel_rfl
theorem aw_points : ptsF 2 2 (runes awS).length (splitA awL awO awS) 0 = [3, 6] := by kernel_rfl
theorem aw_hyph : hyph [3, 6] awS = awH := by kernel_rfl
theorem aw_tr : onset awL awO { data := #[116, 114] } = true := by kernel_rfl
theorem aw_rt : onset awL awO { data := #[114, 116] } = false := by kernel_rfl
end Go.GH
