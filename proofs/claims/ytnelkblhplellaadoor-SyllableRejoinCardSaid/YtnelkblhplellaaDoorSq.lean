/-
  Syllables, their nuclei and their cuts, told one by one; a word's last rune; a word is the bytes of its runes. Proved here: laws of plain lists. No conditions.
-/
import Derived.Test.YtnelkblhplellaaDoorSp
import Derived.Test.YtnelkblhplellaaDoorHy
import Derived.Test.YtnelkblhplellaaDoorHx
import Derived.Lib.SpaceUEq
import Derived.Shelf.Unicode.DecodeLast
set_option linter.unusedVariables false
set_option linter.unusedSimpArgs false
namespace Go.GH
open Go Go.Lib

/-! #### a word is the bytes of its runes -/
theorem encBy_lib (c : Nat) (hv : Utf8.valid (c : Int) = true) : encBy (c : Int) = encodeRune (c : Int) := by
  obtain ⟨c', h1, hc⟩ := valid_cases hv
  have hcc : c' = c := by omega
  subst hcc
  have u : ∀ n : Nat, n < 256 → UInt8.ofNat n = (n : Int).toNat.toUInt8 := fun n _ => rfl
  unfold encodeRune
  by_cases h1 : c' < 128
  · rw [encBy, enc_1 hv h1, encodeRuneZ_one (by omega) (by omega)]; rfl
  · by_cases h2 : c' < 2048
    · rw [encBy, enc_2 hv (by omega) h2, encodeRuneZ_two (by omega) (by omega)]
      show [UInt8.ofNat (192 + c' / 64), UInt8.ofNat (128 + c' % 64)] = [(192 + (c' : Int) / 64).toNat.toUInt8, (128 + (c' : Int) % 64).toNat.toUInt8]
      rw [show (192 + (c' : Int) / 64).toNat = 192 + c' / 64 from by omega, show (128 + (c' : Int) % 64).toNat = 128 + c' % 64 from by omega]
    · by_cases h3 : c' < 65536
      · rw [encBy, enc_3 hv (by omega) h3, encodeRuneZ_three (by omega)]
        show [UInt8.ofNat (224 + c' / 4096), UInt8.ofNat (128 + c' / 64 % 64), UInt8.ofNat (128 + c' % 64)] = [(224 + (c' : Int) / 4096).toNat.toUInt8, (128 + (c' : Int) / 64 % 64).toNat.toUInt8, (128 + (c' : Int) % 64).toNat.toUInt8]
        rw [show (224 + (c' : Int) / 4096).toNat = 224 + c' / 4096 from by omega, show (128 + (c' : Int) / 64 % 64).toNat = 128 + c' / 64 % 64 from by omega, show (128 + (c' : Int) % 64).toNat = 128 + c' % 64 from by omega]
      · rw [encBy, enc_4 hv (by omega), encodeRuneZ_four (by omega) (by omega)]
        show [UInt8.ofNat (240 + c' / 262144), UInt8.ofNat (128 + c' / 4096 % 64), UInt8.ofNat (128 + c' / 64 % 64), UInt8.ofNat (128 + c' % 64)] = [(240 + (c' : Int) / 262144).toNat.toUInt8, (128 + (c' : Int) / 4096 % 64).toNat.toUInt8, (128 + (c' : Int) / 64 % 64).toNat.toUInt8, (128 + (c' : Int) % 64).toNat.toUInt8]
        rw [show (240 + (c' : Int) / 262144).toNat = 240 + c' / 262144 from by omega, show (128 + (c' : Int) / 4096 % 64).toNat = 128 + c' / 4096 % 64 from by omega, show (128 + (c' : Int) / 64 % 64).toNat = 128 + c' / 64 % 64 from by omega, show (128 + (c' : Int) % 64).toNat = 128 + c' % 64 from by omega]
theorem data_app2 (x y : ByteArray) : (x ++ y).data.toList = x.data.toList ++ y.data.toList := by simp
theorem encs_cons_data (r : Int) (rs : List Int) : (encs (r :: rs)).data.toList = encBy r ++ (encs rs).data.toList := by
  rw [encs, data_app2, encBy]
theorem step_bytes (s : ByteArray) (p : Nat) (hp : p < s.size) (h : stepOK s (p, ((Utf8.decode s p).1 : Int)) = true) : encBy ((Utf8.decode s p).1 : Int) = (s.data.toList.drop p).take (Utf8.decode s p).2 := by
  have hd := decodeL_drop s p
  have hlen : (s.data.toList.drop p).length = s.size - p := by simp
  have hne : s.data.toList.drop p ≠ [] := by
    intro h; rw [h] at hlen; simp at hlen; omega
  rw [step_valid s p hp] at h
  have h' : ¬ ((Utf8.decode s p).1 = 65533 ∧ (Utf8.decode s p).2 = 1) := fun hb => by rw [decide_eq_true hb] at h; cases h
  have := encode_decode _ hne (by rw [hd]; exact h')
  rw [hd] at this
  rw [← this, encBy_lib _ (decode_valid s p)]
theorem encs_at (s : ByteArray) : ∀ (f p : Nat), s.size - p ≤ f → (steps s p).all (stepOK s) = true → (encs (runesAt s p)).data.toList = s.data.toList.drop p
  | 0, p, h, _ => by rw [runesAt_ge (by omega), List.drop_eq_nil_of_le (by simp; omega)]; rfl
  | f + 1, p, h, hv => by
    by_cases hp : p < s.size
    · have hw := decode_w s p
      rw [steps_lt hp, List.all_cons, Bool.and_eq_true] at hv
      have ih := encs_at s f (p + (Utf8.decode s p).2) (by omega) hv.2
      rw [runesAt_lt hp, encs_cons_data, ih, step_bytes s p hp hv.1, ← List.drop_drop, List.take_append_drop]
    · rw [runesAt_ge (by omega), List.drop_eq_nil_of_le (by simp; omega)]; rfl
theorem encs_runes {s : ByteArray} (h : utf8R s = true) : encs (runes s) = s := by
  have := encs_at s _ 0 (Nat.le_refl _) h
  rw [runesAt_zero, List.drop_zero] at this
  apply ByteArray.ext
  exact Array.toList_inj.1 this
theorem encs_append : ∀ x y : List Int, encs (x ++ y) = encs x ++ encs y
  | [], y => by
    apply ByteArray.ext
    simp [encs]
  | r :: x, y => by rw [List.cons_append, encs, encs, encs_append x y, ByteArray.append_assoc]
theorem encs_ne {rs : List Int} (h : rs ≠ []) : encs rs ≠ .empty := by
  cases rs with
  | nil => exact absurd rfl h
  | cons r rs =>
    intro he
    have h1 := encode_pos r
    have h2 := congrArg ByteArray.size he
    simp only [encs, ByteArray.size_append] at h2
    have : ByteArray.empty.size = 0 := rfl
    omega

/-! #### the last rune -/
theorem runeStart_lead {n : Nat} (h : n < 256) (h2 : n / 64 ≠ 2) : runeStartB (UInt8.ofNat n) = true := by
  unfold runeStartB
  rw [byte_nat h]
  simpa using h2
theorem runeStart_tail {n : Nat} (h : n < 256) (h2 : n / 64 = 2) : runeStartB (UInt8.ofNat n) = false := by
  unfold runeStartB
  rw [byte_nat h]
  simpa using h2
theorem mk_data (b : ByteArray) : (⟨b.data.toList.toArray⟩ : ByteArray) = b := by apply ByteArray.ext; simp
theorem app_empty (b : ByteArray) : b ++ ByteArray.empty = b := by apply ByteArray.ext; simp
theorem len_data (b : ByteArray) : b.data.toList.length = b.size := by simp
theorem decodeL_enc {c : Nat} (hv : Utf8.valid (c : Int) = true) : decodeL (encBy (c : Int)) = (c, (encBy (c : Int)).length) := by
  have := decode_encode hv .empty
  rw [app_empty] at this
  rw [decodeL, encBy, mk_data, this, len_data, Int.toNat_natCast]
theorem last_enc (t : List UInt8) {c : Nat} (hv : Utf8.valid (c : Int) = true) : decodeLastL (t ++ encBy (c : Int)) = (c, (encBy (c : Int)).length) := by
  have hd := decodeL_enc hv
  obtain ⟨c', h1, hc⟩ := valid_cases hv
  have hcc : c' = c := by omega
  subst hcc
  clear h1
  by_cases h1 : c' < 128
  · have e : encBy (c' : Int) = [UInt8.ofNat c'] := by rw [encBy, enc_1 hv h1]
    rw [e, decodeLastL_ascii t _ (by rw [byte_nat (by omega)]; exact h1), byte_nat (by omega)]; rfl
  · by_cases h2 : c' < 2048
    · have e : encBy (c' : Int) = [UInt8.ofNat (192 + c' / 64), UInt8.ofNat (128 + c' % 64)] := by rw [encBy, enc_2 hv (by omega) h2]
      rw [e] at hd ⊢
      rw [last2 t _ _ (by rw [byte_nat (by omega)]; omega) (runeStart_lead (by omega) (by omega)) (by rw [hd]; rfl), hd]
    · by_cases h3 : c' < 65536
      · have e : encBy (c' : Int) = [UInt8.ofNat (224 + c' / 4096), UInt8.ofNat (128 + c' / 64 % 64), UInt8.ofNat (128 + c' % 64)] := by rw [encBy, enc_3 hv (by omega) h3]
        rw [e] at hd ⊢
        rw [last3 t _ _ _ (by rw [byte_nat (by omega)]; omega) (runeStart_tail (by omega) (by omega)) (runeStart_lead (by omega) (by omega)) (by rw [hd]; rfl), hd]
      · have e : encBy (c' : Int) = [UInt8.ofNat (240 + c' / 262144), UInt8.ofNat (128 + c' / 4096 % 64), UInt8.ofNat (128 + c' / 64 % 64), UInt8.ofNat (128 + c' % 64)] := by rw [encBy, enc_4 hv (by omega)]
        rw [e] at hd ⊢
        have hg : ∀ k, 1 ≤ k → k ≤ 4 → (t ++ [UInt8.ofNat (240 + c' / 262144), UInt8.ofNat (128 + c' / 4096 % 64), UInt8.ofNat (128 + c' / 64 % 64), UInt8.ofNat (128 + c' % 64)]).getD ((t ++ [UInt8.ofNat (240 + c' / 262144), UInt8.ofNat (128 + c' / 4096 % 64), UInt8.ofNat (128 + c' / 64 % 64), UInt8.ofNat (128 + c' % 64)]).length - k) 0 = [UInt8.ofNat (240 + c' / 262144), UInt8.ofNat (128 + c' / 4096 % 64), UInt8.ofNat (128 + c' / 64 % 64), UInt8.ofNat (128 + c' % 64)].getD (4 - k) 0 :=
          fun k h1 h2 => getD_app_end t _ k h1 h2
        have hl : (t ++ [UInt8.ofNat (240 + c' / 262144), UInt8.ofNat (128 + c' / 4096 % 64), UInt8.ofNat (128 + c' / 64 % 64), UInt8.ofNat (128 + c' % 64)]).length = t.length + 4 := by simp
        have g1 := hg 1 (by omega) (by omega); have g2 := hg 2 (by omega) (by omega); have g3 := hg 3 (by omega) (by omega); have g4 := hg 4 (by omega) (by omega)
        have hls := lastStart_at4 _ t.length hl (by rw [← show t.length + 4 - 2 = t.length + 2 from by omega, ← hl, g2]; exact runeStart_tail (by omega) (by omega)) (by rw [← show t.length + 4 - 3 = t.length + 1 from by omega, ← hl, g3]; exact runeStart_tail (by omega) (by omega)) (by rw [← show t.length + 4 - 4 = t.length from by omega, ← hl, g4]; exact runeStart_lead (by omega) (by omega))
        unfold decodeLastL
        rw [if_neg (by simp), g1, if_neg (by show ¬ (UInt8.ofNat (128 + c' % 64)).toNat < 128; rw [byte_nat (by omega)]; omega), hls]
        simp only [List.drop_left, hd, hl]
        exact if_pos rfl
/-- The last rune of a word that is the bytes of some runes. -/
theorem last_encs {rs : List Int} (h : rs ≠ []) (hv : ∀ r ∈ rs, Utf8.valid r = true) : ((decodeLastL (encs rs).data.toList).1 : Int) = rs.getLast h := by
  have e := List.dropLast_concat_getLast h
  obtain ⟨c, hc, _⟩ := valid_cases (hv _ (List.getLast_mem h))
  have h1 : encs rs = encs rs.dropLast ++ encs [rs.getLast h] := by rw [← encs_append, e]
  have h0 : (encs []).data.toList = [] := rfl
  have h2 : (encs rs).data.toList = (encs rs.dropLast).data.toList ++ encBy (c : Int) := by
    rw [h1, ← hc, data_app2, encs_cons_data, h0, List.append_nil]
  rw [h2, last_enc _ (by rw [← hc]; exact hv _ (List.getLast_mem h)), hc]

/-! #### syllables, one by one: where each begins, its nucleus, where it ends -/
structure Seg where
  lo : Nat
  n : Nat
  hi : Nat
def segsF (a : List Letter) (ons : List (List Int)) (rs : List Int) : Nat → List Nat → List Seg
  | _, [] => []
  | l, [n] => [⟨l, n, rs.length⟩]
  | l, n1 :: n2 :: ns => ⟨l, n1, cutAt a ons rs n1 n2⟩ :: segsF a ons rs (cutAt a ons rs n1 n2) (n2 :: ns)
def Seg.str (rs : List Int) (g : Seg) : ByteArray := encs (cutR rs g.lo g.hi)
theorem cutR_end (rs : List Int) (l : Nat) : cutR rs l rs.length = rs.drop l := by
  simp only [cutR]; rw [List.take_of_length_le (by simp)]
theorem pieces_segs (a : List Letter) (ons : List (List Int)) (rs : List Int) (h : 0 < rs.length) : ∀ (ns : List Nat) (l : Nat), ns ≠ [] → pieces rs l (cutsF a ons rs ns) = (segsF a ons rs l ns).map (Seg.str rs)
  | [], _, h => absurd rfl h
  | [n], l, _ => by simp only [cutsF, pieces, if_pos h, segsF, List.map_cons, List.map_nil, Seg.str, cutR_end]
  | n1 :: n2 :: ns, l, _ => by
    simp only [cutsF, pieces, segsF, List.map_cons]
    rw [pieces_segs a ons rs h (n2 :: ns) _ (by simp)]
    rfl
theorem nucF_append (V : Int → Bool) : ∀ (x y : List Int) (n : Nat), nucF V (x ++ y) n = nucF V x n ++ nucF V y (n + x.length)
  | [], y, n => by simp [nucF]
  | r :: x, y, n => by
    simp only [List.cons_append, nucF, nucF_append V x y (n + 1), List.length_cons]
    rw [show n + 1 + x.length = n + (x.length + 1) from by omega]
    split <;> rfl
theorem nucF_shift (V : Int → Bool) : ∀ (x : List Int) (n m : Nat), nucF V x (n + m) = (nucF V x n).map (· + m)
  | [], _, _ => rfl
  | r :: x, n, m => by
    simp only [nucF]
    rw [show n + m + 1 = n + 1 + m from by omega, nucF_shift V x (n + 1) m]
    split <;> rfl
theorem two_parts {A B ns : List Nat} {n1 c : Nat} (h : A ++ B = n1 :: ns) (hA : ∀ k ∈ A, k < c) (hB : ∀ k ∈ B, c ≤ k) (h1 : n1 < c) (hn : ∀ k ∈ ns, c ≤ k) : A = [n1] ∧ B = ns := by
  cases A with
  | nil =>
    simp only [List.nil_append] at h
    have := hB n1 (by rw [h]; exact List.mem_cons_self ..)
    omega
  | cons x A =>
    simp only [List.cons_append, List.cons.injEq] at h
    obtain ⟨rfl, h⟩ := h
    cases A with
    | nil => exact ⟨rfl, by simpa using h⟩
    | cons y A =>
      have h1 := hA y (by simp)
      have h2 := hn y (by rw [← h]; simp)
      omega
theorem drop_cut (rs : List Int) {l c : Nat} (h : l ≤ c) : rs.drop l = cutR rs l c ++ rs.drop c := by
  have : rs.drop c = (rs.drop l).drop (c - l) := by rw [List.drop_drop, show l + (c - l) = c from by omega]
  rw [this, cutR, List.take_append_drop]
theorem cutAt_range (a : List Letter) (ons : List (List Int)) (rs : List Int) {n1 n2 : Nat} (h : n1 < n2) : n1 < cutAt a ons rs n1 n2 ∧ cutAt a ons rs n1 n2 ≤ n2 := by
  have := firstOn_range (ok := fun t => onsetR a ons (cutR rs t n2)) (hi := n2) (t := n1 + 1) (by omega)
  unfold cutAt; omega
/-- Each syllable holds its nucleus, and no other vowel. -/
theorem segs_ok (a : List Letter) (ons : List (List Int)) (rs : List Int) (V : Int → Bool) : ∀ (ns : List Nat) (l : Nat), l ≤ rs.length → nucF V (rs.drop l) l = ns → ns.Pairwise (· < ·) →
    ∀ g ∈ segsF a ons rs l ns, g.lo ≤ g.n ∧ g.n < g.hi ∧ g.hi ≤ rs.length ∧ nucF V (cutR rs g.lo g.hi) 0 = [g.n - g.lo]
  | [], _, _, _, _, g, hg => by simp [segsF] at hg
  | [n], l, hl, hn, hs, g, hg => by
    simp only [segsF, List.mem_singleton] at hg
    subst hg
    have hr := nucF_lt V (rs.drop l) l n (by rw [hn]; simp)
    simp only [List.length_drop] at hr
    refine ⟨hr.1, by simp only; omega, Nat.le_refl _, ?_⟩
    have := nucF_shift V (rs.drop l) 0 l
    rw [Nat.zero_add, hn] at this
    simp only [cutR_end]
    cases hx : nucF V (rs.drop l) 0 with
    | nil => rw [hx] at this; cases this
    | cons x xs =>
      rw [hx] at this
      simp only [List.map_cons, List.cons.injEq] at this
      obtain ⟨h1, h2⟩ := this
      have : xs = [] := by cases xs with | nil => rfl | cons _ _ => cases h2
      subst this
      rw [show n - l = x from by omega]
  | n1 :: n2 :: ns, l, hl, hn, hs, g, hg => by
    have h12 := (List.pairwise_cons.1 hs).1 n2 (List.mem_cons_self ..)
    have hs2 := (List.pairwise_cons.1 hs).2
    have hc := cutAt_range a ons rs h12
    generalize hcc : cutAt a ons rs n1 n2 = c at hc
    have hr1 := nucF_lt V (rs.drop l) l n1 (by rw [hn]; simp)
    have hr2 := nucF_lt V (rs.drop l) l n2 (by rw [hn]; simp)
    simp only [List.length_drop] at hr1 hr2
    have hlen : (cutR rs l c).length = c - l := by simp only [cutR, List.length_take, List.length_drop]; omega
    have hsplit := nucF_append V (cutR rs l c) (rs.drop c) l
    rw [← drop_cut rs (show l ≤ c by omega), hn, hlen, show l + (c - l) = c from by omega] at hsplit
    obtain ⟨hA, hB⟩ := two_parts hsplit.symm (fun k hk => by have := nucF_lt V (cutR rs l c) l k hk; omega) (fun k hk => (nucF_lt V (rs.drop c) c k hk).1) hc.1 (fun k hk => by
      rcases List.mem_cons.1 hk with rfl | hk
      · exact hc.2
      · have := (List.pairwise_cons.1 hs2).1 k hk; omega)
    simp only [segsF, hcc, List.mem_cons] at hg
    rcases hg with rfl | hg
    · refine ⟨hr1.1, hc.1, by simp only; omega, ?_⟩
      have := nucF_shift V (cutR rs l c) 0 l
      rw [Nat.zero_add, hA] at this
      simp only
      cases hx : nucF V (cutR rs l c) 0 with
      | nil => rw [hx] at this; cases this
      | cons x xs =>
        rw [hx] at this
        simp only [List.map_cons, List.cons.injEq] at this
        obtain ⟨h1, h2⟩ := this
        have : xs = [] := by cases xs with | nil => rfl | cons _ _ => cases h2
        subst this
        rw [show n1 - l = x from by omega]
    · exact segs_ok a ons rs V (n2 :: ns) c (by omega) hB hs2 g hg
theorem segsF_len (a : List Letter) (ons : List (List Int)) (rs : List Int) : ∀ (ns : List Nat) (l : Nat), (segsF a ons rs l ns).length = ns.length
  | [], _ => rfl
  | [_], _ => rfl
  | n1 :: n2 :: ns, l => by simp only [segsF, List.length_cons, segsF_len a ons rs (n2 :: ns)]
/-- Where one syllable ends the next begins: at the cut between their nuclei. -/
theorem segs_next (a : List Letter) (ons : List (List Int)) (rs : List Int) : ∀ (ns : List Nat) (l i : Nat) (g h : Seg), (segsF a ons rs l ns)[i]? = some g → (segsF a ons rs l ns)[i + 1]? = some h → g.hi = h.lo ∧ h.lo = cutAt a ons rs g.n h.n ∧ g.n < h.n ∨ ¬ ns.Pairwise (· < ·)
  | [], _, _, _, _, h1, _ => by simp [segsF] at h1
  | [_], _, i, _, _, _, h2 => by simp [segsF] at h2
  | [n1, n2], l, 0, g, h, h1, h2 => by
    simp only [segsF, List.getElem?_cons_zero, List.getElem?_cons_succ, Option.some.injEq] at h1 h2
    subst h1; subst h2
    by_cases hs : n1 < n2
    · exact .inl ⟨rfl, rfl, hs⟩
    · exact .inr (fun hp => hs ((List.pairwise_cons.1 hp).1 n2 (List.mem_cons_self ..)))
  | n1 :: n2 :: n3 :: ns, l, 0, g, h, h1, h2 => by
    simp only [segsF, List.getElem?_cons_zero, List.getElem?_cons_succ, Option.some.injEq] at h1 h2
    subst h1; subst h2
    by_cases hs : n1 < n2
    · exact .inl ⟨rfl, rfl, hs⟩
    · exact .inr (fun hp => hs ((List.pairwise_cons.1 hp).1 n2 (List.mem_cons_self ..)))
  | n1 :: n2 :: ns, l, i + 1, g, h, h1, h2 => by
    simp only [segsF, List.getElem?_cons_succ] at h1 h2
    rcases segs_next a ons rs (n2 :: ns) _ i g h h1 h2 with h3 | h3
    · exact .inl h3
    · exact .inr (fun hp => h3 (List.pairwise_cons.1 hp).2)
theorem firstOn_ok {ok : Nat → Bool} {hi t : Nat} (h : ok hi = true) (ht : t ≤ hi) : ok (firstOn ok hi t) = true := by
  have key : ∀ (k t : Nat), hi - t = k → t ≤ hi → ok (firstOnF ok k t) = true := by
    intro k
    induction k with
    | zero => intro t h1 h2; have : t = hi := by omega
              subst this; exact h
    | succ k ih =>
      intro t h1 h2
      simp only [firstOnF]
      split
      · assumption
      · exact ih (t + 1) (by omega) (by omega)
  exact key _ t rfl ht
theorem firstOn_before {ok : Nat → Bool} {hi : Nat} : ∀ (k t : Nat), hi - t = k → ∀ j, t ≤ j → j < firstOn ok hi t → ok j = false := by
  intro k
  induction k with
  | zero =>
    intro t h j h1 h2
    unfold firstOn at h2
    rw [h] at h2
    simp only [firstOnF] at h2
    omega
  | succ k ih =>
    intro t h j h1 h2
    by_cases hok : ok t = true
    · rw [firstOn_yes hok] at h2; omega
    · have hok : ok t = false := by simpa using hok
      rw [firstOn_no hok (by omega)] at h2
      by_cases hj : j = t
      · subst hj; exact hok
      · exact ih (t + 1) (by omega) j (by omega) h2
end Go.GH
