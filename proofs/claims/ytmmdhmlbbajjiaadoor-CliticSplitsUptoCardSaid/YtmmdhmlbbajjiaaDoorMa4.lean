/-
  Part 4 of the texts behind the walks of this claim: an own layer over the kit's wp, plain laws, and walks. No conditions.
-/
import Derived.Test.YtmmdhmlbbajjiaaDoorMa3
import Derived.Lib.MapLaws
import Derived.Lib.TrimUEq
import Derived.Lib.LaidU8T
import Derived.Shelf.Unicode.ValidAny
import Derived.KernelRfl
import Derived.Lib.SpaceUEq
import Derived.Test.YtmmdhmlbbajjiaaDoorProg
import Derived.RangeFuncLeaves
import Derived.RangeFuncCalls
import Derived.RangeFuncRecord
import Derived.RangeFuncSeq
import Derived.RangeFuncOwn
import Derived.TacticsIn
import Derived.LoopNIn
import Derived.DeepKeys3
import Derived.Lib.AppendStr
set_option linter.unusedVariables false
set_option linter.unusedSimpArgs false
set_option linter.deprecated false
namespace Go.GH
open Go Go.Lib Go.Proofs Go.RowKit

theorem extract_eq (s : ByteArray) (p : Nat) : (s.extract p (p + 3)).data.toList = (s.data.toList.drop p).take 3 := by
  simp [ByteArray.data_extract, List.take_drop]
theorem dec_fffd {l : List UInt8} (h : l.take 3 = [239, 191, 189]) : decodeL l = (65533, 3) := by
  match l, h with
  | [], h => simp at h
  | [_], h => simp at h
  | [_, _], h => simp at h
  | a :: b :: c :: t, h =>
    simp only [List.take_succ_cons, List.take_zero, List.cons.injEq, and_true] at h
    obtain ⟨rfl, rfl, rfl⟩ := h
    rw [decodeL_N]
    generalize hb : ((239 :: 191 :: 189 :: t : List UInt8).getD 3 0).toNat = b3
    have e0 : ((239 :: 191 :: 189 :: t : List UInt8).getD 0 0).toNat = 239 := rfl
    have e1 : ((239 :: 191 :: 189 :: t : List UInt8).getD 1 0).toNat = 191 := rfl
    have e2 : ((239 :: 191 :: 189 :: t : List UInt8).getD 2 0).toNat = 189 := rfl
    have hn : 2 < (239 :: 191 :: 189 :: t : List UInt8).length := by simp
    rw [e0, e1, e2]
    generalize (239 :: 191 :: 189 :: t : List UInt8).length = n at hn
    unfold decodeN
    rw [if_neg (by omega), if_neg (by omega), if_pos (by omega), if_pos (by omega)]
theorem enc_fffd : encodeRune ((65533 : Nat) : Int) = [239, 191, 189] := by decide
theorem step_valid (s : ByteArray) (p : Nat) (hp : p < s.size) : stepOK s (p, ((Utf8.decode s p).1 : Int)) = !(decide ((Utf8.decode s p).1 = 65533 ∧ (Utf8.decode s p).2 = 1)) := by
  have hd := decodeL_drop s p
  have hlen : (s.data.toList.drop p).length = s.size - p := by simp
  have hne : s.data.toList.drop p ≠ [] := by
    intro h; rw [h] at hlen; simp at hlen; omega
  by_cases hr : (Utf8.decode s p).1 = 65533
  · have hr' : (((Utf8.decode s p).1 : Nat) : Int) = 65533 := by omega
    by_cases h1 : (Utf8.decode s p).2 = 1
    · rw [decide_eq_true ⟨hr, h1⟩]
      simp only [Bool.not_true]
      unfold stepOK
      rw [hr']
      simp only [beq_self_eq_true, Bool.not_true, Bool.false_or, Bool.and_eq_false_iff, decide_eq_false_iff_not]
      refine .inr (fun h => ?_)
      have h2 : (s.data.toList.drop p).take 3 = [239, 191, 189] := by rw [← extract_eq, h]; rfl
      rw [dec_fffd h2] at hd
      rw [← hd] at h1
      cases h1
    · rw [decide_eq_false (fun h => h1 h.2)]
      simp only [Bool.not_false]
      have h3 := encode_decode _ hne (by rw [hd]; exact fun h => h1 h.2)
      rw [hd, hr, enc_fffd] at h3
      have hw : (Utf8.decode s p).2 ≤ 3 ∨ 3 ≤ (Utf8.decode s p).2 := by omega
      have hl3 := congrArg List.length h3
      simp only [List.length_cons, List.length_nil, List.length_take, hlen] at hl3
      have h4 : (s.data.toList.drop p).take 3 = [239, 191, 189] := by
        rw [h3]
        apply List.ext_getElem?
        intro j
        simp only [List.getElem?_take]
        by_cases hj : j < 3
        · rw [if_pos hj, if_pos (by omega)]
        · rw [if_neg hj]
          split
          · rw [List.getElem?_eq_none (by omega)]
          · rfl
      have h5 : s.extract p (p + 3) = efbfbd := by
        apply ByteArray.ext
        apply Array.toList_inj.1
        rw [extract_eq, h4]; rfl
      have : p + 3 ≤ s.size := by
        have := congrArg List.length h4
        simp only [List.length_take, hlen, List.length_cons, List.length_nil] at this
        omega
      unfold stepOK
      rw [hr', h5]
      simp [this]
  · rw [decide_eq_false (fun h => hr h.1), stepOK_no (by omega)]; rfl
theorem valid_at (s : ByteArray) : ∀ (f p : Nat), s.size - p ≤ f → validD (s.data.toList.drop p) = (steps s p).all (stepOK s)
  | 0, p, h => by
    rw [steps_ge (by omega), List.drop_eq_nil_of_le (by simp; omega)]; rfl
  | f + 1, p, h => by
    by_cases hp : p < s.size
    · have hw := decode_w s p
      have hlen : (s.data.toList.drop p).length = s.size - p := by simp
      rw [validD_step _ (by intro h; rw [h] at hlen; simp at hlen; omega), steps_lt hp, List.all_cons, step_valid s p hp, decodeL_drop, List.drop_drop, valid_at s f _ (by omega)]
      by_cases hb : (Utf8.decode s p).1 = 65533 ∧ (Utf8.decode s p).2 = 1
      · rw [if_pos hb, decide_eq_true hb]; rfl
      · rw [if_neg hb, decide_eq_false hb]; rfl
    · rw [steps_ge (by omega), List.drop_eq_nil_of_le (by simp; omega)]; rfl
theorem utf8R_valid (s : ByteArray) : utf8R s = validD s.data.toList := by
  have := valid_at s _ 0 (Nat.le_refl _)
  rw [List.drop_zero] at this
  exact this.symm

/-- The library's two tables, in blocks that never turn. -/
def tabE (g3 g4 : Nat) : Env where
  holds := fun w F => Lib.Utf8Tabs g3 g4 w ∧ F g3 ∧ F g4
  mono := fun {w w' F F'} hw hF h => by
    obtain ⟨⟨h1, h2⟩, h3, h4⟩ := h
    refine ⟨⟨fun c hc => ?_, fun i hi => ⟨?_, ?_⟩⟩, hF _ h3, hF _ h4⟩
    · rw [cell?_same (hw _ h3)]; exact h1 c hc
    · rw [cell?_same (hw _ h4)]; exact (h2 i hi).1
    · rw [cell?_same (hw _ h4)]; exact (h2 i hi).2
abbrev E0 : Env := tabE (Tryd.laysValid_ren.g 3) (Tryd.laysValid_ren.g 4)
theorem tabE_all {g3 g4 : Nat} {w : World} (h : Lib.Utf8Tabs g3 g4 w) : (tabE g3 g4).holds w (AllF w) :=
  ⟨h, (cell?_lt (h.1 0 (by decide))).1, (cell?_lt (h.2 0 (by decide)).1).1⟩

/-- A library's contract that only reads, as a contract over abstract states. -/
theorem GCall.ofCalls {P : Program} {E : Env} {f : FuncId} {ds : List DV} {x : Value} (hb : hasBody P f = true) (hx : scal x)
    (h : ∀ w F (vs : Array Value), E.holds w F → vs.size = ds.length → (∀ (j : Nat) (v : Value) (d : DV), vs[j]? = some v → ds[j]? = some d → Rep w F v d) → Calls P f vs w (fun e w' => e = .returned x ∧ Below w.heap.size w w')) :
    GCall P E f ds [] (fun d H => d = .v x ∧ H = []) :=
  ⟨hb, fun w F vs hE hF hl hr _ _ => (h w F vs hE hl hr).mono (fun e w' ⟨he, bel⟩ =>
    ⟨x, .v x, [], F, he, ⟨rfl, rfl⟩, fun _ h => h, fun b h => ⟨Nat.lt_of_lt_of_le (hF b h) (Step.of_below bel).size, .inl h⟩, .v hx, (fun p hp => by cases hp), List.nodup_nil, (Step.of_below bel).mono (fun _ _ h => h.elim)⟩)⟩
theorem arg1 {w : World} {F : Nat → Prop} {vs : Array Value} {x : Value} (hl : vs.size = 1) (hr : ∀ (j : Nat) (v : Value) (d : DV), vs[j]? = some v → [DV.v x][j]? = some d → Rep w F v d) : vs = #[x] ∧ scal x := by
  have h0 := hr 0 vs[0] (.v x) (Array.getElem?_eq_getElem (by omega)) rfl
  refine ⟨?_, h0.inv_v.2⟩
  apply Array.ext
  · simpa using hl
  · intro i h1 h2
    have : i = 0 := by omega
    subst this
    exact h0.inv_v.1
theorem vs_ok (s : ByteArray) : GCall Tryd.prog E0 79 [.v (.string s)] [] (fun d H => d = .v (.bool (utf8R s)) ∧ H = []) :=
  GCall.ofCalls (by kernel_rfl) trivial (fun w F vs hE hl hr => by
    obtain ⟨rfl, hs⟩ := arg1 hl hr
    rw [utf8R_valid]
    exact Any.utf8_ValidString Tryd.laysValid s w hs hE.1)
end Go.GH
namespace Go.GH
open Go

def encBy (r : Int) : List UInt8 := (Utf8.encode r).data.toList
def cY (n : Nat) : List DV := [.v (.int .u8 (n : Int))]
theorem encY_ofNat {n : Nat} (h : n < 256) : encY (UInt8.ofNat n) = cY n := by
  simp [encY, cY]; omega
theorem u8wrap {n : Int} (h : 0 ≤ n) : IntKind.u8.wrap n = n % 256 := by
  simp [IntKind.wrap, IntKind.signed, IntKind.bits]
  
theorem u32wrap {n : Int} (h : 0 ≤ n) (h2 : n ≤ 4294967295) : IntKind.u32.wrap n = n := wrap_id (by
  simp [IntKind.has, IntKind.min, IntKind.max, IntKind.signed, IntKind.bits]; omega)
def orB (a x : Int) : Int := IntKind.u8.wrap (BitVec.ofInt 8 a ||| BitVec.ofInt 8 x).toNat
def andB (a x : Int) : Int := IntKind.u8.wrap (BitVec.ofInt 8 a &&& BitVec.ofInt 8 x).toNat
theorem or192 : ∀ q : Fin 32, orB 192 ((q.val : Nat) : Int) = 192 + q.val := by decide +kernel
theorem or224 : ∀ q : Fin 16, orB 224 ((q.val : Nat) : Int) = 224 + q.val := by decide +kernel
theorem or240 : ∀ q : Fin 8, orB 240 ((q.val : Nat) : Int) = 240 + q.val := by decide +kernel
theorem or128 : ∀ q : Fin 64, orB 128 ((q.val : Nat) : Int) = 128 + q.val := by decide +kernel
theorem and63 : ∀ q : Fin 256, andB ((q.val : Nat) : Int) 63 = ((q.val % 64 : Nat) : Int) := by decide +kernel
theorem or192' {q : Nat} (h : q < 32) : orB 192 (q : Int) = ((192 + q : Nat) : Int) := by have := or192 ⟨q, h⟩; simpa using this
theorem or224' {q : Nat} (h : q < 16) : orB 224 (q : Int) = ((224 + q : Nat) : Int) := by have := or224 ⟨q, h⟩; simpa using this
theorem or240' {q : Nat} (h : q < 8) : orB 240 (q : Int) = ((240 + q : Nat) : Int) := by have := or240 ⟨q, h⟩; simpa using this
theorem or128' {q : Nat} (h : q < 64) : orB 128 (q : Int) = ((128 + q : Nat) : Int) := by have := or128 ⟨q, h⟩; simpa using this
theorem and63' {q : Nat} (h : q < 256) : andB (q : Int) 63 = ((q % 64 : Nat) : Int) := by have := and63 ⟨q, h⟩; simpa using this
theorem u8nat (n : Nat) : IntKind.u8.wrap (n : Int) = ((n % 256 : Nat) : Int) := by
  rw [u8wrap (by omega)]; omega
/-- the low six bits of place k -/
theorem low6 (c d : Nat) (hd : d ≠ 0) : orB 128 (andB (IntKind.u8.wrap ((c / d : Nat) : Int)) 63) = ((128 + c / d % 64 : Nat) : Int) := by
  rw [u8nat, and63' (by omega), or128' (by omega)]
  congr 2
  omega
theorem low60 (c : Nat) : orB 128 (andB (IntKind.u8.wrap ((c : Nat) : Int)) 63) = ((128 + c % 64 : Nat) : Int) := by
  have := low6 c 1 (by decide)
  simpa using this
theorem fdiv_nat (c d : Nat) : Int.fdiv (c : Int) (d : Int) = ((c / d : Nat) : Int) := by
  rw [Int.fdiv_eq_ediv_of_nonneg _ (by omega)]; rfl
theorem valid_cases {r : Int} (h : Utf8.valid r = true) : ∃ c : Nat, r = (c : Int) ∧ (c < 55296 ∨ (57344 ≤ c ∧ c ≤ 1114111)) := by
  simp only [Utf8.valid, Bool.or_eq_true, Bool.and_eq_true, decide_eq_true_eq] at h
  exact ⟨r.toNat, by omega, by omega⟩
theorem enc_1 {c : Nat} (hv : Utf8.valid (c : Int) = true) (h : c < 128) : Utf8.encode (c : Int) = ⟨#[UInt8.ofNat c]⟩ := by
  unfold Utf8.encode
  rw [if_pos hv]
  exact if_pos h
theorem enc_2 {c : Nat} (hv : Utf8.valid (c : Int) = true) (h0 : 128 ≤ c) (h : c < 2048) : Utf8.encode (c : Int) = ⟨#[UInt8.ofNat (192 + c / 64), UInt8.ofNat (128 + c % 64)]⟩ := by
  unfold Utf8.encode
  rw [if_pos hv]
  exact (if_neg (show ¬ c < 128 by omega)).trans (if_pos h)
theorem enc_3 {c : Nat} (hv : Utf8.valid (c : Int) = true) (h0 : 2048 ≤ c) (h : c < 65536) : Utf8.encode (c : Int) = ⟨#[UInt8.ofNat (224 + c / 4096), UInt8.ofNat (128 + c / 64 % 64), UInt8.ofNat (128 + c % 64)]⟩ := by
  unfold Utf8.encode
  rw [if_pos hv]
  exact (if_neg (show ¬ c < 128 by omega)).trans ((if_neg (show ¬ c < 2048 by omega)).trans (if_pos h))
theorem enc_4 {c : Nat} (hv : Utf8.valid (c : Int) = true) (h0 : 65536 ≤ c) : Utf8.encode (c : Int) = ⟨#[UInt8.ofNat (240 + c / 262144), UInt8.ofNat (128 + c / 4096 % 64), UInt8.ofNat (128 + c / 64 % 64), UInt8.ofNat (128 + c % 64)]⟩ := by
  unfold Utf8.encode
  rw [if_pos hv]
  exact (if_neg (show ¬ c < 128 by omega)).trans ((if_neg (show ¬ c < 2048 by omega)).trans (if_neg (show ¬ c < 65536 by omega)))
theorem encBy_1 {c : Nat} (hv : Utf8.valid (c : Int) = true) (h : c < 128) : (encBy (c : Int)).map encY = [cY c] := by
  rw [encBy, enc_1 hv h]
  show [encY (UInt8.ofNat c)] = _
  rw [encY_ofNat (show c < 256 by omega)]
theorem encBy_2 {c : Nat} (hv : Utf8.valid (c : Int) = true) (h0 : 128 ≤ c) (h : c < 2048) : (encBy (c : Int)).map encY = [cY (192 + c / 64), cY (128 + c % 64)] := by
  rw [encBy, enc_2 hv h0 h]
  show [encY (UInt8.ofNat (192 + c / 64)), encY (UInt8.ofNat (128 + c % 64))] = _
  rw [encY_ofNat (show 192 + c / 64 < 256 by omega), encY_ofNat (show 128 + c % 64 < 256 by omega)]
theorem encBy_3 {c : Nat} (hv : Utf8.valid (c : Int) = true) (h0 : 2048 ≤ c) (h : c < 65536) : (encBy (c : Int)).map encY = [cY (224 + c / 4096), cY (128 + c / 64 % 64), cY (128 + c % 64)] := by
  rw [encBy, enc_3 hv h0 h]
  show [encY (UInt8.ofNat (224 + c / 4096)), encY (UInt8.ofNat (128 + c / 64 % 64)), encY (UInt8.ofNat (128 + c % 64))] = _
  rw [encY_ofNat (show 224 + c / 4096 < 256 by omega), encY_ofNat (show 128 + c / 64 % 64 < 256 by omega), encY_ofNat (show 128 + c % 64 < 256 by omega)]
theorem encBy_4 {c : Nat} (hv : Utf8.valid (c : Int) = true) (h0 : 65536 ≤ c) (h : c ≤ 1114111) : (encBy (c : Int)).map encY = [cY (240 + c / 262144), cY (128 + c / 4096 % 64), cY (128 + c / 64 % 64), cY (128 + c % 64)] := by
  rw [encBy, enc_4 hv h0]
  show [encY (UInt8.ofNat (240 + c / 262144)), encY (UInt8.ofNat (128 + c / 4096 % 64)), encY (UInt8.ofNat (128 + c / 64 % 64)), encY (UInt8.ofNat (128 + c % 64))] = _
  rw [encY_ofNat (show 240 + c / 262144 < 256 by omega), encY_ofNat (show 128 + c / 4096 % 64 < 256 by omega), encY_ofNat (show 128 + c / 64 % 64 < 256 by omega), encY_ofNat (show 128 + c % 64 < 256 by omega)]
theorem encBy_len (r : Int) : (encBy r).length ≤ 4 := encode_size r
end Go.GH
namespace Go.GH
open Go Go.Lib

/-! #### a word is the bytes of its runes -/
theorem encBy_lib (c : Nat) (hv : Utf8.valid (c : Int) = true) : encBy (c : Int) = encodeRune (c : Int) := by
  obtain ⟨c', h1, hc⟩ := valid_cases hv
  have hcc : c' = c := by omega
  subst hcc
  have u : ∀ n : Nat, n < 256 → UInt8.ofNat n = (n : Int).toNat.toUInt8 := fun n _ => rfl
  unfold encodeRune
  by_cases h1 : c' < 128
  · rw [encBy, enc_1 hv h1, encodeRuneZ_one (by omega) (by omega)]; rfl
  · by_cases h2 : c' < 2048
    · rw [encBy, enc_2 hv (by omega) h2, encodeRuneZ_two (by omega) (by omega)]
      show [UInt8.ofNat (192 + c' / 64), UInt8.ofNat (128 + c' % 64)] = [(192 + (c' : Int) / 64).toNat.toUInt8, (128 + (c' : Int) % 64).toNat.toUInt8]
      rw [show (192 + (c' : Int) / 64).toNat = 192 + c' / 64 from by omega, show (128 + (c' : Int) % 64).toNat = 128 + c' % 64 from by omega]
    · by_cases h3 : c' < 65536
      · rw [encBy, enc_3 hv (by omega) h3, encodeRuneZ_three (by omega)]
        show [UInt8.ofNat (224 + c' / 4096), UInt8.ofNat (128 + c' / 64 % 64), UInt8.ofNat (128 + c' % 64)] = [(224 + (c' : Int) / 4096).toNat.toUInt8, (128 + (c' : Int) / 64 % 64).toNat.toUInt8, (128 + (c' : Int) % 64).toNat.toUInt8]
        rw [show (224 + (c' : Int) / 4096).toNat = 224 + c' / 4096 from by omega, show (128 + (c' : Int) / 64 % 64).toNat = 128 + c' / 64 % 64 from by omega, show (128 + (c' : Int) % 64).toNat = 128 + c' % 64 from by omega]
      · rw [encBy, enc_4 hv (by omega), encodeRuneZ_four (by omega) (by omega)]
        show [UInt8.ofNat (240 + c' / 262144), UInt8.ofNat (128 + c' / 4096 % 64), UInt8.ofNat (128 + c' / 64 % 64), UInt8.ofNat (128 + c' % 64)] = [(240 + (c' : Int) / 262144).toNat.toUInt8, (128 + (c' : Int) / 4096 % 64).toNat.toUInt8, (128 + (c' : Int) / 64 % 64).toNat.toUInt8, (128 + (c' : Int) % 64).toNat.toUInt8]
        rw [show (240 + (c' : Int) / 262144).toNat = 240 + c' / 262144 from by omega, show (128 + (c' : Int) / 4096 % 64).toNat = 128 + c' / 4096 % 64 from by omega, show (128 + (c' : Int) / 64 % 64).toNat = 128 + c' / 64 % 64 from by omega, show (128 + (c' : Int) % 64).toNat = 128 + c' % 64 from by omega]
theorem data_app2 (x y : ByteArray) : (x ++ y).data.toList = x.data.toList ++ y.data.toList := by simp
theorem encs_cons_data (r : Int) (rs : List Int) : (encs (r :: rs)).data.toList = encBy r ++ (encs rs).data.toList := by
  rw [encs, data_app2, encBy]
theorem step_bytes (s : ByteArray) (p : Nat) (hp : p < s.size) (h : stepOK s (p, ((Utf8.decode s p).1 : Int)) = true) : encBy ((Utf8.decode s p).1 : Int) = (s.data.toList.drop p).take (Utf8.decode s p).2 := by
  have hd := decodeL_drop s p
  have hlen : (s.data.toList.drop p).length = s.size - p := by simp
  have hne : s.data.toList.drop p ≠ [] := by
    intro h; rw [h] at hlen; simp at hlen; omega
  rw [step_valid s p hp] at h
  have h' : ¬ ((Utf8.decode s p).1 = 65533 ∧ (Utf8.decode s p).2 = 1) := fun hb => by rw [decide_eq_true hb] at h; cases h
  have := encode_decode _ hne (by rw [hd]; exact h')
  rw [hd] at this
  rw [← this, encBy_lib _ (decode_valid s p)]
theorem encs_at (s : ByteArray) : ∀ (f p : Nat), s.size - p ≤ f → (steps s p).all (stepOK s) = true → (encs (runesAt s p)).data.toList = s.data.toList.drop p
  | 0, p, h, _ => by rw [runesAt_ge (by omega), List.drop_eq_nil_of_le (by simp; omega)]; rfl
  | f + 1, p, h, hv => by
    by_cases hp : p < s.size
    · have hw := decode_w s p
      rw [steps_lt hp, List.all_cons, Bool.and_eq_true] at hv
      have ih := encs_at s f (p + (Utf8.decode s p).2) (by omega) hv.2
      rw [runesAt_lt hp, encs_cons_data, ih, step_bytes s p hp hv.1, ← List.drop_drop, List.take_append_drop]
    · rw [runesAt_ge (by omega), List.drop_eq_nil_of_le (by simp; omega)]; rfl
theorem encs_runes {s : ByteArray} (h : utf8R s = true) : encs (runes s) = s := by
  have := encs_at s _ 0 (Nat.le_refl _) h
  rw [runesAt_zero, List.drop_zero] at this
  apply ByteArray.ext
  exact Array.toList_inj.1 this
theorem encs_append : ∀ x y : List Int, encs (x ++ y) = encs x ++ encs y
  | [], y => by
    apply ByteArray.ext
    simp [encs]
  | r :: x, y => by rw [List.cons_append, encs, encs, encs_append x y, ByteArray.append_assoc]
end Go.GH
namespace Go.GH
open Go

theorem okR_to {a : List Letter} {r : Rule} {s : ByteArray} (h : okR a r s = true) : (runes r.«to»).length ≤ 4 ∧ (runes s).length ≤ 40 ∧ utf8R r.«to» = true := by
  simp only [okR, validR, consS_eq, Bool.and_eq_true, decide_eq_true_eq] at h
  exact ⟨h.1.1.1.2.1.2, h.2.1.2, h.1.1.1.2.1.1⟩
def resX (a : List Letter) (r : Rule) (s : ByteArray) (l : List Nat) : ByteArray × Int :=
  if okR a r s then (if 40 < (runes (encs (resF r.fr (runes r.«to») (runes s) 0 l))).length then (⟨#[]⟩, 2) else (encs (resF r.fr (runes r.«to») (runes s) 0 l), 0)) else (⟨#[]⟩, 1)
def applyR (a : List Letter) (r : Rule) (s : ByteArray) : ByteArray × Int := resX a r s (sitesR a r s)
def applyQ (a : List Letter) (r : Rule) (s : ByteArray) : ByteArray × Int := resX a r s (sitesQ a r s)
def tupA (x : ByteArray × Int) : DV := .tup [.v (.string x.1), .v (.int .i64 x.2)]
theorem resX_size (a : List Letter) (r : Rule) (s : ByteArray) (l : List Nat) : (resX a r s l).1.size ≤ 1048576 := by
  unfold resX
  split
  · rename_i h
    obtain ⟨h1, h2, _⟩ := okR_to h
    split
    · decide
    · have k1 := resF_len r.fr (runes r.«to») (runes s) 0 l
      have k2 := runesBytes_size_le (resF r.fr (runes r.«to») (runes s) 0 l)
      rw [encs_eq] at k2
      have k3 : ((runes s).length + 1) * ((runes r.«to»).length + 1) ≤ 41 * 5 := Nat.mul_le_mul (by omega) (by omega)
      show (encs _).size ≤ _
      omega
  · decide
theorem encs_cons (c : Int) (w : List Int) : encs (c :: w) = Utf8.encode c ++ encs w := rfl
theorem encs_nil : encs [] = .empty := rfl
end Go.GH
namespace Go.GH
open Go Go.Proofs
variable {E : Env}
theorem elemB_9_1_16 : elemB Tryd.prog 9 1 16 = true := by kernel_rfl
theorem sliceB_23_47_6 : sliceB Tryd.prog 23 47 6 = true := by kernel_rfl
theorem sliceB_35_9_1 : sliceB Tryd.prog 35 9 1 = true := by kernel_rfl
theorem someB_21 : (Tryd.prog.underlying 21).isSome = true := by kernel_rfl
theorem zeroIs_47 : zeroIs Tryd.prog 47 (.agg #[.int .i32 0, .string .empty, .slice none 0 0, .slice none 0 0, .bool false, .bool false]) := by unfold zeroIs; kernel_rfl
theorem zeroIs_9 : zeroIs Tryd.prog 9 (.string .empty) := by unfold zeroIs; kernel_rfl
theorem rApply (hV : VS E) (a : List Letter) (r : Rule) (s : ByteArray) (hr : SmR r) (hs : s.size ≤ 1048576) : GCall Tryd.prog E 92 [DLs a, .agg (encR r), .v (.string s)] [] (fun d H => d = tupA (applyR a r s) ∧ H = []) := by
 refine GCall.body (C := ⟨Tryd.prog, E, true⟩) Tryd.func92 rfl (fun _ => rfl) (by kernel_rfl) rfl ?_
 refine SCode.seqR (SOps.boxAM rfl rfl (SOps.assign rfl (SOps.assign rfl (SOps.nil (SCode.seq (SCode.seqR (SOps.move rfl (SOps.loadPinA rfl aggB_47_6 (Nat.le_of_ble_eq_true rfl) (SOps.callP (rValid hV _ _ (by assumption)) rfl ?_)))))))))
 rintro _ rfl
 refine SOps.un rfl rfl (SOps.move rfl ?_)
 refine SOps.caseB 13 rfl (fun hb1 => ?_) (fun hb1 => ?_)
 ·try simp only [nmL] at hb1
  refine SOps.skip rfl (SOps.skip rfl (SOps.skip rfl (SOps.skip rfl (SOps.pick rfl rfl (SOps.nil ?_)))))
  refine SCode.cond rfl (fun _ => ?_) (fun h => by cases h)
  refine SCode.seqR (SOps.assign rfl (SOps.assign rfl (SOps.nil (SCode.ret ?_))))
  exact ⟨_, Res.two (.tmp rfl) (.tmp rfl), (by unfold applyR resX; rw [if_neg (by simp_all [okR])]; rfl), rfl⟩
 ·try simp only [nmL] at hb1
  refine SOps.move rfl (SOps.move rfl (SOps.callP (lIsWord hV _ _) rfl ?_))
  rintro _ rfl
  refine SOps.un rfl rfl (SOps.pick rfl rfl (SOps.nil ?_))
  refine SCode.cond rfl (fun hc2 => ?_) (fun hc2 => ?_)
  ·try simp only [nmL] at hc2
   refine SCode.seqR (SOps.assign rfl (SOps.assign rfl (SOps.nil (SCode.ret ?_))))
   exact ⟨_, Res.two (.tmp rfl) (.tmp rfl), (by unfold applyR resX; rw [if_neg (by simp_all [okR])]; rfl), rfl⟩
  ·try simp only [nmL] at hc2
   refine SCode.skip ?_
   show SCode _ _ _ _
   refine SCode.seq ?_
   have hok : okR a r s = true := by simp_all [okR]
   obtain ⟨h4, h40, hu8⟩ := okR_to hok
   refine SCode.drawPure mixed_ [(19, .agg (encR r)), (20, DLs a), (21, .agg (encR r)), (22, .v (.string s)), (23, DNats (sitesR a r s)), (24, .v (.string s)), (25, .v (.string (encs (resF r.fr (runes r.«to») (runes s) 0 (sitesR a r s))))), (8, .v (.string (encs (resF r.fr (runes r.«to») (runes s) 0 (sitesR a r s)))))] [19, 20, 21, 22, 23, 24, 25, 8] [[.inr 4], [.inr 0], [.inr 4], [.inr 2], [.inl 1, .inl 2, .inl 3], [.inr 2], [.inl 0, .inl 4, .inl 5], [.inl 6]] [[(4, .ipin (encR r))], [(0, DLs a)], [(4, .ipin (encR r))], [(2, .v (.string s))], [(20, DLs a), (21, .agg (encR r)), (22, .v (.string s))], [(2, .v (.string s))], [(19, .agg (encR r)), (23, DNats (sitesR a r s)), (24, .v (.string s))], [(25, .v (.string (encs (resF r.fr (runes r.«to») (runes s) 0 (sitesR a r s)))))]] rfl (by kernel_rfl) (by kernel_rfl) rfl ?_ ?_
   ·refine OpsOk.cons (fun rest => ?_) ?_
    ·refine SOps.loadPinA rfl aggB_47_6 (Nat.le_of_ble_eq_true rfl) ?_
     exact SOps.nil (by first | rfl | simp_all)
    refine OpsOk.cons (fun rest => ?_) ?_
    ·refine SOps.move rfl ?_
     exact SOps.nil (by first | rfl | simp_all)
    refine OpsOk.cons (fun rest => ?_) ?_
    ·refine SOps.loadPinA rfl aggB_47_6 (Nat.le_of_ble_eq_true rfl) ?_
     exact SOps.nil (by first | rfl | simp_all)
    refine OpsOk.cons (fun rest => ?_) ?_
    ·refine SOps.move rfl ?_
     exact SOps.nil (by first | rfl | simp_all)
    refine OpsOk.cons (fun rest => ?_) ?_
    ·refine SOps.callP (rSites hV _ _ _ hr hs) rfl ?_
     rintro _ rfl
     exact SOps.nil (by first | rfl | simp_all)
    refine OpsOk.cons (fun rest => ?_) ?_
    ·refine SOps.move rfl ?_
     exact SOps.nil (by first | rfl | simp_all)
    refine OpsOk.cons (fun rest => ?_) ?_
    ·refine SOps.callP (rResult _ _ _ h4 h40) rfl ?_
     rintro _ rfl
     exact SOps.nil (by first | rfl | simp_all)
    refine OpsOk.cons (fun rest => ?_) ?_
    ·refine SOps.assign rfl ?_
     exact SOps.nil (by first | rfl | simp_all)
    exact OpsOk.nil
   ·show SCode _ _ _ _
    refine SCode.seq (SCode.seqR (SOps.move rfl (SOps.callP (uRuneCount _) rfl ?_)))
    rintro _ rfl
    refine SOps.bin rfl rfl rfl (SOps.nil ?_)
    refine SCode.cond rfl (fun hc3 => ?_) (fun hc3 => ?_)
    ·try simp only [nmL] at hc3
     refine SCode.seqR (SOps.assign rfl (SOps.assign rfl (SOps.nil (SCode.ret ?_))))
     exact ⟨_, Res.two (.tmp rfl) (.tmp rfl), (by unfold applyR resX; rw [if_pos hok, if_pos (by omega)]; rfl), rfl⟩
    ·try simp only [nmL] at hc3
     refine SCode.skip ?_
     show SCode _ _ _ _
     refine SCode.seqR (SOps.move rfl (SOps.assign rfl (SOps.assign rfl (SOps.nil (SCode.ret ?_)))))
     exact ⟨_, Res.two (.tmp rfl) (.tmp rfl), (by unfold applyR resX; rw [if_pos hok, if_neg (by omega)]; rfl), rfl⟩
theorem qApply (hV : VS E) (a : List Letter) (r : Rule) (s : ByteArray) (hr : SmR r) (hs : s.size ≤ 1048576) : GCall Tryd.prog E 87 [DLs a, .agg (encR r), .v (.string s)] [] (fun d H => d = tupA (applyQ a r s) ∧ H = []) := by
 refine GCall.body (C := ⟨Tryd.prog, E, true⟩) Tryd.func87 rfl (fun _ => rfl) (by kernel_rfl) rfl ?_
 refine SCode.seqR (SOps.boxAM rfl rfl (SOps.assign rfl (SOps.assign rfl (SOps.nil (SCode.seq (SCode.seqR (SOps.move rfl (SOps.loadPinA rfl aggB_47_6 (Nat.le_of_ble_eq_true rfl) (SOps.callP (qValid hV _ _) rfl ?_)))))))))
 rintro _ rfl
 refine SOps.un rfl rfl (SOps.move rfl ?_)
 refine SOps.caseB 18 rfl (fun hb1 => ?_) (fun hb1 => ?_)
 ·try simp only [nmL] at hb1
  refine SOps.skip rfl (SOps.skip rfl (SOps.skip rfl (SOps.skip rfl (SOps.pick rfl rfl (SOps.nil ?_)))))
  refine SCode.cond rfl (fun _ => ?_) (fun h => by cases h)
  refine SCode.seqR (SOps.assign rfl (SOps.assign rfl (SOps.nil (SCode.ret ?_))))
  exact ⟨_, Res.two (.tmp rfl) (.tmp rfl), (by unfold applyQ resX; first | (rw [if_neg (by simp_all [okR])]; rfl) | (rw [if_pos hok, if_pos (by omega)]; rfl) | (rw [if_pos hok, if_neg (by omega)]; rfl)), rfl⟩
 ·try simp only [nmL] at hb1
  refine SOps.move rfl (SOps.move rfl (SOps.callP (qWord hV _ _) rfl ?_))
  rintro _ rfl
  refine SOps.un rfl rfl (SOps.pick rfl rfl (SOps.nil ?_))
  refine SCode.cond rfl (fun hc2 => ?_) (fun hc2 => ?_)
  ·try simp only [nmL] at hc2
   refine SCode.seqR (SOps.assign rfl (SOps.assign rfl (SOps.nil (SCode.ret ?_))))
   exact ⟨_, Res.two (.tmp rfl) (.tmp rfl), (by unfold applyQ resX; first | (rw [if_neg (by simp_all [okR])]; rfl) | (rw [if_pos hok, if_pos (by omega)]; rfl) | (rw [if_pos hok, if_neg (by omega)]; rfl)), rfl⟩
  ·try simp only [nmL] at hc2
   refine SCode.skip ?_
   show SCode _ _ _ _
   refine SCode.seqR (SOps.move rfl (SOps.loadPinA rfl aggB_47_6 (Nat.le_of_ble_eq_true rfl) (SOps.move rfl (SOps.callP (qSites hV _ _ _ hs) rfl ?_))))
   rintro _ rfl
   refine SOps.assign rfl (SOps.nil (SCode.seqR (SOps.move rfl (SOps.runesF rfl rfl strB_9 sliceB_84_21_1 intB_21_i32 (SOps.assign rfl (SOps.nil (SCode.seqR (SOps.assign rfl (SOps.nil (SCode.seqR (SOps.assign rfl (SOps.nil (SCode.seq (SCode.seqR (SOps.assign rfl (SOps.nil (SCode.block ?_)))))))))))))))))
   have hok : okR a r s = true := by simp_all [okR]
   obtain ⟨h4, h40, hu8⟩ := okR_to hok
   have hto : encs (runes r.«to») = r.«to» := encs_runes hu8
   obtain ⟨hr1, _, _⟩ := hr
   have hll : (sitesQ a r s).length ≤ (runes s).length + 1 := by unfold sitesQ; split <;> first | exact filter_len (siteQ a r (runes s)) ((runes s).length + 1) | exact Nat.zero_le _
   refine SCode.loop3 (fun (i : Nat) (kk : Nat) (acc : ByteArray) => (⟨80, [(4, .ipin (encR r)), (8, DNats (sitesQ a r s)), (9, DRunes (runes s)), (10, .v (.string acc)), (11, .v (.int .i64 (kk : Int))), (12, .v (.int .i64 (i : Int)))], []⟩ : St)) (fun (i : Nat) (kk : Nat) (acc : ByteArray) => acc.size ≤ 1100000 * i ∧ kk ≤ (sitesQ a r s).length ∧ ((i ≤ (runes s).length ∧ acc ++ encs (resF r.fr (runes r.«to») ((runes s).drop i) i ((sitesQ a r s).drop kk)) = encs (resF r.fr (runes r.«to») (runes s) 0 (sitesQ a r s))) ∨ (i = (runes s).length + 1 ∧ acc = encs (resF r.fr (runes r.«to») (runes s) 0 (sitesQ a r s))))) (fun (i : Nat) (kk : Nat) (acc : ByteArray) => (runes s).length + 1 - i) (0) (0) (.empty) (by exact ⟨Nat.le_refl _, Nat.zero_le _, .inl ⟨Nat.zero_le _, by rw [ByteArray.empty_append]; rfl⟩⟩) (St.Le.of ⟨(by first | rfl | (show some _ = some _; simp)), (by first | rfl | (show some _ = some _; simp)), (by first | rfl | (show some _ = some _; simp)), (by first | rfl | (show some _ = some _; simp)), (by first | rfl | (show some _ = some _; simp)), (by first | rfl | (show some _ = some _; simp)), trivial⟩ rfl (by first | rfl | (simp))) ?_
   rintro i kk acc ⟨hol, hkk, hf⟩
   refine SCode.seq (SCode.seqR (SOps.move rfl (SOps.move rfl (SOps.lenM rfl sliceB_84_21_1 (SOps.bin rfl rfl rfl (SOps.nil ?_))))))
   refine SCode.cond rfl (fun hc3 => ?_) (fun hc3 => ?_)
   ·try simp only [nmL] at hc3
    refine SCode.skip ?_
    show SCode _ _ _ _
    refine SCode.seq (SCode.block (SCode.seqR ?_))
    have hf2 := (hf.resolve_right (by omega)).2
    have hdn : i = (runes s).length → (runes s).drop i = [] := fun h => List.drop_eq_nil_of_le (by omega)
    have hdc : ∀ h : i < (runes s).length, (runes s).drop i = (runes s)[i] :: (runes s).drop (i + 1) := fun h => List.drop_eq_getElem_cons h
    refine SOps.move rfl (SOps.move rfl (SOps.lenM rfl sliceB_43_3_1 (SOps.bin rfl rfl rfl (SOps.move rfl ?_))))
    refine SOps.caseB 40 rfl (fun hb4 => ?_) (fun hb4 => ?_)
    ·try simp only [nmL] at hb4
     have hkd : (sitesQ a r s).drop kk = (sitesQ a r s)[kk] :: (sitesQ a r s).drop (kk + 1) := List.drop_eq_getElem_cons (by omega)
     refine SOps.move rfl (SOps.move rfl (SOps.indexM (kk) rfl rfl sliceB_43_3_1 (by first | omega | (simp only [lenB]; omega)) (by first | omega | (simp only [lenB]; omega)) (SOps.loadPin rfl flatB_3 (SOps.move rfl (SOps.bin rfl rfl rfl (SOps.pick rfl rfl (SOps.assign rfl (SOps.nil (SCode.seq (SCode.seqR (SOps.move rfl (SOps.nil ?_))))))))))))
     refine SCode.cond rfl (fun hc5 => ?_) (fun hc5 => ?_)
     ·try simp only [nmL] at hc5
      have hs0 : (sitesQ a r s)[kk] = i := Int.ofNat.inj hc5
      refine SCode.seqR (SOps.move rfl (SOps.fieldPin rfl fieldB_47_1_1 (SOps.loadPin rfl flatB_9 (SOps.concat rfl rfl (by simp only [lenB, ByteArray.size_append]; first | omega | (have := encode_size ((runes s)[i]); omega)) (SOps.assign rfl (SOps.nil (SCode.region (SOps.move rfl (SOps.addI rfl rfl (by first | omega | (simp only [lenB]; omega)) (by first | omega | (simp only [lenB]; omega)) (SOps.assign rfl (SOps.nil ?_)))))))))))
      show SCode _ _ _ _
      refine SCode.seqR (SOps.move rfl (SOps.move rfl (SOps.lenM rfl sliceB_84_21_1 (SOps.bin rfl rfl rfl (SOps.move rfl ?_)))))
      refine SOps.caseB 59 rfl (fun hb6 => ?_) (fun hb6 => ?_)
      ·try simp only [nmL] at hb6
       refine SOps.move rfl (SOps.un rfl rfl (SOps.move rfl ?_))
       refine SOps.caseB 62 rfl (fun hb7 => ?_) (fun hb7 => ?_)
       ·try simp only [nmL] at hb7
        refine SOps.skip rfl (SOps.skip rfl (SOps.skip rfl (SOps.pick rfl rfl (SOps.pick rfl rfl (SOps.nil ?_)))))
        refine SCode.cond rfl (fun _ => ?_) (fun h => by cases h)
        refine SCode.region (SOps.move rfl (SOps.move rfl (SOps.move rfl (SOps.indexM (i) rfl rfl sliceB_84_21_1 (by first | omega | (simp only [lenB]; omega)) (by first | omega | (simp only [lenB]; omega)) (SOps.loadPin rfl flatB_21 (SOps.convIntStr rfl someB_21 strB_9 (SOps.concat rfl rfl (by simp only [lenB, ByteArray.size_append]; first | omega | (have := encode_size ((runes s)[i]); omega)) (SOps.assign rfl (SOps.nil ?_)))))))))
        show SCode _ _ _ _
        refine SCode.region (SOps.move rfl (SOps.addI rfl rfl (by first | omega | (simp only [lenB]; omega)) (by first | omega | (simp only [lenB]; omega)) (SOps.assign rfl (SOps.nil ?_))))
        first
         | (exfalso; omega)
         | exact ⟨i + 1, kk + 1, acc ++ r.«to» ++ Utf8.encode ((runes s)[i]), ⟨by first | omega | (simp only [ByteArray.size_append]; omega) | (have := encode_size ((runes s)[i]); simp only [ByteArray.size_append]; omega), by omega, by cases Nat.lt_or_ge i (runes s).length with | inl hlt => (first | (exfalso; omega) | (left; refine ⟨by omega, ?_⟩; rw [← hf2, hdc hlt, resF_cons]; clear hf2 hf hdc hdn; simp_all [encs_append, encs_cons, encs_nil, ByteArray.append_assoc]; done)) | inr hge => (first | (exfalso; omega) | (right; refine ⟨by omega, ?_⟩; rw [← hf2, hdn (by omega), resF_nil]; clear hf2 hf hdc hdn; simp_all [encs_append, encs_cons, encs_nil, ByteArray.append_assoc]; done))⟩, by omega, St.Le.of ⟨rfl, rfl, rfl, rfl, rfl, rfl, trivial⟩⟩
         | exact ⟨i + 1, kk + 1, acc ++ r.«to», ⟨by first | omega | (simp only [ByteArray.size_append]; omega) | (have := encode_size ((runes s)[i]); simp only [ByteArray.size_append]; omega), by omega, by cases Nat.lt_or_ge i (runes s).length with | inl hlt => (first | (exfalso; omega) | (left; refine ⟨by omega, ?_⟩; rw [← hf2, hdc hlt, resF_cons]; clear hf2 hf hdc hdn; simp_all [encs_append, encs_cons, encs_nil, ByteArray.append_assoc]; done)) | inr hge => (first | (exfalso; omega) | (right; refine ⟨by omega, ?_⟩; rw [← hf2, hdn (by omega), resF_nil]; clear hf2 hf hdc hdn; simp_all [encs_append, encs_cons, encs_nil, ByteArray.append_assoc]; done))⟩, by omega, St.Le.of ⟨rfl, rfl, rfl, rfl, rfl, rfl, trivial⟩⟩
         | exact ⟨i + 1, kk, acc ++ Utf8.encode ((runes s)[i]), ⟨by first | omega | (simp only [ByteArray.size_append]; omega) | (have := encode_size ((runes s)[i]); simp only [ByteArray.size_append]; omega), by omega, by cases Nat.lt_or_ge i (runes s).length with | inl hlt => (first | (exfalso; omega) | (left; refine ⟨by omega, ?_⟩; rw [← hf2, hdc hlt, resF_cons]; clear hf2 hf hdc hdn; simp_all [encs_append, encs_cons, encs_nil, ByteArray.append_assoc]; done)) | inr hge => (first | (exfalso; omega) | (right; refine ⟨by omega, ?_⟩; rw [← hf2, hdn (by omega), resF_nil]; clear hf2 hf hdc hdn; simp_all [encs_append, encs_cons, encs_nil, ByteArray.append_assoc]; done))⟩, by omega, St.Le.of ⟨rfl, rfl, rfl, rfl, rfl, rfl, trivial⟩⟩
         | exact ⟨i + 1, kk, acc, ⟨by first | omega | (simp only [ByteArray.size_append]; omega) | (have := encode_size ((runes s)[i]); simp only [ByteArray.size_append]; omega), by omega, by cases Nat.lt_or_ge i (runes s).length with | inl hlt => (first | (exfalso; omega) | (left; refine ⟨by omega, ?_⟩; rw [← hf2, hdc hlt, resF_cons]; clear hf2 hf hdc hdn; simp_all [encs_append, encs_cons, encs_nil, ByteArray.append_assoc]; done)) | inr hge => (first | (exfalso; omega) | (right; refine ⟨by omega, ?_⟩; rw [← hf2, hdn (by omega), resF_nil]; clear hf2 hf hdc hdn; simp_all [encs_append, encs_cons, encs_nil, ByteArray.append_assoc]; done))⟩, by omega, St.Le.of ⟨rfl, rfl, rfl, rfl, rfl, rfl, trivial⟩⟩
       ·try simp only [nmL] at hb7
        refine SOps.fieldPin rfl fieldB_47_0_0 (SOps.loadPin rfl flatB_21 (SOps.bin rfl rfl rfl (SOps.pick rfl rfl (SOps.pick rfl rfl (SOps.nil ?_)))))
        refine SCode.cond rfl (fun hc8 => ?_) (fun hc8 => ?_)
        ·try simp only [nmL] at hc8
         refine SCode.region (SOps.move rfl (SOps.move rfl (SOps.move rfl (SOps.indexM (i) rfl rfl sliceB_84_21_1 (by first | omega | (simp only [lenB]; omega)) (by first | omega | (simp only [lenB]; omega)) (SOps.loadPin rfl flatB_21 (SOps.convIntStr rfl someB_21 strB_9 (SOps.concat rfl rfl (by simp only [lenB, ByteArray.size_append]; first | omega | (have := encode_size ((runes s)[i]); omega)) (SOps.assign rfl (SOps.nil ?_)))))))))
         show SCode _ _ _ _
         refine SCode.region (SOps.move rfl (SOps.addI rfl rfl (by first | omega | (simp only [lenB]; omega)) (by first | omega | (simp only [lenB]; omega)) (SOps.assign rfl (SOps.nil ?_))))
         first
          | (exfalso; omega)
          | exact ⟨i + 1, kk + 1, acc ++ r.«to» ++ Utf8.encode ((runes s)[i]), ⟨by first | omega | (simp only [ByteArray.size_append]; omega) | (have := encode_size ((runes s)[i]); simp only [ByteArray.size_append]; omega), by omega, by cases Nat.lt_or_ge i (runes s).length with | inl hlt => (first | (exfalso; omega) | (left; refine ⟨by omega, ?_⟩; rw [← hf2, hdc hlt, resF_cons]; clear hf2 hf hdc hdn; simp_all [encs_append, encs_cons, encs_nil, ByteArray.append_assoc]; done)) | inr hge => (first | (exfalso; omega) | (right; refine ⟨by omega, ?_⟩; rw [← hf2, hdn (by omega), resF_nil]; clear hf2 hf hdc hdn; simp_all [encs_append, encs_cons, encs_nil, ByteArray.append_assoc]; done))⟩, by omega, St.Le.of ⟨rfl, rfl, rfl, rfl, rfl, rfl, trivial⟩⟩
          | exact ⟨i + 1, kk + 1, acc ++ r.«to», ⟨by first | omega | (simp only [ByteArray.size_append]; omega) | (have := encode_size ((runes s)[i]); simp only [ByteArray.size_append]; omega), by omega, by cases Nat.lt_or_ge i (runes s).length with | inl hlt => (first | (exfalso; omega) | (left; refine ⟨by omega, ?_⟩; rw [← hf2, hdc hlt, resF_cons]; clear hf2 hf hdc hdn; simp_all [encs_append, encs_cons, encs_nil, ByteArray.append_assoc]; done)) | inr hge => (first | (exfalso; omega) | (right; refine ⟨by omega, ?_⟩; rw [← hf2, hdn (by omega), resF_nil]; clear hf2 hf hdc hdn; simp_all [encs_append, encs_cons, encs_nil, ByteArray.append_assoc]; done))⟩, by omega, St.Le.of ⟨rfl, rfl, rfl, rfl, rfl, rfl, trivial⟩⟩
          | exact ⟨i + 1, kk, acc ++ Utf8.encode ((runes s)[i]), ⟨by first | omega | (simp only [ByteArray.size_append]; omega) | (have := encode_size ((runes s)[i]); simp only [ByteArray.size_append]; omega), by omega, by cases Nat.lt_or_ge i (runes s).length with | inl hlt => (first | (exfalso; omega) | (left; refine ⟨by omega, ?_⟩; rw [← hf2, hdc hlt, resF_cons]; clear hf2 hf hdc hdn; simp_all [encs_append, encs_cons, encs_nil, ByteArray.append_assoc]; done)) | inr hge => (first | (exfalso; omega) | (right; refine ⟨by omega, ?_⟩; rw [← hf2, hdn (by omega), resF_nil]; clear hf2 hf hdc hdn; simp_all [encs_append, encs_cons, encs_nil, ByteArray.append_assoc]; done))⟩, by omega, St.Le.of ⟨rfl, rfl, rfl, rfl, rfl, rfl, trivial⟩⟩
          | exact ⟨i + 1, kk, acc, ⟨by first | omega | (simp only [ByteArray.size_append]; omega) | (have := encode_size ((runes s)[i]); simp only [ByteArray.size_append]; omega), by omega, by cases Nat.lt_or_ge i (runes s).length with | inl hlt => (first | (exfalso; omega) | (left; refine ⟨by omega, ?_⟩; rw [← hf2, hdc hlt, resF_cons]; clear hf2 hf hdc hdn; simp_all [encs_append, encs_cons, encs_nil, ByteArray.append_assoc]; done)) | inr hge => (first | (exfalso; omega) | (right; refine ⟨by omega, ?_⟩; rw [← hf2, hdn (by omega), resF_nil]; clear hf2 hf hdc hdn; simp_all [encs_append, encs_cons, encs_nil, ByteArray.append_assoc]; done))⟩, by omega, St.Le.of ⟨rfl, rfl, rfl, rfl, rfl, rfl, trivial⟩⟩
        ·try simp only [nmL] at hc8
         refine SCode.skip ?_
         show SCode _ _ _ _
         refine SCode.region (SOps.move rfl (SOps.addI rfl rfl (by first | omega | (simp only [lenB]; omega)) (by first | omega | (simp only [lenB]; omega)) (SOps.assign rfl (SOps.nil ?_))))
         first
          | (exfalso; omega)
          | exact ⟨i + 1, kk + 1, acc ++ r.«to» ++ Utf8.encode ((runes s)[i]), ⟨by first | omega | (simp only [ByteArray.size_append]; omega) | (have := encode_size ((runes s)[i]); simp only [ByteArray.size_append]; omega), by omega, by cases Nat.lt_or_ge i (runes s).length with | inl hlt => (first | (exfalso; omega) | (left; refine ⟨by omega, ?_⟩; rw [← hf2, hdc hlt, resF_cons]; clear hf2 hf hdc hdn; simp_all [encs_append, encs_cons, encs_nil, ByteArray.append_assoc]; done)) | inr hge => (first | (exfalso; omega) | (right; refine ⟨by omega, ?_⟩; rw [← hf2, hdn (by omega), resF_nil]; clear hf2 hf hdc hdn; simp_all [encs_append, encs_cons, encs_nil, ByteArray.append_assoc]; done))⟩, by omega, St.Le.of ⟨rfl, rfl, rfl, rfl, rfl, rfl, trivial⟩⟩
          | exact ⟨i + 1, kk + 1, acc ++ r.«to», ⟨by first | omega | (simp only [ByteArray.size_append]; omega) | (have := encode_size ((runes s)[i]); simp only [ByteArray.size_append]; omega), by omega, by cases Nat.lt_or_ge i (runes s).length with | inl hlt => (first | (exfalso; omega) | (left; refine ⟨by omega, ?_⟩; rw [← hf2, hdc hlt, resF_cons]; clear hf2 hf hdc hdn; simp_all [encs_append, encs_cons, encs_nil, ByteArray.append_assoc]; done)) | inr hge => (first | (exfalso; omega) | (right; refine ⟨by omega, ?_⟩; rw [← hf2, hdn (by omega), resF_nil]; clear hf2 hf hdc hdn; simp_all [encs_append, encs_cons, encs_nil, ByteArray.append_assoc]; done))⟩, by omega, St.Le.of ⟨rfl, rfl, rfl, rfl, rfl, rfl, trivial⟩⟩
          | exact ⟨i + 1, kk, acc ++ Utf8.encode ((runes s)[i]), ⟨by first | omega | (simp only [ByteArray.size_append]; omega) | (have := encode_size ((runes s)[i]); simp only [ByteArray.size_append]; omega), by omega, by cases Nat.lt_or_ge i (runes s).length with | inl hlt => (first | (exfalso; omega) | (left; refine ⟨by omega, ?_⟩; rw [← hf2, hdc hlt, resF_cons]; clear hf2 hf hdc hdn; simp_all [encs_append, encs_cons, encs_nil, ByteArray.append_assoc]; done)) | inr hge => (first | (exfalso; omega) | (right; refine ⟨by omega, ?_⟩; rw [← hf2, hdn (by omega), resF_nil]; clear hf2 hf hdc hdn; simp_all [encs_append, encs_cons, encs_nil, ByteArray.append_assoc]; done))⟩, by omega, St.Le.of ⟨rfl, rfl, rfl, rfl, rfl, rfl, trivial⟩⟩
          | exact ⟨i + 1, kk, acc, ⟨by first | omega | (simp only [ByteArray.size_append]; omega) | (have := encode_size ((runes s)[i]); simp only [ByteArray.size_append]; omega), by omega, by cases Nat.lt_or_ge i (runes s).length with | inl hlt => (first | (exfalso; omega) | (left; refine ⟨by omega, ?_⟩; rw [← hf2, hdc hlt, resF_cons]; clear hf2 hf hdc hdn; simp_all [encs_append, encs_cons, encs_nil, ByteArray.append_assoc]; done)) | inr hge => (first | (exfalso; omega) | (right; refine ⟨by omega, ?_⟩; rw [← hf2, hdn (by omega), resF_nil]; clear hf2 hf hdc hdn; simp_all [encs_append, encs_cons, encs_nil, ByteArray.append_assoc]; done))⟩, by omega, St.Le.of ⟨rfl, rfl, rfl, rfl, rfl, rfl, trivial⟩⟩
      ·try simp only [nmL] at hb6
       refine SOps.skip rfl (SOps.skip rfl (SOps.skip rfl (SOps.skip rfl (SOps.skip rfl (SOps.skip rfl (SOps.skip rfl (SOps.pick rfl rfl (SOps.nil ?_))))))))
       refine SCode.cond rfl (fun h => by cases h) (fun _ => ?_)
       refine SCode.skip ?_
       show SCode _ _ _ _
       refine SCode.region (SOps.move rfl (SOps.addI rfl rfl (by first | omega | (simp only [lenB]; omega)) (by first | omega | (simp only [lenB]; omega)) (SOps.assign rfl (SOps.nil ?_))))
       first
        | (exfalso; omega)
        | exact ⟨i + 1, kk + 1, acc ++ r.«to» ++ Utf8.encode ((runes s)[i]), ⟨by first | omega | (simp only [ByteArray.size_append]; omega) | (have := encode_size ((runes s)[i]); simp only [ByteArray.size_append]; omega), by omega, by cases Nat.lt_or_ge i (runes s).length with | inl hlt => (first | (exfalso; omega) | (left; refine ⟨by omega, ?_⟩; rw [← hf2, hdc hlt, resF_cons]; clear hf2 hf hdc hdn; simp_all [encs_append, encs_cons, encs_nil, ByteArray.append_assoc]; done)) | inr hge => (first | (exfalso; omega) | (right; refine ⟨by omega, ?_⟩; rw [← hf2, hdn (by omega), resF_nil]; clear hf2 hf hdc hdn; simp_all [encs_append, encs_cons, encs_nil, ByteArray.append_assoc]; done))⟩, by omega, St.Le.of ⟨rfl, rfl, rfl, rfl, rfl, rfl, trivial⟩⟩
        | exact ⟨i + 1, kk + 1, acc ++ r.«to», ⟨by first | omega | (simp only [ByteArray.size_append]; omega) | (have := encode_size ((runes s)[i]); simp only [ByteArray.size_append]; omega), by omega, by cases Nat.lt_or_ge i (runes s).length with | inl hlt => (first | (exfalso; omega) | (left; refine ⟨by omega, ?_⟩; rw [← hf2, hdc hlt, resF_cons]; clear hf2 hf hdc hdn; simp_all [encs_append, encs_cons, encs_nil, ByteArray.append_assoc]; done)) | inr hge => (first | (exfalso; omega) | (right; refine ⟨by omega, ?_⟩; rw [← hf2, hdn (by omega), resF_nil]; clear hf2 hf hdc hdn; simp_all [encs_append, encs_cons, encs_nil, ByteArray.append_assoc]; done))⟩, by omega, St.Le.of ⟨rfl, rfl, rfl, rfl, rfl, rfl, trivial⟩⟩
        | exact ⟨i + 1, kk, acc ++ Utf8.encode ((runes s)[i]), ⟨by first | omega | (simp only [ByteArray.size_append]; omega) | (have := encode_size ((runes s)[i]); simp only [ByteArray.size_append]; omega), by omega, by cases Nat.lt_or_ge i (runes s).length with | inl hlt => (first | (exfalso; omega) | (left; refine ⟨by omega, ?_⟩; rw [← hf2, hdc hlt, resF_cons]; clear hf2 hf hdc hdn; simp_all [encs_append, encs_cons, encs_nil, ByteArray.append_assoc]; done)) | inr hge => (first | (exfalso; omega) | (right; refine ⟨by omega, ?_⟩; rw [← hf2, hdn (by omega), resF_nil]; clear hf2 hf hdc hdn; simp_all [encs_append, encs_cons, encs_nil, ByteArray.append_assoc]; done))⟩, by omega, St.Le.of ⟨rfl, rfl, rfl, rfl, rfl, rfl, trivial⟩⟩
        | exact ⟨i + 1, kk, acc, ⟨by first | omega | (simp only [ByteArray.size_append]; omega) | (have := encode_size ((runes s)[i]); simp only [ByteArray.size_append]; omega), by omega, by cases Nat.lt_or_ge i (runes s).length with | inl hlt => (first | (exfalso; omega) | (left; refine ⟨by omega, ?_⟩; rw [← hf2, hdc hlt, resF_cons]; clear hf2 hf hdc hdn; simp_all [encs_append, encs_cons, encs_nil, ByteArray.append_assoc]; done)) | inr hge => (first | (exfalso; omega) | (right; refine ⟨by omega, ?_⟩; rw [← hf2, hdn (by omega), resF_nil]; clear hf2 hf hdc hdn; simp_all [encs_append, encs_cons, encs_nil, ByteArray.append_assoc]; done))⟩, by omega, St.Le.of ⟨rfl, rfl, rfl, rfl, rfl, rfl, trivial⟩⟩
     ·try simp only [nmL] at hc5
      have hs0 : ¬ (sitesQ a r s)[kk] = i := fun h => hc5 (by rw [← h])
      refine SCode.skip ?_
      show SCode _ _ _ _
      refine SCode.seqR (SOps.move rfl (SOps.move rfl (SOps.lenM rfl sliceB_84_21_1 (SOps.bin rfl rfl rfl (SOps.move rfl ?_)))))
      refine SOps.caseB 59 rfl (fun hb9 => ?_) (fun hb9 => ?_)
      ·try simp only [nmL] at hb9
       refine SOps.move rfl (SOps.un rfl rfl (SOps.move rfl ?_))
       refine SOps.caseB 62 rfl (fun hb10 => ?_) (fun hb10 => ?_)
       ·try simp only [nmL] at hb10
        refine SOps.skip rfl (SOps.skip rfl (SOps.skip rfl (SOps.pick rfl rfl (SOps.pick rfl rfl (SOps.nil ?_)))))
        refine SCode.cond rfl (fun _ => ?_) (fun h => by cases h)
        refine SCode.region (SOps.move rfl (SOps.move rfl (SOps.move rfl (SOps.indexM (i) rfl rfl sliceB_84_21_1 (by first | omega | (simp only [lenB]; omega)) (by first | omega | (simp only [lenB]; omega)) (SOps.loadPin rfl flatB_21 (SOps.convIntStr rfl someB_21 strB_9 (SOps.concat rfl rfl (by simp only [lenB, ByteArray.size_append]; first | omega | (have := encode_size ((runes s)[i]); omega)) (SOps.assign rfl (SOps.nil ?_)))))))))
        show SCode _ _ _ _
        refine SCode.region (SOps.move rfl (SOps.addI rfl rfl (by first | omega | (simp only [lenB]; omega)) (by first | omega | (simp only [lenB]; omega)) (SOps.assign rfl (SOps.nil ?_))))
        first
         | (exfalso; omega)
         | exact ⟨i + 1, kk + 1, acc ++ r.«to» ++ Utf8.encode ((runes s)[i]), ⟨by first | omega | (simp only [ByteArray.size_append]; omega) | (have := encode_size ((runes s)[i]); simp only [ByteArray.size_append]; omega), by omega, by cases Nat.lt_or_ge i (runes s).length with | inl hlt => (first | (exfalso; omega) | (left; refine ⟨by omega, ?_⟩; rw [← hf2, hdc hlt, resF_cons]; clear hf2 hf hdc hdn; simp_all [encs_append, encs_cons, encs_nil, ByteArray.append_assoc]; done)) | inr hge => (first | (exfalso; omega) | (right; refine ⟨by omega, ?_⟩; rw [← hf2, hdn (by omega), resF_nil]; clear hf2 hf hdc hdn; simp_all [encs_append, encs_cons, encs_nil, ByteArray.append_assoc]; done))⟩, by omega, St.Le.of ⟨rfl, rfl, rfl, rfl, rfl, rfl, trivial⟩⟩
         | exact ⟨i + 1, kk + 1, acc ++ r.«to», ⟨by first | omega | (simp only [ByteArray.size_append]; omega) | (have := encode_size ((runes s)[i]); simp only [ByteArray.size_append]; omega), by omega, by cases Nat.lt_or_ge i (runes s).length with | inl hlt => (first | (exfalso; omega) | (left; refine ⟨by omega, ?_⟩; rw [← hf2, hdc hlt, resF_cons]; clear hf2 hf hdc hdn; simp_all [encs_append, encs_cons, encs_nil, ByteArray.append_assoc]; done)) | inr hge => (first | (exfalso; omega) | (right; refine ⟨by omega, ?_⟩; rw [← hf2, hdn (by omega), resF_nil]; clear hf2 hf hdc hdn; simp_all [encs_append, encs_cons, encs_nil, ByteArray.append_assoc]; done))⟩, by omega, St.Le.of ⟨rfl, rfl, rfl, rfl, rfl, rfl, trivial⟩⟩
         | exact ⟨i + 1, kk, acc ++ Utf8.encode ((runes s)[i]), ⟨by first | omega | (simp only [ByteArray.size_append]; omega) | (have := encode_size ((runes s)[i]); simp only [ByteArray.size_append]; omega), by omega, by cases Nat.lt_or_ge i (runes s).length with | inl hlt => (first | (exfalso; omega) | (left; refine ⟨by omega, ?_⟩; rw [← hf2, hdc hlt, resF_cons]; clear hf2 hf hdc hdn; simp_all [encs_append, encs_cons, encs_nil, ByteArray.append_assoc]; done)) | inr hge => (first | (exfalso; omega) | (right; refine ⟨by omega, ?_⟩; rw [← hf2, hdn (by omega), resF_nil]; clear hf2 hf hdc hdn; simp_all [encs_append, encs_cons, encs_nil, ByteArray.append_assoc]; done))⟩, by omega, St.Le.of ⟨rfl, rfl, rfl, rfl, rfl, rfl, trivial⟩⟩
         | exact ⟨i + 1, kk, acc, ⟨by first | omega | (simp only [ByteArray.size_append]; omega) | (have := encode_size ((runes s)[i]); simp only [ByteArray.size_append]; omega), by omega, by cases Nat.lt_or_ge i (runes s).length with | inl hlt => (first | (exfalso; omega) | (left; refine ⟨by omega, ?_⟩; rw [← hf2, hdc hlt, resF_cons]; clear hf2 hf hdc hdn; simp_all [encs_append, encs_cons, encs_nil, ByteArray.append_assoc]; done)) | inr hge => (first | (exfalso; omega) | (right; refine ⟨by omega, ?_⟩; rw [← hf2, hdn (by omega), resF_nil]; clear hf2 hf hdc hdn; simp_all [encs_append, encs_cons, encs_nil, ByteArray.append_assoc]; done))⟩, by omega, St.Le.of ⟨rfl, rfl, rfl, rfl, rfl, rfl, trivial⟩⟩
       ·try simp only [nmL] at hb10
        refine SOps.fieldPin rfl fieldB_47_0_0 (SOps.loadPin rfl flatB_21 (SOps.bin rfl rfl rfl (SOps.pick rfl rfl (SOps.pick rfl rfl (SOps.nil ?_)))))
        refine SCode.cond rfl (fun hc11 => ?_) (fun hc11 => ?_)
        ·try simp only [nmL] at hc11
         refine SCode.region (SOps.move rfl (SOps.move rfl (SOps.move rfl (SOps.indexM (i) rfl rfl sliceB_84_21_1 (by first | omega | (simp only [lenB]; omega)) (by first | omega | (simp only [lenB]; omega)) (SOps.loadPin rfl flatB_21 (SOps.convIntStr rfl someB_21 strB_9 (SOps.concat rfl rfl (by simp only [lenB, ByteArray.size_append]; first | omega | (have := encode_size ((runes s)[i]); omega)) (SOps.assign rfl (SOps.nil ?_)))))))))
         show SCode _ _ _ _
         refine SCode.region (SOps.move rfl (SOps.addI rfl rfl (by first | omega | (simp only [lenB]; omega)) (by first | omega | (simp only [lenB]; omega)) (SOps.assign rfl (SOps.nil ?_))))
         first
          | (exfalso; omega)
          | exact ⟨i + 1, kk + 1, acc ++ r.«to» ++ Utf8.encode ((runes s)[i]), ⟨by first | omega | (simp only [ByteArray.size_append]; omega) | (have := encode_size ((runes s)[i]); simp only [ByteArray.size_append]; omega), by omega, by cases Nat.lt_or_ge i (runes s).length with | inl hlt => (first | (exfalso; omega) | (left; refine ⟨by omega, ?_⟩; rw [← hf2, hdc hlt, resF_cons]; clear hf2 hf hdc hdn; simp_all [encs_append, encs_cons, encs_nil, ByteArray.append_assoc]; done)) | inr hge => (first | (exfalso; omega) | (right; refine ⟨by omega, ?_⟩; rw [← hf2, hdn (by omega), resF_nil]; clear hf2 hf hdc hdn; simp_all [encs_append, encs_cons, encs_nil, ByteArray.append_assoc]; done))⟩, by omega, St.Le.of ⟨rfl, rfl, rfl, rfl, rfl, rfl, trivial⟩⟩
          | exact ⟨i + 1, kk + 1, acc ++ r.«to», ⟨by first | omega | (simp only [ByteArray.size_append]; omega) | (have := encode_size ((runes s)[i]); simp only [ByteArray.size_append]; omega), by omega, by cases Nat.lt_or_ge i (runes s).length with | inl hlt => (first | (exfalso; omega) | (left; refine ⟨by omega, ?_⟩; rw [← hf2, hdc hlt, resF_cons]; clear hf2 hf hdc hdn; simp_all [encs_append, encs_cons, encs_nil, ByteArray.append_assoc]; done)) | inr hge => (first | (exfalso; omega) | (right; refine ⟨by omega, ?_⟩; rw [← hf2, hdn (by omega), resF_nil]; clear hf2 hf hdc hdn; simp_all [encs_append, encs_cons, encs_nil, ByteArray.append_assoc]; done))⟩, by omega, St.Le.of ⟨rfl, rfl, rfl, rfl, rfl, rfl, trivial⟩⟩
          | exact ⟨i + 1, kk, acc ++ Utf8.encode ((runes s)[i]), ⟨by first | omega | (simp only [ByteArray.size_append]; omega) | (have := encode_size ((runes s)[i]); simp only [ByteArray.size_append]; omega), by omega, by cases Nat.lt_or_ge i (runes s).length with | inl hlt => (first | (exfalso; omega) | (left; refine ⟨by omega, ?_⟩; rw [← hf2, hdc hlt, resF_cons]; clear hf2 hf hdc hdn; simp_all [encs_append, encs_cons, encs_nil, ByteArray.append_assoc]; done)) | inr hge => (first | (exfalso; omega) | (right; refine ⟨by omega, ?_⟩; rw [← hf2, hdn (by omega), resF_nil]; clear hf2 hf hdc hdn; simp_all [encs_append, encs_cons, encs_nil, ByteArray.append_assoc]; done))⟩, by omega, St.Le.of ⟨rfl, rfl, rfl, rfl, rfl, rfl, trivial⟩⟩
          | exact ⟨i + 1, kk, acc, ⟨by first | omega | (simp only [ByteArray.size_append]; omega) | (have := encode_size ((runes s)[i]); simp only [ByteArray.size_append]; omega), by omega, by cases Nat.lt_or_ge i (runes s).length with | inl hlt => (first | (exfalso; omega) | (left; refine ⟨by omega, ?_⟩; rw [← hf2, hdc hlt, resF_cons]; clear hf2 hf hdc hdn; simp_all [encs_append, encs_cons, encs_nil, ByteArray.append_assoc]; done)) | inr hge => (first | (exfalso; omega) | (right; refine ⟨by omega, ?_⟩; rw [← hf2, hdn (by omega), resF_nil]; clear hf2 hf hdc hdn; simp_all [encs_append, encs_cons, encs_nil, ByteArray.append_assoc]; done))⟩, by omega, St.Le.of ⟨rfl, rfl, rfl, rfl, rfl, rfl, trivial⟩⟩
        ·try simp only [nmL] at hc11
         refine SCode.skip ?_
         show SCode _ _ _ _
         refine SCode.region (SOps.move rfl (SOps.addI rfl rfl (by first | omega | (simp only [lenB]; omega)) (by first | omega | (simp only [lenB]; omega)) (SOps.assign rfl (SOps.nil ?_))))
         first
          | (exfalso; omega)
          | exact ⟨i + 1, kk + 1, acc ++ r.«to» ++ Utf8.encode ((runes s)[i]), ⟨by first | omega | (simp only [ByteArray.size_append]; omega) | (have := encode_size ((runes s)[i]); simp only [ByteArray.size_append]; omega), by omega, by cases Nat.lt_or_ge i (runes s).length with | inl hlt => (first | (exfalso; omega) | (left; refine ⟨by omega, ?_⟩; rw [← hf2, hdc hlt, resF_cons]; clear hf2 hf hdc hdn; simp_all [encs_append, encs_cons, encs_nil, ByteArray.append_assoc]; done)) | inr hge => (first | (exfalso; omega) | (right; refine ⟨by omega, ?_⟩; rw [← hf2, hdn (by omega), resF_nil]; clear hf2 hf hdc hdn; simp_all [encs_append, encs_cons, encs_nil, ByteArray.append_assoc]; done))⟩, by omega, St.Le.of ⟨rfl, rfl, rfl, rfl, rfl, rfl, trivial⟩⟩
          | exact ⟨i + 1, kk + 1, acc ++ r.«to», ⟨by first | omega | (simp only [ByteArray.size_append]; omega) | (have := encode_size ((runes s)[i]); simp only [ByteArray.size_append]; omega), by omega, by cases Nat.lt_or_ge i (runes s).length with | inl hlt => (first | (exfalso; omega) | (left; refine ⟨by omega, ?_⟩; rw [← hf2, hdc hlt, resF_cons]; clear hf2 hf hdc hdn; simp_all [encs_append, encs_cons, encs_nil, ByteArray.append_assoc]; done)) | inr hge => (first | (exfalso; omega) | (right; refine ⟨by omega, ?_⟩; rw [← hf2, hdn (by omega), resF_nil]; clear hf2 hf hdc hdn; simp_all [encs_append, encs_cons, encs_nil, ByteArray.append_assoc]; done))⟩, by omega, St.Le.of ⟨rfl, rfl, rfl, rfl, rfl, rfl, trivial⟩⟩
          | exact ⟨i + 1, kk, acc ++ Utf8.encode ((runes s)[i]), ⟨by first | omega | (simp only [ByteArray.size_append]; omega) | (have := encode_size ((runes s)[i]); simp only [ByteArray.size_append]; omega), by omega, by cases Nat.lt_or_ge i (runes s).length with | inl hlt => (first | (exfalso; omega) | (left; refine ⟨by omega, ?_⟩; rw [← hf2, hdc hlt, resF_cons]; clear hf2 hf hdc hdn; simp_all [encs_append, encs_cons, encs_nil, ByteArray.append_assoc]; done)) | inr hge => (first | (exfalso; omega) | (right; refine ⟨by omega, ?_⟩; rw [← hf2, hdn (by omega), resF_nil]; clear hf2 hf hdc hdn; simp_all [encs_append, encs_cons, encs_nil, ByteArray.append_assoc]; done))⟩, by omega, St.Le.of ⟨rfl, rfl, rfl, rfl, rfl, rfl, trivial⟩⟩
          | exact ⟨i + 1, kk, acc, ⟨by first | omega | (simp only [ByteArray.size_append]; omega) | (have := encode_size ((runes s)[i]); simp only [ByteArray.size_append]; omega), by omega, by cases Nat.lt_or_ge i (runes s).length with | inl hlt => (first | (exfalso; omega) | (left; refine ⟨by omega, ?_⟩; rw [← hf2, hdc hlt, resF_cons]; clear hf2 hf hdc hdn; simp_all [encs_append, encs_cons, encs_nil, ByteArray.append_assoc]; done)) | inr hge => (first | (exfalso; omega) | (right; refine ⟨by omega, ?_⟩; rw [← hf2, hdn (by omega), resF_nil]; clear hf2 hf hdc hdn; simp_all [encs_append, encs_cons, encs_nil, ByteArray.append_assoc]; done))⟩, by omega, St.Le.of ⟨rfl, rfl, rfl, rfl, rfl, rfl, trivial⟩⟩
      ·try simp only [nmL] at hb9
       refine SOps.skip rfl (SOps.skip rfl (SOps.skip rfl (SOps.skip rfl (SOps.skip rfl (SOps.skip rfl (SOps.skip rfl (SOps.pick rfl rfl (SOps.nil ?_))))))))
       refine SCode.cond rfl (fun h => by cases h) (fun _ => ?_)
       refine SCode.skip ?_
       show SCode _ _ _ _
       refine SCode.region (SOps.move rfl (SOps.addI rfl rfl (by first | omega | (simp only [lenB]; omega)) (by first | omega | (simp only [lenB]; omega)) (SOps.assign rfl (SOps.nil ?_))))
       first
        | (exfalso; omega)
        | exact ⟨i + 1, kk + 1, acc ++ r.«to» ++ Utf8.encode ((runes s)[i]), ⟨by first | omega | (simp only [ByteArray.size_append]; omega) | (have := encode_size ((runes s)[i]); simp only [ByteArray.size_append]; omega), by omega, by cases Nat.lt_or_ge i (runes s).length with | inl hlt => (first | (exfalso; omega) | (left; refine ⟨by omega, ?_⟩; rw [← hf2, hdc hlt, resF_cons]; clear hf2 hf hdc hdn; simp_all [encs_append, encs_cons, encs_nil, ByteArray.append_assoc]; done)) | inr hge => (first | (exfalso; omega) | (right; refine ⟨by omega, ?_⟩; rw [← hf2, hdn (by omega), resF_nil]; clear hf2 hf hdc hdn; simp_all [encs_append, encs_cons, encs_nil, ByteArray.append_assoc]; done))⟩, by omega, St.Le.of ⟨rfl, rfl, rfl, rfl, rfl, rfl, trivial⟩⟩
        | exact ⟨i + 1, kk + 1, acc ++ r.«to», ⟨by first | omega | (simp only [ByteArray.size_append]; omega) | (have := encode_size ((runes s)[i]); simp only [ByteArray.size_append]; omega), by omega, by cases Nat.lt_or_ge i (runes s).length with | inl hlt => (first | (exfalso; omega) | (left; refine ⟨by omega, ?_⟩; rw [← hf2, hdc hlt, resF_cons]; clear hf2 hf hdc hdn; simp_all [encs_append, encs_cons, encs_nil, ByteArray.append_assoc]; done)) | inr hge => (first | (exfalso; omega) | (right; refine ⟨by omega, ?_⟩; rw [← hf2, hdn (by omega), resF_nil]; clear hf2 hf hdc hdn; simp_all [encs_append, encs_cons, encs_nil, ByteArray.append_assoc]; done))⟩, by omega, St.Le.of ⟨rfl, rfl, rfl, rfl, rfl, rfl, trivial⟩⟩
        | exact ⟨i + 1, kk, acc ++ Utf8.encode ((runes s)[i]), ⟨by first | omega | (simp only [ByteArray.size_append]; omega) | (have := encode_size ((runes s)[i]); simp only [ByteArray.size_append]; omega), by omega, by cases Nat.lt_or_ge i (runes s).length with | inl hlt => (first | (exfalso; omega) | (left; refine ⟨by omega, ?_⟩; rw [← hf2, hdc hlt, resF_cons]; clear hf2 hf hdc hdn; simp_all [encs_append, encs_cons, encs_nil, ByteArray.append_assoc]; done)) | inr hge => (first | (exfalso; omega) | (right; refine ⟨by omega, ?_⟩; rw [← hf2, hdn (by omega), resF_nil]; clear hf2 hf hdc hdn; simp_all [encs_append, encs_cons, encs_nil, ByteArray.append_assoc]; done))⟩, by omega, St.Le.of ⟨rfl, rfl, rfl, rfl, rfl, rfl, trivial⟩⟩
        | exact ⟨i + 1, kk, acc, ⟨by first | omega | (simp only [ByteArray.size_append]; omega) | (have := encode_size ((runes s)[i]); simp only [ByteArray.size_append]; omega), by omega, by cases Nat.lt_or_ge i (runes s).length with | inl hlt => (first | (exfalso; omega) | (left; refine ⟨by omega, ?_⟩; rw [← hf2, hdc hlt, resF_cons]; clear hf2 hf hdc hdn; simp_all [encs_append, encs_cons, encs_nil, ByteArray.append_assoc]; done)) | inr hge => (first | (exfalso; omega) | (right; refine ⟨by omega, ?_⟩; rw [← hf2, hdn (by omega), resF_nil]; clear hf2 hf hdc hdn; simp_all [encs_append, encs_cons, encs_nil, ByteArray.append_assoc]; done))⟩, by omega, St.Le.of ⟨rfl, rfl, rfl, rfl, rfl, rfl, trivial⟩⟩
    ·try simp only [nmL] at hb4
     have hkd : (sitesQ a r s).drop kk = [] := List.drop_eq_nil_of_le (by omega)
     refine SOps.skip rfl (SOps.skip rfl (SOps.skip rfl (SOps.skip rfl (SOps.skip rfl (SOps.skip rfl (SOps.pick rfl rfl (SOps.assign rfl (SOps.nil (SCode.seq (SCode.seqR (SOps.move rfl (SOps.nil ?_))))))))))))
     refine SCode.cond rfl (fun h => by cases h) (fun _ => ?_)
     refine SCode.skip ?_
     show SCode _ _ _ _
     refine SCode.seqR (SOps.move rfl (SOps.move rfl (SOps.lenM rfl sliceB_84_21_1 (SOps.bin rfl rfl rfl (SOps.move rfl ?_)))))
     refine SOps.caseB 59 rfl (fun hb12 => ?_) (fun hb12 => ?_)
     ·try simp only [nmL] at hb12
      refine SOps.move rfl (SOps.un rfl rfl (SOps.move rfl (SOps.skip rfl (SOps.skip rfl (SOps.skip rfl (SOps.pick rfl rfl (SOps.pick rfl rfl (SOps.nil ?_))))))))
      refine SCode.cond rfl (fun _ => ?_) (fun h => by cases h)
      refine SCode.region (SOps.move rfl (SOps.move rfl (SOps.move rfl (SOps.indexM (i) rfl rfl sliceB_84_21_1 (by first | omega | (simp only [lenB]; omega)) (by first | omega | (simp only [lenB]; omega)) (SOps.loadPin rfl flatB_21 (SOps.convIntStr rfl someB_21 strB_9 (SOps.concat rfl rfl (by simp only [lenB, ByteArray.size_append]; first | omega | (have := encode_size ((runes s)[i]); omega)) (SOps.assign rfl (SOps.nil ?_)))))))))
      show SCode _ _ _ _
      refine SCode.region (SOps.move rfl (SOps.addI rfl rfl (by first | omega | (simp only [lenB]; omega)) (by first | omega | (simp only [lenB]; omega)) (SOps.assign rfl (SOps.nil ?_))))
      first
       | (exfalso; omega)
       | exact ⟨i + 1, kk + 1, acc ++ r.«to» ++ Utf8.encode ((runes s)[i]), ⟨by first | omega | (simp only [ByteArray.size_append]; omega) | (have := encode_size ((runes s)[i]); simp only [ByteArray.size_append]; omega), by omega, by cases Nat.lt_or_ge i (runes s).length with | inl hlt => (first | (exfalso; omega) | (left; refine ⟨by omega, ?_⟩; rw [← hf2, hdc hlt, resF_cons]; clear hf2 hf hdc hdn; simp_all [encs_append, encs_cons, encs_nil, ByteArray.append_assoc]; done)) | inr hge => (first | (exfalso; omega) | (right; refine ⟨by omega, ?_⟩; rw [← hf2, hdn (by omega), resF_nil]; clear hf2 hf hdc hdn; simp_all [encs_append, encs_cons, encs_nil, ByteArray.append_assoc]; done))⟩, by omega, St.Le.of ⟨rfl, rfl, rfl, rfl, rfl, rfl, trivial⟩⟩
       | exact ⟨i + 1, kk + 1, acc ++ r.«to», ⟨by first | omega | (simp only [ByteArray.size_append]; omega) | (have := encode_size ((runes s)[i]); simp only [ByteArray.size_append]; omega), by omega, by cases Nat.lt_or_ge i (runes s).length with | inl hlt => (first | (exfalso; omega) | (left; refine ⟨by omega, ?_⟩; rw [← hf2, hdc hlt, resF_cons]; clear hf2 hf hdc hdn; simp_all [encs_append, encs_cons, encs_nil, ByteArray.append_assoc]; done)) | inr hge => (first | (exfalso; omega) | (right; refine ⟨by omega, ?_⟩; rw [← hf2, hdn (by omega), resF_nil]; clear hf2 hf hdc hdn; simp_all [encs_append, encs_cons, encs_nil, ByteArray.append_assoc]; done))⟩, by omega, St.Le.of ⟨rfl, rfl, rfl, rfl, rfl, rfl, trivial⟩⟩
       | exact ⟨i + 1, kk, acc ++ Utf8.encode ((runes s)[i]), ⟨by first | omega | (simp only [ByteArray.size_append]; omega) | (have := encode_size ((runes s)[i]); simp only [ByteArray.size_append]; omega), by omega, by cases Nat.lt_or_ge i (runes s).length with | inl hlt => (first | (exfalso; omega) | (left; refine ⟨by omega, ?_⟩; rw [← hf2, hdc hlt, resF_cons]; clear hf2 hf hdc hdn; simp_all [encs_append, encs_cons, encs_nil, ByteArray.append_assoc]; done)) | inr hge => (first | (exfalso; omega) | (right; refine ⟨by omega, ?_⟩; rw [← hf2, hdn (by omega), resF_nil]; clear hf2 hf hdc hdn; simp_all [encs_append, encs_cons, encs_nil, ByteArray.append_assoc]; done))⟩, by omega, St.Le.of ⟨rfl, rfl, rfl, rfl, rfl, rfl, trivial⟩⟩
       | exact ⟨i + 1, kk, acc, ⟨by first | omega | (simp only [ByteArray.size_append]; omega) | (have := encode_size ((runes s)[i]); simp only [ByteArray.size_append]; omega), by omega, by cases Nat.lt_or_ge i (runes s).length with | inl hlt => (first | (exfalso; omega) | (left; refine ⟨by omega, ?_⟩; rw [← hf2, hdc hlt, resF_cons]; clear hf2 hf hdc hdn; simp_all [encs_append, encs_cons, encs_nil, ByteArray.append_assoc]; done)) | inr hge => (first | (exfalso; omega) | (right; refine ⟨by omega, ?_⟩; rw [← hf2, hdn (by omega), resF_nil]; clear hf2 hf hdc hdn; simp_all [encs_append, encs_cons, encs_nil, ByteArray.append_assoc]; done))⟩, by omega, St.Le.of ⟨rfl, rfl, rfl, rfl, rfl, rfl, trivial⟩⟩
     ·try simp only [nmL] at hb12
      refine SOps.skip rfl (SOps.skip rfl (SOps.skip rfl (SOps.skip rfl (SOps.skip rfl (SOps.skip rfl (SOps.skip rfl (SOps.pick rfl rfl (SOps.nil ?_))))))))
      refine SCode.cond rfl (fun h => by cases h) (fun _ => ?_)
      refine SCode.skip ?_
      show SCode _ _ _ _
      refine SCode.region (SOps.move rfl (SOps.addI rfl rfl (by first | omega | (simp only [lenB]; omega)) (by first | omega | (simp only [lenB]; omega)) (SOps.assign rfl (SOps.nil ?_))))
      first
       | (exfalso; omega)
       | exact ⟨i + 1, kk + 1, acc ++ r.«to» ++ Utf8.encode ((runes s)[i]), ⟨by first | omega | (simp only [ByteArray.size_append]; omega) | (have := encode_size ((runes s)[i]); simp only [ByteArray.size_append]; omega), by omega, by cases Nat.lt_or_ge i (runes s).length with | inl hlt => (first | (exfalso; omega) | (left; refine ⟨by omega, ?_⟩; rw [← hf2, hdc hlt, resF_cons]; clear hf2 hf hdc hdn; simp_all [encs_append, encs_cons, encs_nil, ByteArray.append_assoc]; done)) | inr hge => (first | (exfalso; omega) | (right; refine ⟨by omega, ?_⟩; rw [← hf2, hdn (by omega), resF_nil]; clear hf2 hf hdc hdn; simp_all [encs_append, encs_cons, encs_nil, ByteArray.append_assoc]; done))⟩, by omega, St.Le.of ⟨rfl, rfl, rfl, rfl, rfl, rfl, trivial⟩⟩
       | exact ⟨i + 1, kk + 1, acc ++ r.«to», ⟨by first | omega | (simp only [ByteArray.size_append]; omega) | (have := encode_size ((runes s)[i]); simp only [ByteArray.size_append]; omega), by omega, by cases Nat.lt_or_ge i (runes s).length with | inl hlt => (first | (exfalso; omega) | (left; refine ⟨by omega, ?_⟩; rw [← hf2, hdc hlt, resF_cons]; clear hf2 hf hdc hdn; simp_all [encs_append, encs_cons, encs_nil, ByteArray.append_assoc]; done)) | inr hge => (first | (exfalso; omega) | (right; refine ⟨by omega, ?_⟩; rw [← hf2, hdn (by omega), resF_nil]; clear hf2 hf hdc hdn; simp_all [encs_append, encs_cons, encs_nil, ByteArray.append_assoc]; done))⟩, by omega, St.Le.of ⟨rfl, rfl, rfl, rfl, rfl, rfl, trivial⟩⟩
       | exact ⟨i + 1, kk, acc ++ Utf8.encode ((runes s)[i]), ⟨by first | omega | (simp only [ByteArray.size_append]; omega) | (have := encode_size ((runes s)[i]); simp only [ByteArray.size_append]; omega), by omega, by cases Nat.lt_or_ge i (runes s).length with | inl hlt => (first | (exfalso; omega) | (left; refine ⟨by omega, ?_⟩; rw [← hf2, hdc hlt, resF_cons]; clear hf2 hf hdc hdn; simp_all [encs_append, encs_cons, encs_nil, ByteArray.append_assoc]; done)) | inr hge => (first | (exfalso; omega) | (right; refine ⟨by omega, ?_⟩; rw [← hf2, hdn (by omega), resF_nil]; clear hf2 hf hdc hdn; simp_all [encs_append, encs_cons, encs_nil, ByteArray.append_assoc]; done))⟩, by omega, St.Le.of ⟨rfl, rfl, rfl, rfl, rfl, rfl, trivial⟩⟩
       | exact ⟨i + 1, kk, acc, ⟨by first | omega | (simp only [ByteArray.size_append]; omega) | (have := encode_size ((runes s)[i]); simp only [ByteArray.size_append]; omega), by omega, by cases Nat.lt_or_ge i (runes s).length with | inl hlt => (first | (exfalso; omega) | (left; refine ⟨by omega, ?_⟩; rw [← hf2, hdc hlt, resF_cons]; clear hf2 hf hdc hdn; simp_all [encs_append, encs_cons, encs_nil, ByteArray.append_assoc]; done)) | inr hge => (first | (exfalso; omega) | (right; refine ⟨by omega, ?_⟩; rw [← hf2, hdn (by omega), resF_nil]; clear hf2 hf hdc hdn; simp_all [encs_append, encs_cons, encs_nil, ByteArray.append_assoc]; done))⟩, by omega, St.Le.of ⟨rfl, rfl, rfl, rfl, rfl, rfl, trivial⟩⟩
   ·try simp only [nmL] at hc3
    refine SCode.exit ?_
    show SCode _ _ _ _
    refine SCode.seq (SCode.seqR ?_)
    obtain ⟨_, rfl⟩ := hf.resolve_left (by omega)
    refine SOps.move rfl (SOps.runesF rfl rfl strB_9 sliceB_84_21_1 intB_21_i32 (SOps.lenM rfl sliceB_84_21_1 (SOps.bin rfl rfl rfl (SOps.nil ?_))))
    refine SCode.cond rfl (fun hc13 => ?_) (fun hc13 => ?_)
    ·try simp only [nmL] at hc13
     refine SCode.seqR (SOps.assign rfl (SOps.assign rfl (SOps.nil (SCode.ret ?_))))
     exact ⟨_, Res.two (.tmp rfl) (.tmp rfl), (by unfold applyQ resX; first | (rw [if_neg (by simp_all [okR])]; rfl) | (rw [if_pos hok, if_pos (by omega)]; rfl) | (rw [if_pos hok, if_neg (by omega)]; rfl)), rfl⟩
    ·try simp only [nmL] at hc13
     refine SCode.skip ?_
     show SCode _ _ _ _
     refine SCode.seqR (SOps.move rfl (SOps.assign rfl (SOps.assign rfl (SOps.nil (SCode.ret ?_)))))
     exact ⟨_, Res.two (.tmp rfl) (.tmp rfl), (by unfold applyQ resX; first | (rw [if_neg (by simp_all [okR])]; rfl) | (rw [if_pos hok, if_pos (by omega)]; rfl) | (rw [if_pos hok, if_neg (by omega)]; rfl)), rfl⟩
def trF (ap : Rule → ByteArray → ByteArray × Int) : List Rule → List ByteArray → ByteArray → List ByteArray × Int
  | [], out, _ => (out, 0)
  | r :: rs, out, last => if (ap r last).2 = 0 then trF ap rs (out ++ [(ap r last).1]) (ap r last).1 else ([], (ap r last).2)
theorem trF_nil (ap : Rule → ByteArray → ByteArray × Int) (out : List ByteArray) (last : ByteArray) : trF ap [] out last = (out, 0) := rfl
theorem trF_cons (ap : Rule → ByteArray → ByteArray × Int) (r : Rule) (rs : List Rule) (out : List ByteArray) (last : ByteArray) : trF ap (r :: rs) out last = if (ap r last).2 = 0 then trF ap rs (out ++ [(ap r last).1]) (ap r last).1 else ([], (ap r last).2) := rfl
def okT (a : List Letter) (l : List Rule) (s : ByteArray) : Bool := decide (l.length ≤ 64) && admA a && consS a 40 s && l.all (validR a)
def traceX (a : List Letter) (l : List Rule) (s : ByteArray) (ap : Rule → ByteArray → ByteArray × Int) : List ByteArray × Int := if okT a l s then trF ap l [s] s else ([], 1)
def traceR (a : List Letter) (l : List Rule) (s : ByteArray) : List ByteArray × Int := traceX a l s (applyR a)
def traceQ (a : List Letter) (l : List Rule) (s : ByteArray) : List ByteArray × Int := traceX a l s (applyQ a)
def tupT (x : List ByteArray × Int) : DV := .tup [DStrs x.1, .v (.int .i64 x.2)]
theorem qCheck (hV : VS E) (a : List Letter) (l : List Rule) (s : ByteArray)  : GCall Tryd.prog E 86 [DLs a, DRs l, .v (.string s)] [] (fun d H => d = .v (.bool (okT a l s)) ∧ H = []) := by
 refine GCall.body (C := ⟨Tryd.prog, E, true⟩) Tryd.func86 rfl (fun _ => rfl) (by kernel_rfl) rfl ?_
 refine SCode.seqR (SOps.assign rfl (SOps.nil (SCode.seq (SCode.seqR (SOps.assign rfl (SOps.nil (SCode.block (SCode.loop1 (fun (i : Nat) => (⟨33, [(0, DLs a), (1, DRs l), (2, .v (.string s)), (7, .v (.int .i64 (i : Int)))], []⟩ : St)) (fun (i : Nat) => i ≤ l.length ∧ ∀ r ∈ l.take i, validR a r = true) (fun (i : Nat) => l.length - i) (0) (by simp) (St.Le.of ⟨(by first | rfl | (show some _ = some _; simp)), (by first | rfl | (show some _ = some _; simp)), (by first | rfl | (show some _ = some _; simp)), (by first | rfl | (show some _ = some _; simp)), trivial⟩ rfl (by first | rfl | (simp))) ?_))))))))
 rintro i ⟨hi, hf⟩
 refine SCode.fact (isl_len (t := 1) rfl) (fun hB => ?_)
 simp only [List.length_map, lenB] at hB
 refine SCode.seq (SCode.seqR (SOps.move rfl (SOps.move rfl (SOps.lenM rfl sliceB_23_47_6 (SOps.bin rfl rfl rfl (SOps.nil ?_))))))
 refine SCode.cond rfl (fun hc1 => ?_) (fun hc1 => ?_)
 ·try simp only [nmL] at hc1
  refine SCode.skip ?_
  show SCode _ _ _ _
  refine SCode.seq (SCode.block (SCode.seqR (SOps.move rfl (SOps.move rfl (SOps.move rfl (SOps.indexM (i) rfl rfl sliceB_23_47_6 (by omega) (by omega) (SOps.loadPinA rfl aggB_47_6 (Nat.le_of_ble_eq_true rfl) (SOps.callP (qValid hV _ _) rfl ?_))))))))
  rintro _ rfl
  refine SOps.un rfl rfl (SOps.nil ?_)
  refine SCode.cond rfl (fun hc2 => ?_) (fun hc2 => ?_)
  ·try simp only [nmL] at hc2
   refine SCode.seqR (SOps.assign rfl (SOps.nil (SCode.ret ?_)))
   exact ⟨_, Res.one (.tmp rfl), congrArg (fun b => DV.v (.bool b)) (Eq.symm (Bool.eq_false_iff.2 (fun h => by simp only [okT, Bool.and_eq_true, List.all_eq_true] at h; rw [h.2 _ (List.getElem_mem (show i < l.length by omega))] at hc2; cases hc2))), rfl⟩
  ·try simp only [nmL] at hc2
   refine SCode.skip ?_
   show SCode _ _ _ _
   refine SCode.region (SOps.move rfl (SOps.addI rfl rfl (by omega) (by omega) (SOps.assign rfl (SOps.nil ?_))))
   exact ⟨i + 1, by exact ⟨by omega, take_more hf (by omega) hc2⟩, by omega, (St.Le.of ⟨(by first | rfl | (show some _ = some _; simp)), (by first | rfl | (show some _ = some _; simp)), (by first | rfl | (show some _ = some _; simp)), (by first | rfl | (show some _ = some _; simp)), trivial⟩ rfl (by first | rfl | (simp)))⟩
 ·try simp only [nmL] at hc1
  refine SCode.exit ?_
  show SCode _ _ _ _
  refine SCode.seqR ?_
  have hall : l.all (validR a) = true := List.all_eq_true.2 (all_of (by omega) hf)
  refine SOps.move rfl (SOps.lenM rfl sliceB_23_47_6 (SOps.bin rfl rfl rfl (SOps.move rfl ?_)))
  refine SOps.caseB 24 rfl (fun hb3 => ?_) (fun hb3 => ?_)
  ·try simp only [nmL] at hb3
   refine SOps.move rfl (SOps.callP (qAdm _) rfl ?_)
   rintro _ rfl
   refine SOps.pick rfl rfl (SOps.move rfl ?_)
   refine SOps.caseB 28 rfl (fun hb4 => ?_) (fun hb4 => ?_)
   ·try simp only [nmL] at hb4
    refine SOps.move rfl (SOps.move rfl (SOps.callP (qWord hV _ _) rfl ?_))
    rintro _ rfl
    refine SOps.pick rfl rfl (SOps.assign rfl (SOps.nil (SCode.ret ?_)))
    exact ⟨_, Res.one (.tmp rfl), congrArg (fun b => DV.v (.bool b)) (by rcases Classical.em (l.length ≤ 64) with h64 | h64 <;> first | (exfalso; omega) | (simp_all [okT]; done) | (simp_all [okT]; intros; omega)), rfl⟩
   ·try simp only [nmL] at hb4
    refine SOps.skip rfl (SOps.skip rfl (SOps.skip rfl (SOps.pick rfl rfl (SOps.assign rfl (SOps.nil (SCode.ret ?_))))))
    exact ⟨_, Res.one (.tmp rfl), congrArg (fun b => DV.v (.bool b)) (by rcases Classical.em (l.length ≤ 64) with h64 | h64 <;> first | (exfalso; omega) | (simp_all [okT]; done) | (simp_all [okT]; intros; omega)), rfl⟩
  ·try simp only [nmL] at hb3
   refine SOps.skip rfl (SOps.skip rfl (SOps.pick rfl rfl (SOps.move rfl (SOps.skip rfl (SOps.skip rfl (SOps.skip rfl (SOps.pick rfl rfl (SOps.assign rfl (SOps.nil (SCode.ret ?_))))))))))
   exact ⟨_, Res.one (.tmp rfl), congrArg (fun b => DV.v (.bool b)) (by rcases Classical.em (l.length ≤ 64) with h64 | h64 <;> first | (exfalso; omega) | (simp_all [okT]; done) | (simp_all [okT]; intros; omega)), rfl⟩
theorem rTrace (hV : VS E) (a : List Letter) (l : List Rule) (s : ByteArray) (hr : ∀ r ∈ l, SmR r) (hs : s.size ≤ 1048576) : GCall Tryd.prog E 83 [DLs a, DRs l, .v (.string s)] [] (fun d H => d = tupT (traceR a l s) ∧ H = []) := by
 refine GCall.body (C := ⟨Tryd.prog, E, true⟩) Tryd.func83 rfl (fun _ => rfl) (by kernel_rfl) rfl ?_
 refine SCode.seqR (SOps.assign rfl (SOps.assign rfl (SOps.nil (SCode.seq (SCode.seqR (SOps.move rfl (SOps.lenM rfl sliceB_23_47_6 (SOps.bin rfl rfl rfl (SOps.move rfl ?_)))))))))
 refine SOps.caseB 18 rfl (fun hb1 => ?_) (fun hb1 => ?_)
 ·try simp only [nmL] at hb1
  refine SOps.skip rfl (SOps.skip rfl (SOps.skip rfl (SOps.pick rfl rfl (SOps.move rfl (SOps.skip rfl (SOps.skip rfl (SOps.skip rfl (SOps.skip rfl (SOps.pick rfl rfl (SOps.nil ?_))))))))))
  refine SCode.cond rfl (fun _ => ?_) (fun h => by cases h)
  refine SCode.seqR (SOps.assign rfl (SOps.assign rfl (SOps.nil (SCode.nilIsl (t := 6) (sz := 1) rfl (SCode.drop (SCode.ret ?_))))))
  exact ⟨_, Res.two (.tmp rfl) (.tmp rfl), (by unfold traceR traceX; rw [if_neg (fun h => by have hok := h; simp only [okT, Bool.and_eq_true, decide_eq_true_eq, List.all_eq_true] at hok; omega)]; rfl), rfl⟩
 ·try simp only [nmL] at hb1
  refine SOps.move rfl (SOps.callP (lAdm _) rfl ?_)
  rintro _ rfl
  refine SOps.un rfl rfl (SOps.pick rfl rfl (SOps.move rfl ?_))
  refine SOps.caseB 23 rfl (fun hb2 => ?_) (fun hb2 => ?_)
  ·try simp only [nmL] at hb2
   refine SOps.skip rfl (SOps.skip rfl (SOps.skip rfl (SOps.skip rfl (SOps.pick rfl rfl (SOps.nil ?_)))))
   refine SCode.cond rfl (fun _ => ?_) (fun h => by cases h)
   refine SCode.seqR (SOps.assign rfl (SOps.assign rfl (SOps.nil (SCode.nilIsl (t := 6) (sz := 1) rfl (SCode.drop (SCode.ret ?_))))))
   exact ⟨_, Res.two (.tmp rfl) (.tmp rfl), (by unfold traceR traceX; rw [if_neg (fun h => by have hok := h; simp only [okT, Bool.and_eq_true, decide_eq_true_eq, List.all_eq_true] at hok; simp_all)]; rfl), rfl⟩
  ·try simp only [nmL] at hb2
   refine SOps.move rfl (SOps.move rfl (SOps.callP (lIsWord hV _ _) rfl ?_))
   rintro _ rfl
   refine SOps.un rfl rfl (SOps.pick rfl rfl (SOps.nil ?_))
   refine SCode.cond rfl (fun hc3 => ?_) (fun hc3 => ?_)
   ·try simp only [nmL] at hc3
    refine SCode.seqR (SOps.assign rfl (SOps.assign rfl (SOps.nil (SCode.nilIsl (t := 6) (sz := 1) rfl (SCode.drop (SCode.ret ?_))))))
    exact ⟨_, Res.two (.tmp rfl) (.tmp rfl), (by unfold traceR traceX; rw [if_neg (fun h => by have hok := h; simp only [okT, Bool.and_eq_true, decide_eq_true_eq, List.all_eq_true] at hok; simp_all)]; rfl), rfl⟩
   ·try simp only [nmL] at hc3
    refine SCode.skip ?_
    show SCode _ _ _ _
    refine SCode.seq (SCode.seqR (SOps.move rfl (SOps.lenM rfl sliceB_23_47_6 (SOps.move rfl (SOps.nil (SCode.block (SCode.loop1 (fun (i : Nat) => (⟨69, [(0, DLs a), (1, DRs l), (2, .v (.string s)), (29, DRs l), (30, .v (.int .i64 ((l.length : Nat) : Int))), (31, .v (.int .i64 (i : Int)))], []⟩ : St)) (fun (i : Nat) => i ≤ l.length ∧ ∀ r ∈ l.take i, validR a r = true) (fun (i : Nat) => l.length - i) (0) (by simp) (St.Le.of ⟨(by first | rfl | (show some _ = some _; simp)), (by first | rfl | (show some _ = some _; simp)), (by first | rfl | (show some _ = some _; simp)), (by first | rfl | (show some _ = some _; simp)), (by first | rfl | (show some _ = some _; simp)), (by first | rfl | (show some _ = some _; simp)), trivial⟩ rfl (by first | rfl | (simp))) ?_)))))))
    rintro i ⟨hi, hf⟩
    refine SCode.seqR (SOps.bin rfl rfl rfl (SOps.nil (SCode.seq ?_)))
    refine SCode.cond rfl (fun hc4 => ?_) (fun hc4 => ?_)
    ·try simp only [nmL] at hc4
     refine SCode.skip ?_
     show SCode _ _ _ _
     refine SCode.seq (SCode.block (SCode.seqR (SOps.indexM (i) rfl rfl sliceB_23_47_6 (by first | omega | (simp only [lenB]; omega)) (by first | omega | (simp only [lenB]; omega)) (SOps.loadPinA rfl aggB_47_6 (Nat.le_of_ble_eq_true rfl) ?_))))
     refine SOps.alloc (sz := 6) zeroIs_47 (fun b0 hb_0 => ?_)
     refine SOps.storeAM 0 rfl rfl aggB_47_6 rfl (SOps.freezeRef (t := 9) 0 0 rfl rfl rfl rfl rfl (SOps.nil (SCode.seqR ?_)))
     have hr6 := hr _ (List.getElem_mem (show i < l.length by omega))
     refine SOps.move rfl (SOps.loadPinA rfl aggB_47_6 (Nat.le_of_ble_eq_true rfl) (SOps.callP (rValid hV _ _ hr6) rfl ?_))
     rintro _ rfl
     refine SOps.un rfl rfl (SOps.nil ?_)
     refine SCode.cond rfl (fun hc5 => ?_) (fun hc5 => ?_)
     ·try simp only [nmL] at hc5
      refine SCode.seqR (SOps.assign rfl (SOps.assign rfl (SOps.nil (SCode.nilIsl (t := 6) (sz := 1) rfl (SCode.drop (SCode.ret ?_))))))
      exact ⟨_, Res.two (.tmp rfl) (.tmp rfl), (by unfold traceR traceX; rw [if_neg (fun h => by have hok := h; simp only [okT, Bool.and_eq_true, decide_eq_true_eq, List.all_eq_true] at hok; have := hok.2 _ (List.getElem_mem (show i < l.length by omega)); simp_all)]; rfl), rfl⟩
     ·try simp only [nmL] at hc5
      refine SCode.skip ?_
      show SCode _ _ _ _
      refine SCode.region (SOps.addI rfl rfl (by first | omega | (simp only [lenB]; omega)) (by first | omega | (simp only [lenB]; omega)) (SOps.move rfl (SOps.nil ?_)))
      exact ⟨i + 1, by exact ⟨by omega, take_more hf (by omega) hc5⟩, by omega, (St.Le.of ⟨(by first | rfl | (show some _ = some _; simp)), (by first | rfl | (show some _ = some _; simp)), (by first | rfl | (show some _ = some _; simp)), (by first | rfl | (show some _ = some _; simp)), (by first | rfl | (show some _ = some _; simp)), (by first | rfl | (show some _ = some _; simp)), trivial⟩ rfl (by first | rfl | (simp)))⟩
    ·try simp only [nmL] at hc4
     refine SCode.exit ?_
     show SCode _ _ _ _
     refine SCode.seqR (SOps.move rfl ?_)
     refine SOps.litO sliceB_35_9_1 zeroIs_9 rfl (fun b1 hb_1 => ?_)
     refine SOps.assign rfl (SOps.nil (SCode.seq (SCode.seqR (SOps.move rfl (SOps.lenM rfl sliceB_23_47_6 (SOps.move rfl (SOps.nil (SCode.block ?_))))))))
     have hall : l.all (validR a) = true := List.all_eq_true.2 (all_of (by omega) hf)
     have hok : okT a l s = true := by rcases Classical.em (l.length ≤ 64) with h64 | h64 <;> first | (exfalso; omega) | (simp_all [okT]; done)
     have h64 : l.length ≤ 64 := by omega
     refine SCode.loop3 (fun (j : Nat) (out : List ByteArray) (k : Nat) => (⟨69, [(0, DLs a), (10, .sl k 1 0 out.length), (42, DRs l), (43, .v (.int .i64 ((l.length : Nat) : Int))), (44, .v (.int .i64 (j : Int)))], [(k, .row 9 1 (out.map encS))]⟩ : St)) (fun (j : Nat) (out : List ByteArray) (k : Nat) => j ≤ l.length ∧ ∃ (ho : out.length = j + 1), (out[out.length - 1]'(by omega)).size ≤ 1048576 ∧ trF (applyR a) (l.drop j) out (out[out.length - 1]'(by omega)) = trF (applyR a) l [s] s) (fun (j : Nat) (out : List ByteArray) (k : Nat) => l.length - j) (0) ([s]) (b1) (by exact ⟨Nat.zero_le _, rfl, hs, rfl⟩) (St.Le.of ⟨(by first | rfl | (show some _ = some _; simp)), (by first | rfl | (show some _ = some _; simp)), (by first | rfl | (show some _ = some _; simp)), (by first | rfl | (show some _ = some _; simp)), (by first | rfl | (show some _ = some _; simp)), trivial⟩ rfl (by first | rfl | (simp))) ?_
     rintro j out k ⟨hj, ho, hz, ht⟩
     refine SCode.seqR (SOps.bin rfl rfl rfl (SOps.nil (SCode.seq ?_)))
     refine SCode.cond rfl (fun hc6 => ?_) (fun hc6 => ?_)
     ·try simp only [nmL] at hc6
      refine SCode.skip ?_
      show SCode _ _ _ _
      refine SCode.seq (SCode.block (SCode.seqR (SOps.indexM (j) rfl rfl sliceB_23_47_6 (by first | omega | (simp only [lenB]; omega)) (by first | omega | (simp only [lenB]; omega)) (SOps.loadPinA rfl aggB_47_6 (Nat.le_of_ble_eq_true rfl) ?_))))
      refine SOps.alloc (sz := 6) zeroIs_47 (fun b2 hb_2 => ?_)
      refine SOps.storeAM 0 rfl rfl aggB_47_6 rfl (SOps.freezeRef (t := 12) 0 0 rfl rfl rfl rfl rfl (SOps.nil (SCode.seq ?_)))
      have hjl : j < l.length := by omega
      have hr13 := hr _ (List.getElem_mem hjl)
      refine SCode.drawPure mixed_ [(49, DLs a), (50, .agg (encR (l[j]))), (51, .sl k 1 0 out.length), (52, .sl k 1 0 out.length), (53, .v (.int .i64 ((out.length : Nat) : Int))), (54, .v (.int .i64 ((out.length : Int) - 1))), (55, .ref k ((0 + (out.length - 1)) * 1)), (56, .v (.string (out[out.length - 1]))), (57, tupA (applyR a (l[j]) (out[out.length - 1]))), (48, tupA (applyR a (l[j]) (out[out.length - 1]))), (58, .v (.string (applyR a (l[j]) (out[out.length - 1])).1)), (59, .v (.int .i64 (applyR a (l[j]) (out[out.length - 1])).2)), (13, .v (.string (applyR a (l[j]) (out[out.length - 1])).1)), (14, .v (.int .i64 (applyR a (l[j]) (out[out.length - 1])).2))] [49, 50, 51, 52, 53, 54, 55, 56, 57, 48, 58, 59, 13, 14] [[.inr 0], [.inr 12], [.inr 10], [.inr 10], [.inl 3], [.inl 4], [.inl 2, .inl 5], [.inl 6], [.inl 0, .inl 1, .inl 7], [.inl 8], [.inl 9], [.inl 9], [.inl 10], [.inl 11]] [[(0, DLs a)], [(12, .ipin (encR (l[j])))], [(10, .sl k 1 0 out.length)], [(10, .sl k 1 0 out.length)], [(52, .sl k 1 0 out.length)], [(53, .v (.int .i64 ((out.length : Nat) : Int)))], [(51, .sl k 1 0 out.length), (54, .v (.int .i64 ((out.length : Int) - 1)))], [(55, .ref k ((0 + (out.length - 1)) * 1))], [(49, DLs a), (50, .agg (encR (l[j]))), (56, .v (.string (out[out.length - 1])))], [(57, tupA (applyR a (l[j]) (out[out.length - 1])))], [(48, tupA (applyR a (l[j]) (out[out.length - 1])))], [(48, tupA (applyR a (l[j]) (out[out.length - 1])))], [(58, .v (.string (applyR a (l[j]) (out[out.length - 1])).1))], [(59, .v (.int .i64 (applyR a (l[j]) (out[out.length - 1])).2))]] rfl (by kernel_rfl) (by kernel_rfl) rfl ?_ ?_
      ·refine OpsOk.cons (fun rest => ?_) ?_
       ·refine SOps.move rfl ?_
        exact SOps.nil (by first | rfl | simp_all)
       refine OpsOk.cons (fun rest => ?_) ?_
       ·refine SOps.loadPinA rfl aggB_47_6 (Nat.le_of_ble_eq_true rfl) ?_
        exact SOps.nil (by first | rfl | simp_all)
       refine OpsOk.cons (fun rest => ?_) ?_
       ·refine SOps.move rfl ?_
        exact SOps.nil (by first | rfl | simp_all)
       refine OpsOk.cons (fun rest => ?_) ?_
       ·refine SOps.move rfl ?_
        exact SOps.nil (by first | rfl | simp_all)
       refine OpsOk.cons (fun rest => ?_) ?_
       ·refine SOps.lenSl rfl sliceB_35_9_1 ?_
        exact SOps.nil (by first | rfl | simp_all)
       refine OpsOk.cons (fun rest => ?_) ?_
       ·refine SOps.subI rfl rfl (by first | omega | (simp only [lenB]; omega)) (by first | omega | (simp only [lenB]; omega)) ?_
        exact SOps.nil (by first | rfl | simp_all)
       refine OpsOk.cons (fun rest => ?_) ?_
       ·refine SOps.indexS ((out.length - 1)) rfl rfl sliceB_35_9_1 (by first | omega | (simp only [lenB]; omega)) (by first | omega | (simp only [lenB]; omega)) ?_
        exact SOps.nil (by first | rfl | simp_all)
       refine OpsOk.cons (fun rest => ?_) ?_
       ·refine SOps.loadK 0 ((out.length - 1)) rfl flatB_9 rfl (by first | omega | (simp only [lenB]; omega)) (by first | omega | (simp; done) | (simp; omega)) rfl ?_
        exact SOps.nil (by first | rfl | simp_all)
       refine OpsOk.cons (fun rest => ?_) ?_
       ·refine SOps.callP (rApply hV _ _ _ hr13 hz) rfl ?_
        rintro _ rfl
        exact SOps.nil (by first | rfl | simp_all)
       refine OpsOk.cons (fun rest => ?_) ?_
       ·refine SOps.move rfl ?_
        exact SOps.nil (by first | rfl | simp_all)
       refine OpsOk.cons (fun rest => ?_) ?_
       ·refine SOps.extract rfl rfl ?_
        exact SOps.nil (by first | rfl | simp_all)
       refine OpsOk.cons (fun rest => ?_) ?_
       ·refine SOps.extract rfl rfl ?_
        exact SOps.nil (by first | rfl | simp_all)
       refine OpsOk.cons (fun rest => ?_) ?_
       ·refine SOps.assign rfl ?_
        exact SOps.nil (by first | rfl | simp_all)
       refine OpsOk.cons (fun rest => ?_) ?_
       ·refine SOps.assign rfl ?_
        exact SOps.nil (by first | rfl | simp_all)
       exact OpsOk.nil
      ·show SCode _ _ _ _
       refine SCode.seq (SCode.seqR (SOps.move rfl (SOps.bin rfl rfl rfl (SOps.nil ?_))))
       refine SCode.cond rfl (fun hc7 => ?_) (fun hc7 => ?_)
       ·try simp only [nmL] at hc7
        refine SCode.seqR (SOps.move rfl (SOps.assign rfl (SOps.assign rfl (SOps.nil (SCode.nilIsl (t := 6) (sz := 1) rfl (SCode.drop (SCode.ret ?_)))))))
        exact ⟨_, Res.two (.tmp rfl) (.tmp rfl), (by unfold traceR traceX; rw [if_pos hok, ← ht, List.drop_eq_getElem_cons hjl, trF_cons, if_neg hc7]; rfl), rfl⟩
       ·try simp only [nmL] at hc7
        refine SCode.skip ?_
        show SCode _ _ _ _
        refine SCode.region (SOps.move rfl (SOps.move rfl (SOps.litF rfl sliceB_35_9_1 zeroIs_9 rfl ?_)))
        refine SOps.appendOwn 0 sliceB_35_9_1 elemB_9_1_16 rfl rfl rfl (by simp) SrcD.isl (by simp) (by first | (simp [lenB] <;> (first | omega | (simp only [lenB]; omega))) | (simp only [lenB]; (first | omega | (simp only [lenB]; omega)))) (by first | (simp <;> (first | omega | (simp only [lenB]; omega))) | (first | omega | (simp only [lenB]; omega))) (fun b3 hb_3 => ?_)
        refine SOps.assign rfl (SOps.nil ?_)
        show SCode _ _ _ _
        refine SCode.region (SOps.addI rfl rfl (by first | omega | (simp only [lenB]; omega)) (by first | omega | (simp only [lenB]; omega)) (SOps.move rfl (SOps.nil ?_)))
        exact ⟨j + 1, out ++ [(applyR a (l[j]) (out[out.length - 1])).1], b3, ⟨by omega, by simp; omega, by simp; exact resX_size _ _ _ _, by rw [← ht, List.drop_eq_getElem_cons hjl, trF_cons, if_pos hc7]; simp⟩, by omega, St.Le.of ⟨rfl, (by show some _ = some _; simp), rfl, rfl, rfl, trivial⟩ rfl (by rw [List.map_append]; rfl)⟩
     ·try simp only [nmL] at hc6
      refine SCode.exit ?_
      show SCode _ _ _ _
      refine SCode.seqR (SOps.freezeS (t := 10) 0 rfl rfl rfl (by simp) (SOps.move rfl (SOps.assign rfl (SOps.assign rfl (SOps.nil (SCode.drop (SCode.ret ?_)))))))
      exact ⟨_, Res.two (.tmp rfl) (.tmp rfl), (by unfold traceR traceX; rw [if_pos hok, ← ht, List.drop_eq_nil_of_le (by omega), trF_nil]; rfl), rfl⟩
theorem qTrace (hV : VS E) (a : List Letter) (l : List Rule) (s : ByteArray) (hr : ∀ r ∈ l, SmR r) (hs : s.size ≤ 1048576) : GCall Tryd.prog E 73 [DLs a, DRs l, .v (.string s)] [] (fun d H => d = tupT (traceQ a l s) ∧ H = []) := by
 refine GCall.body (C := ⟨Tryd.prog, E, true⟩) Tryd.func73 rfl (fun _ => rfl) (by kernel_rfl) rfl ?_
 refine SCode.seqR (SOps.assign rfl (SOps.assign rfl (SOps.nil (SCode.seq (SCode.seqR (SOps.move rfl (SOps.move rfl (SOps.move rfl (SOps.callP (qCheck hV _ _ _) rfl ?_)))))))))
 rintro _ rfl
 refine SOps.un rfl rfl (SOps.nil ?_)
 refine SCode.cond rfl (fun hc1 => ?_) (fun hc1 => ?_)
 ·try simp only [nmL] at hc1
  refine SCode.seqR (SOps.assign rfl (SOps.assign rfl (SOps.nil (SCode.nilIsl (t := 6) (sz := 1) rfl (SCode.drop (SCode.ret ?_))))))
  exact ⟨_, Res.two (.tmp rfl) (.tmp rfl), (by unfold traceQ traceX; rw [if_neg (by simp_all)]; rfl), rfl⟩
 ·try simp only [nmL] at hc1
  refine SCode.skip ?_
  show SCode _ _ _ _
  refine SCode.seqR (SOps.move rfl ?_)
  refine SOps.litO sliceB_35_9_1 zeroIs_9 rfl (fun b0 hb_0 => ?_)
  refine SOps.assign rfl (SOps.nil (SCode.seq (SCode.seqR (SOps.assign rfl (SOps.nil (SCode.block ?_))))))
  have h64 : l.length ≤ 64 := by have hok := hc1; simp only [okT, Bool.and_eq_true, decide_eq_true_eq] at hok; exact hok.1.1.1
  refine SCode.loop3 (fun (j : Nat) (out : List ByteArray) (k : Nat) => (⟨46, [(0, DLs a), (1, DRs l), (8, .sl k 1 0 out.length), (9, .v (.int .i64 (j : Int)))], [(k, .row 9 1 (out.map encS))]⟩ : St)) (fun (j : Nat) (out : List ByteArray) (k : Nat) => j ≤ l.length ∧ ∃ (ho : out.length = j + 1), (out[j]'(by omega)).size ≤ 1048576 ∧ trF (applyQ a) (l.drop j) out (out[j]'(by omega)) = trF (applyQ a) l [s] s) (fun (j : Nat) (out : List ByteArray) (k : Nat) => l.length - j) (0) ([s]) (b0) (by exact ⟨Nat.zero_le _, rfl, hs, rfl⟩) (St.Le.of ⟨(by first | rfl | (show some _ = some _; simp)), (by first | rfl | (show some _ = some _; simp)), (by first | rfl | (show some _ = some _; simp)), (by first | rfl | (show some _ = some _; simp)), trivial⟩ rfl (by first | rfl | (simp))) ?_
  rintro j out k ⟨hj, ho, hz, ht⟩
  refine SCode.seq (SCode.seqR (SOps.move rfl (SOps.move rfl (SOps.lenM rfl sliceB_23_47_6 (SOps.bin rfl rfl rfl (SOps.nil ?_))))))
  refine SCode.cond rfl (fun hc2 => ?_) (fun hc2 => ?_)
  ·try simp only [nmL] at hc2
   refine SCode.skip ?_
   show SCode _ _ _ _
   refine SCode.seq (SCode.block (SCode.seq ?_))
   have hjl : j < l.length := by omega
   have hjo : j < out.length := by omega
   have hr13 := hr _ (List.getElem_mem hjl)
   refine SCode.drawPure mixed_ [(26, DLs a), (27, DRs l), (28, .v (.int .i64 (j : Int))), (29, .ipin (encR (l[j]))), (30, .agg (encR (l[j]))), (31, .sl k 1 0 out.length), (32, .v (.int .i64 (j : Int))), (33, .ref k ((0 + j) * 1)), (34, .v (.string (out[j]))), (35, tupA (applyQ a (l[j]) (out[j]))), (25, tupA (applyQ a (l[j]) (out[j]))), (36, .v (.string (applyQ a (l[j]) (out[j])).1)), (37, .v (.int .i64 (applyQ a (l[j]) (out[j])).2)), (10, .v (.string (applyQ a (l[j]) (out[j])).1)), (11, .v (.int .i64 (applyQ a (l[j]) (out[j])).2))] [26, 27, 28, 29, 30, 31, 32, 33, 34, 35, 25, 36, 37, 10, 11] [[.inr 0], [.inr 1], [.inr 9], [.inl 1, .inl 2], [.inl 3], [.inr 8], [.inr 9], [.inl 5, .inl 6], [.inl 7], [.inl 0, .inl 4, .inl 8], [.inl 9], [.inl 10], [.inl 10], [.inl 11], [.inl 12]] [[(0, DLs a)], [(1, DRs l)], [(9, .v (.int .i64 (j : Int)))], [(27, DRs l), (28, .v (.int .i64 (j : Int)))], [(29, .ipin (encR (l[j])))], [(8, .sl k 1 0 out.length)], [(9, .v (.int .i64 (j : Int)))], [(31, .sl k 1 0 out.length), (32, .v (.int .i64 (j : Int)))], [(33, .ref k ((0 + j) * 1))], [(26, DLs a), (30, .agg (encR (l[j]))), (34, .v (.string (out[j])))], [(35, tupA (applyQ a (l[j]) (out[j])))], [(25, tupA (applyQ a (l[j]) (out[j])))], [(25, tupA (applyQ a (l[j]) (out[j])))], [(36, .v (.string (applyQ a (l[j]) (out[j])).1))], [(37, .v (.int .i64 (applyQ a (l[j]) (out[j])).2))]] rfl (by kernel_rfl) (by kernel_rfl) rfl ?_ ?_
   ·refine OpsOk.cons (fun rest => ?_) ?_
    ·refine SOps.move rfl ?_
     exact SOps.nil (by first | rfl | simp_all)
    refine OpsOk.cons (fun rest => ?_) ?_
    ·refine SOps.move rfl ?_
     exact SOps.nil (by first | rfl | simp_all)
    refine OpsOk.cons (fun rest => ?_) ?_
    ·refine SOps.move rfl ?_
     exact SOps.nil (by first | rfl | simp_all)
    refine OpsOk.cons (fun rest => ?_) ?_
    ·refine SOps.indexM (j) rfl rfl sliceB_23_47_6 (by first | omega | (simp only [lenB]; omega)) (by first | omega | (simp only [lenB]; omega)) ?_
     exact SOps.nil (by first | rfl | simp_all)
    refine OpsOk.cons (fun rest => ?_) ?_
    ·refine SOps.loadPinA rfl aggB_47_6 (Nat.le_of_ble_eq_true rfl) ?_
     exact SOps.nil (by first | rfl | simp_all)
    refine OpsOk.cons (fun rest => ?_) ?_
    ·refine SOps.move rfl ?_
     exact SOps.nil (by first | rfl | simp_all)
    refine OpsOk.cons (fun rest => ?_) ?_
    ·refine SOps.move rfl ?_
     exact SOps.nil (by first | rfl | simp_all)
    refine OpsOk.cons (fun rest => ?_) ?_
    ·refine SOps.indexS (j) rfl rfl sliceB_35_9_1 (by first | omega | (simp only [lenB]; omega)) (by first | omega | (simp only [lenB]; omega)) ?_
     exact SOps.nil (by first | rfl | simp_all)
    refine OpsOk.cons (fun rest => ?_) ?_
    ·refine SOps.loadK 0 (j) rfl flatB_9 rfl (by first | omega | (simp only [lenB]; omega)) (by first | omega | (simp; done) | (simp; omega)) rfl ?_
     exact SOps.nil (by first | rfl | simp_all)
    refine OpsOk.cons (fun rest => ?_) ?_
    ·refine SOps.callP (qApply hV _ _ _ hr13 hz) rfl ?_
     rintro _ rfl
     exact SOps.nil (by first | rfl | simp_all)
    refine OpsOk.cons (fun rest => ?_) ?_
    ·refine SOps.move rfl ?_
     exact SOps.nil (by first | rfl | simp_all)
    refine OpsOk.cons (fun rest => ?_) ?_
    ·refine SOps.extract rfl rfl ?_
     exact SOps.nil (by first | rfl | simp_all)
    refine OpsOk.cons (fun rest => ?_) ?_
    ·refine SOps.extract rfl rfl ?_
     exact SOps.nil (by first | rfl | simp_all)
    refine OpsOk.cons (fun rest => ?_) ?_
    ·refine SOps.assign rfl ?_
     exact SOps.nil (by first | rfl | simp_all)
    refine OpsOk.cons (fun rest => ?_) ?_
    ·refine SOps.assign rfl ?_
     exact SOps.nil (by first | rfl | simp_all)
    exact OpsOk.nil
   ·show SCode _ _ _ _
    refine SCode.seq (SCode.seqR (SOps.move rfl (SOps.bin rfl rfl rfl (SOps.nil ?_))))
    refine SCode.cond rfl (fun hc3 => ?_) (fun hc3 => ?_)
    ·try simp only [nmL] at hc3
     refine SCode.seqR (SOps.move rfl (SOps.assign rfl (SOps.assign rfl (SOps.nil (SCode.nilIsl (t := 6) (sz := 1) rfl (SCode.drop (SCode.ret ?_)))))))
     exact ⟨_, Res.two (.tmp rfl) (.tmp rfl), (by unfold traceQ traceX; rw [if_pos hc1, ← ht, List.drop_eq_getElem_cons hjl, trF_cons, if_neg hc3]; rfl), rfl⟩
    ·try simp only [nmL] at hc3
     refine SCode.skip ?_
     show SCode _ _ _ _
     refine SCode.region (SOps.move rfl (SOps.move rfl (SOps.litF rfl sliceB_35_9_1 zeroIs_9 rfl ?_)))
     refine SOps.appendOwn 0 sliceB_35_9_1 elemB_9_1_16 rfl rfl rfl (by simp) SrcD.isl (by simp) (by first | (simp [lenB] <;> (first | omega | (simp only [lenB]; omega))) | (simp only [lenB]; (first | omega | (simp only [lenB]; omega)))) (by first | (simp <;> (first | omega | (simp only [lenB]; omega))) | (first | omega | (simp only [lenB]; omega))) (fun b1 hb_1 => ?_)
     refine SOps.assign rfl (SOps.nil ?_)
     show SCode _ _ _ _
     refine SCode.region (SOps.move rfl (SOps.addI rfl rfl (by first | omega | (simp only [lenB]; omega)) (by first | omega | (simp only [lenB]; omega)) (SOps.assign rfl (SOps.nil ?_))))
     exact ⟨j + 1, out ++ [(applyQ a (l[j]) (out[j])).1], b1, ⟨by omega, by simp; omega, by rw [List.getElem_append_right (by omega)]; simp [ho]; exact resX_size _ _ _ _, by rw [← ht, List.drop_eq_getElem_cons hjl, trF_cons, if_pos hc3, List.getElem_append_right (by omega)]; simp [ho]⟩, by omega, St.Le.of ⟨rfl, rfl, (by show some _ = some _; simp), rfl, trivial⟩ rfl (by rw [List.map_append]; rfl)⟩
  ·try simp only [nmL] at hc2
   refine SCode.exit ?_
   show SCode _ _ _ _
   refine SCode.seqR (SOps.freezeS (t := 8) 0 rfl rfl rfl (by simp) (SOps.move rfl (SOps.assign rfl (SOps.assign rfl (SOps.nil (SCode.drop (SCode.ret ?_)))))))
   exact ⟨_, Res.two (.tmp rfl) (.tmp rfl), (by unfold traceQ traceX; rw [if_pos hc1, ← ht, List.drop_eq_nil_of_le (by omega), trF_nil]; rfl), rfl⟩
theorem trF_len (ap : Rule → ByteArray → ByteArray × Int) : ∀ (l : List Rule) (out : List ByteArray) (last : ByteArray), out ≠ [] → (trF ap l out last).2 = 0 → (trF ap l out last).1 ≠ []
  | [], out, last, h, _ => h
  | r :: rs, out, last, h, h2 => by
    rw [trF_cons] at h2 ⊢
    by_cases h3 : (ap r last).2 = 0
    · rw [if_pos h3] at h2 ⊢
      exact trF_len ap rs _ _ (by simp) h2
    · rw [if_neg h3] at h2
      exact absurd h2 h3
theorem traceX_ne {a : List Letter} {l : List Rule} {s : ByteArray} {ap : Rule → ByteArray → ByteArray × Int} (h : (traceX a l s ap).2 = 0) : (traceX a l s ap).1 ≠ [] := by
  unfold traceX at h ⊢
  split at h
  · rename_i h1
    rw [if_pos h1]
    exact trF_len ap _ _ _ (by simp) h
  · cases h
def cascX (x : List ByteArray × Int) : ByteArray × Int := if x.2 = 0 then (x.1.getLastD ⟨#[]⟩, 0) else (⟨#[]⟩, x.2)
theorem last_at {x : List ByteArray} (h : x ≠ []) (h2 : x.length - 1 < x.length) : x[x.length - 1] = x.getLastD ⟨#[]⟩ := by
  rw [List.getLastD_eq_getLast?, List.getLast?_eq_getElem?, List.getElem?_eq_getElem h2]; rfl
theorem rCascade (hV : VS E) (a : List Letter) (l : List Rule) (s : ByteArray) (hr : ∀ r ∈ l, SmR r) (hs : s.size ≤ 1048576) : GCall Tryd.prog E 69 [DLs a, DRs l, .v (.string s)] [] (fun d H => d = tupA (cascX (traceR a l s)) ∧ H = []) := by
 refine GCall.body (C := ⟨Tryd.prog, E, true⟩) Tryd.func69 rfl (fun _ => rfl) (by kernel_rfl) rfl ?_
 refine SCode.seqR (SOps.assign rfl (SOps.assign rfl (SOps.nil (SCode.seqR (SOps.move rfl (SOps.move rfl (SOps.move rfl (SOps.callP (rTrace hV _ _ _ hr hs) rfl ?_))))))))
 rintro _ rfl
 refine SOps.move rfl (SOps.extract rfl rfl (SOps.extract rfl rfl (SOps.assign rfl (SOps.assign rfl (SOps.nil (SCode.seq (SCode.seqR (SOps.move rfl (SOps.bin rfl rfl rfl (SOps.nil ?_))))))))))
 refine SCode.cond rfl (fun hc1 => ?_) (fun hc1 => ?_)
 ·try simp only [nmL] at hc1
  refine SCode.seqR (SOps.move rfl (SOps.assign rfl (SOps.assign rfl (SOps.nil (SCode.ret ?_)))))
  exact ⟨_, Res.two (.tmp rfl) (.tmp rfl), (by unfold cascX; rw [if_neg hc1]; rfl), rfl⟩
 ·try simp only [nmL] at hc1
  refine SCode.skip ?_
  show SCode _ _ _ _
  refine SCode.seqR ?_
  have hne : (traceR a l s).1 ≠ [] := traceX_ne (show (traceR a l s).2 = 0 from hc1)
  have hnl : 0 < (traceR a l s).1.length := List.length_pos_iff.2 hne
  refine SOps.fact (isl_len (t := 8) rfl) (fun hB => ?_)
  simp only [List.length_map, lenB] at hB
  refine SOps.move rfl (SOps.move rfl (SOps.lenM rfl sliceB_35_9_1 (SOps.subI rfl rfl (by first | omega | (simp only [lenB]; omega)) (by first | omega | (simp only [lenB]; omega)) (SOps.indexM ((traceR a l s).1.length - 1) rfl rfl sliceB_35_9_1 (by first | omega | (simp only [lenB]; omega)) (by first | omega | (simp only [lenB]; omega)) (SOps.loadPin rfl flatB_9 (SOps.assign rfl (SOps.assign rfl (SOps.nil (SCode.ret ?_)))))))))
  exact ⟨_, Res.two (.tmp rfl) (.tmp rfl), (by unfold cascX; rw [if_pos hc1, last_at hne]; rfl), rfl⟩
theorem qCascade (hV : VS E) (a : List Letter) (l : List Rule) (s : ByteArray) (hr : ∀ r ∈ l, SmR r) (hs : s.size ≤ 1048576) : GCall Tryd.prog E 43 [DLs a, DRs l, .v (.string s)] [] (fun d H => d = tupA (cascX (traceQ a l s)) ∧ H = []) := by
 refine GCall.body (C := ⟨Tryd.prog, E, true⟩) Tryd.func43 rfl (fun _ => rfl) (by kernel_rfl) rfl ?_
 refine SCode.seqR (SOps.assign rfl (SOps.assign rfl (SOps.nil (SCode.seqR (SOps.move rfl (SOps.move rfl (SOps.move rfl (SOps.callP (qTrace hV _ _ _ hr hs) rfl ?_))))))))
 rintro _ rfl
 refine SOps.move rfl (SOps.extract rfl rfl (SOps.extract rfl rfl (SOps.assign rfl (SOps.assign rfl (SOps.nil (SCode.seq (SCode.seqR (SOps.move rfl (SOps.bin rfl rfl rfl (SOps.nil ?_))))))))))
 refine SCode.cond rfl (fun hc1 => ?_) (fun hc1 => ?_)
 ·try simp only [nmL] at hc1
  refine SCode.seqR (SOps.move rfl (SOps.assign rfl (SOps.assign rfl (SOps.nil (SCode.ret ?_)))))
  exact ⟨_, Res.two (.tmp rfl) (.tmp rfl), (by unfold cascX; rw [if_neg hc1]; rfl), rfl⟩
 ·try simp only [nmL] at hc1
  refine SCode.skip ?_
  show SCode _ _ _ _
  refine SCode.seqR ?_
  have hne : (traceQ a l s).1 ≠ [] := traceX_ne (show (traceQ a l s).2 = 0 from hc1)
  have hnl : 0 < (traceQ a l s).1.length := List.length_pos_iff.2 hne
  refine SOps.fact (isl_len (t := 8) rfl) (fun hB => ?_)
  simp only [List.length_map, lenB] at hB
  refine SOps.move rfl (SOps.move rfl (SOps.lenM rfl sliceB_35_9_1 (SOps.subI rfl rfl (by first | omega | (simp only [lenB]; omega)) (by first | omega | (simp only [lenB]; omega)) (SOps.indexM ((traceQ a l s).1.length - 1) rfl rfl sliceB_35_9_1 (by first | omega | (simp only [lenB]; omega)) (by first | omega | (simp only [lenB]; omega)) (SOps.loadPin rfl flatB_9 (SOps.assign rfl (SOps.assign rfl (SOps.nil (SCode.ret ?_)))))))))
  exact ⟨_, Res.two (.tmp rfl) (.tmp rfl), (by unfold cascX; rw [if_pos hc1, last_at hne]; rfl), rfl⟩
end Go.GH
namespace Go.GH
open Go Go.Lib

theorem utf8R_encs : ∀ {rs : List Int}, (∀ r ∈ rs, Utf8.valid r = true) → utf8R (encs rs) = true
  | [], _ => rfl
  | r :: rs, h => by
    have hv := h r (List.mem_cons_self ..)
    have ih := utf8R_encs (fun x hx => h x (List.mem_cons_of_mem _ hx))
    rw [utf8R_valid] at ih ⊢
    have hd := decodeL_drop (encs (r :: rs)) 0
    rw [List.drop_zero] at hd
    have hdec : Utf8.decode (encs (r :: rs)) 0 = (r.toNat, (Utf8.encode r).size) := decode_encode hv (encs rs)
    rw [hdec] at hd
    have hp := encode_pos r
    have hdata : (encs (r :: rs)).data.toList = (Utf8.encode r).data.toList ++ (encs rs).data.toList := by
      rw [encs_cons, data_app2]
    have hlen : (Utf8.encode r).data.toList.length = (Utf8.encode r).size := by simp
    have hne : (encs (r :: rs)).data.toList ≠ [] := by
      intro h0
      rw [hdata] at h0
      have := congrArg List.length h0
      simp only [List.length_append, List.length_nil] at this
      omega
    rw [validD_step _ hne, hd]
    have hno : ¬ (r.toNat = 65533 ∧ (Utf8.encode r).size = 1) := by
      rintro ⟨h1, h2⟩
      have hr : r = 65533 := by
        simp only [Utf8.valid, Bool.or_eq_true, Bool.and_eq_true, decide_eq_true_eq] at hv
        omega
      subst hr
      have h3 : (Utf8.encode 65533).size = 3 := by decide
      omega
    rw [if_neg hno, hdata, List.drop_left' hlen]
    exact ih

section
variable {β γ : Type}
theorem starM_congr {g g' : List β → Bool} {h h' : β → Bool} : ∀ (w : List β), (∀ v, v <:+ w → g v = g' v) → (∀ c ∈ w, h c = h' c) → starM g h w = starM g' h' w
  | [], hg, _ => hg [] (List.suffix_refl _)
  | c :: w, hg, hh => by
    simp only [starM]
    rw [hg _ (List.suffix_refl _), hh c (List.mem_cons_self ..), starM_congr w (fun v hv => hg v (hv.trans (List.suffix_cons c w))) (fun x hx => hh x (List.mem_cons_of_mem _ hx))]
theorem M_congr {f g : Item → β → Bool} : ∀ (p : List Item) (w : List β), (∀ c ∈ w, ∀ x, f x c = g x c) → M f p w = M g p w
  | [], _, _ => rfl
  | x :: p, w, h => by
    simp only [M]
    split
    · exact starM_congr w (fun v hv => M_congr p v (fun c hc => h c (hv.subset hc))) (fun c hc => h c hc x)
    · cases w with
      | nil => rfl
      | cons c w => simp only; rw [h c (List.mem_cons_self ..), M_congr p w (fun d hd => h d (List.mem_cons_of_mem _ hd))]
theorem starM_map {g : List γ → Bool} {h : γ → Bool} (k : β → γ) : ∀ (w : List β), starM g h (w.map k) = starM (fun v => g (v.map k)) (fun c => h (k c)) w
  | [] => rfl
  | c :: w => by simp only [List.map_cons, starM, starM_map k w]
theorem M_map (f : Item → γ → Bool) (k : β → γ) : ∀ (p : List Item) (w : List β), M f p (w.map k) = M (fun x c => f x (k c)) p w
  | [], w => by cases w <;> rfl
  | x :: p, w => by
    simp only [M]
    split
    · rw [starM_map]
      congr 1
      funext v
      exact M_map f k p v
    · cases w with
      | nil => rfl
      | cons c w => simp only [List.map_cons]; rw [M_map f k p w]
end

/-- Words of letters, from their runes. -/
structure Lw (a : List Letter) (w : List Int) : Prop where
  some : ∀ c ∈ w, (idx a c).isSome = true
  valid : ∀ c ∈ w, Utf8.valid c = true
theorem Lw.over {a : List Letter} {w : List Int} (h : Lw a w) : overA a (encs w) = true := by
  rw [overA_eq, utf8R_encs h.valid, allL, runes_encs h.valid, Bool.true_and]
  exact List.all_eq_true.2 h.some
theorem Lw.idxs {a : List Letter} {w : List Int} (h : Lw a w) : idxs a (encs w) = w.map (fun c => (idx a c).getD 0) := by
  unfold Go.GH.idxs
  rw [runes_encs h.valid]
theorem Lw.M {a : List Letter} {w : List Int} (h : Lw a w) (p : List Item) : M (admF a) p (w.map (fun c => (idx a c).getD 0)) = Mr a p w := by
  rw [M_map]
  refine M_congr p w (fun c hc x => ?_)
  obtain ⟨k, hk⟩ := Option.isSome_iff_exists.1 (h.some c hc)
  simp only [rAdm, hk, Option.getD_some, admF]
theorem Lw.sub {a : List Letter} {w v : List Int} (h : Lw a w) (hv : ∀ c ∈ v, c ∈ w) : Lw a v := ⟨fun c hc => h.some c (hv c hc), fun c hc => h.valid c (hv c hc)⟩
theorem Lw.take {a : List Letter} {w : List Int} (h : Lw a w) (n : Nat) : Lw a (w.take n) := h.sub (fun c hc => List.mem_of_mem_take hc)
theorem Lw.drop {a : List Letter} {w : List Int} (h : Lw a w) (n : Nat) : Lw a (w.drop n) := h.sub (fun c hc => List.mem_of_mem_drop hc)
theorem okR_lw {a : List Letter} {s : ByteArray} (h : consS a 40 s = true) : Lw a (runes s) := by
  rw [consS_eq, Bool.and_eq_true] at h
  exact ⟨fun c hc => List.all_eq_true.1 h.2 c hc, fun c hc => runes_valid hc⟩
theorem any_filter {p : Nat → Bool} {l : List Nat} : decide (0 < (l.filter p).length) = l.any p := by
  rw [Bool.eq_iff_iff, decide_eq_true_eq, List.length_pos_iff_exists_mem, List.any_eq_true]
  constructor
  · rintro ⟨x, hx⟩; exact ⟨x, (List.mem_filter.1 hx).1, (List.mem_filter.1 hx).2⟩
  · rintro ⟨x, h1, h2⟩; exact ⟨x, List.mem_filter.2 ⟨h1, h2⟩⟩
theorem any_rev {p : Nat → Bool} {n : Nat} : (List.range (n + 1)).any (fun i => p (n - i)) = (List.range (n + 1)).any p := by
  rw [Bool.eq_iff_iff, List.any_eq_true, List.any_eq_true]
  constructor
  · rintro ⟨i, h1, h2⟩; exact ⟨n - i, List.mem_range.2 (by omega), h2⟩
  · rintro ⟨i, h1, h2⟩
    have := List.mem_range.1 h1
    exact ⟨n - i, List.mem_range.2 (by omega), by rw [show n - (n - i) = i by omega]; exact h2⟩
theorem Lw.matches {a : List Letter} {w : List Int} (h : Lw a w) {p : List Item} (hp : validPat a p = true) : matchesP a p (encs w) = Mr a p w := by
  rw [matchesP, hp, h.over, h.idxs, h.M]; rfl
theorem Lw.prefixes {a : List Letter} {w : List Int} (h : Lw a w) {p : List Item} (hp : validPat a p = true) : decide (0 < (prefixesP a p (encs w)).length) = (List.range (w.length + 1)).any (fun i => Mr a p (w.take i)) := by
  rw [prefixesP, hp, h.over, h.idxs, Bool.true_and, if_pos rfl, lens_eq, any_filter, List.length_map]
  congr 1
  funext n
  rw [← List.map_take, (h.take n).M]
theorem Lw.suffixes {a : List Letter} {w : List Int} (h : Lw a w) {p : List Item} (hp : validPat a p = true) : decide (0 < (suffixesP a p (encs w)).length) = (List.range (w.length + 1)).any (fun i => Mr a p (w.drop i)) := by
  rw [suffixesP, hp, h.over, h.idxs, Bool.true_and, if_pos rfl, lens_eq, any_filter, List.length_reverse, List.length_map, ← any_rev]
  congr 1
  funext n
  rw [List.take_reverse, M_reverse, List.length_map, ← List.map_drop, (h.drop _).M]
  by_cases hn : n ≤ w.length
  · rw [show w.length - (w.length - n) = n by omega]
  · rw [List.drop_eq_nil_of_le (show w.length ≤ w.length - (w.length - n) by omega), List.drop_eq_nil_of_le (show w.length ≤ n by omega)]
theorem follows_eq {a : List Letter} {r : Rule} {w : List Int} (h : Lw a w) (hp : validPat a r.left = true) : followsR a r (encs w) = leftR a r w := by
  unfold followsR leftR
  rw [h.matches hp, h.suffixes hp]
theorem precedes_eq {a : List Letter} {r : Rule} {w : List Int} (h : Lw a w) (hp : validPat a r.right = true) : precedesR a r (encs w) = rightR a r w := by
  unfold precedesR rightR
  rw [h.matches hp, h.prefixes hp]
theorem sites_eq (a : List Letter) (r : Rule) (s : ByteArray) : sitesR a r s = sitesQ a r s := by
  unfold sitesR sitesQ
  by_cases hok : okR a r s = true
  · rw [if_pos hok, if_pos hok]
    have h1 : validR a r = true ∧ consS a 40 s = true := by simpa [okR] using hok
    have hl := okR_lw h1.2
    have h2 := h1.1
    simp only [validR, Bool.and_eq_true] at h2
    unfold sitesF
    congr 1
    funext i
    unfold siteB siteQ
    rw [follows_eq (hl.take i) h2.1.2, precedes_eq (hl.drop _) h2.2]
  · rw [if_neg hok, if_neg hok]
theorem apply_eq (a : List Letter) (r : Rule) (s : ByteArray) : applyR a r s = applyQ a r s := by
  unfold applyR applyQ
  rw [sites_eq]
end Go.GH
namespace Go.GH
open Go
theorem resF_mem {fr : Int} {tl : List Int} {c : Int} : ∀ (w : List Int) (i : Nat) (ss : List Nat), c ∈ resF fr tl w i ss → c ∈ tl ∨ c ∈ w
  | [], i, ss, h => by
    rw [resF_nil] at h
    split at h
    · exact .inl h
    · cases h
  | d :: w, i, ss, h => by
    rw [resF_cons, List.mem_append, List.mem_append] at h
    rcases h with h | h | h
    · split at h
      · exact .inl h
      · cases h
    · split at h
      · cases h
      · rw [List.mem_singleton] at h; subst h; exact .inr (List.mem_cons_self ..)
    · rcases resF_mem w _ _ h with h | h
      · exact .inl h
      · exact .inr (List.mem_cons_of_mem _ h)
theorem okR_all {a : List Letter} {r : Rule} {s : ByteArray} (h : okR a r s = true) : allL a r.«to» = true ∧ allL a s = true := by
  simp only [okR, validR, consS_eq, Bool.and_eq_true] at h
  exact ⟨h.1.1.1.2.2, h.2.2⟩
/-- A result without error is a word. -/
theorem resX_word {a : List Letter} {r : Rule} {s : ByteArray} {l : List Nat} (h : (resX a r s l).2 = 0) : okR a r s = true ∧ consS a 40 (resX a r s l).1 = true := by
  unfold resX at h ⊢
  by_cases hok : okR a r s = true
  · rw [if_pos hok] at h ⊢
    refine ⟨hok, ?_⟩
    obtain ⟨h1, h2⟩ := okR_all hok
    have hm : ∀ c ∈ resF r.fr (runes r.«to») (runes s) 0 l, (idx a c).isSome = true ∧ Utf8.valid c = true := fun c hc => by
      rcases resF_mem _ _ _ hc with hc | hc
      · exact ⟨List.all_eq_true.1 h1 c hc, runes_valid hc⟩
      · exact ⟨List.all_eq_true.1 h2 c hc, runes_valid hc⟩
    by_cases h40 : 40 < (runes (encs (resF r.fr (runes r.«to») (runes s) 0 l))).length
    · rw [if_pos h40] at h; cases h
    · rw [if_neg h40]
      show consS a 40 (encs _) = true
      rw [consS_eq, utf8R_encs (fun c hc => (hm c hc).2), Bool.true_and, Bool.and_eq_true, decide_eq_true_eq]
      refine ⟨by omega, ?_⟩
      rw [allL, runes_encs (fun c hc => (hm c hc).2)]
      exact List.all_eq_true.2 (fun c hc => (hm c hc).1)
  · rw [if_neg hok] at h; cases h
end Go.GH
namespace Go.GH
open Go
theorem trace_ok {a : List Letter} {l : List Rule} {s : ByteArray} (h : (traceR a l s).2 = 0) : okT a l s = true ∧ (traceR a l s) = trF (applyR a) l [s] s := by
  unfold traceR traceX at h ⊢
  by_cases hok : okT a l s = true
  · rw [if_pos hok]; exact ⟨hok, rfl⟩
  · rw [if_neg hok] at h; cases h
theorem casc_two {x : List ByteArray × Int} : (cascX x).2 = x.2 := by
  unfold cascX
  split
  · rename_i h; exact h.symm
  · rfl
end Go.GH
namespace Go.GH
open Go
theorem resF_far {fr : Int} {tl : List Int} : ∀ (w : List Int) (i : Nat), resF fr tl w i [] = w
  | [], i => by rw [resF_nil, if_neg (by simp)]
  | c :: w, i => by
    rw [resF_cons, if_neg (by simp), if_neg (by simp), if_neg (by simp), resF_far w]
    simp
/-- Up to a site. -/
theorem resF_upto {fr : Int} {tl : List Int} {k : Nat} {ss : List Nat} : ∀ (n : Nat) (w : List Int) (i : Nat), i + n = k → n ≤ w.length → resF fr tl w i (k :: ss) = w.take n ++ resF fr tl (w.drop n) k (k :: ss)
  | 0, w, i, h, _ => by rw [List.take_zero, List.drop_zero, List.nil_append, show i = k by omega]
  | n + 1, [], i, h, hn => by simp at hn
  | n + 1, c :: w, i, h, hn => by
    have hne : ¬ (k :: ss).head? = some i := by simp only [List.head?_cons, Option.some.injEq]; omega
    rw [resF_cons, if_neg hne, if_neg (fun h => hne h.1), if_neg hne, resF_upto n w (i + 1) (by omega) (by simpa using hn)]
    simp
/-- At a site. -/
theorem resF_site {fr : Int} {tl : List Int} {k : Nat} {ss : List Nat} (hss : ∀ x ∈ ss, k < x) {u : List Int} (hk : k ≤ u.length) (hf : fr ≠ 0 → k < u.length) :
    resF fr tl (u.drop k) k (k :: ss) = tl ++ resF fr tl (u.drop (if fr = 0 then k else k + 1)) (if fr = 0 then k else k + 1) ss := by
  have hne : ¬ ss.head? = some k := fun h => by
    cases ss with
    | nil => simp at h
    | cons y ys => simp only [List.head?_cons, Option.some.injEq] at h; have := hss y (List.mem_cons_self ..); omega
  have hh : (k :: ss).head? = some k := rfl
  rcases Nat.lt_or_ge k u.length with hl | hl
  · rw [List.drop_eq_getElem_cons hl, resF_cons, if_pos hh, if_pos hh]
    by_cases h0 : fr = 0
    · rw [if_neg (fun h => h.2 h0), if_pos h0, List.drop_eq_getElem_cons hl, resF_cons, if_neg hne, if_neg (fun h => hne h.1), if_neg hne]
      simp
    · rw [if_pos ⟨hh, h0⟩, if_neg h0]
      simp
  · have : fr = 0 := by
      rcases Classical.em (fr = 0) with h | h
      · exact h
      · have := hf h; omega
    rw [if_pos this, List.drop_eq_nil_of_le hl, resF_nil, resF_nil, if_pos hh, if_neg hne, List.append_nil]
structure PieceOK (r : Rule) (u v : List Int) (ss : List Nat) (p q k : Nat) : Prop where
  qle : q ≤ u.length
  ple : p ≤ v.length
  eq : v.drop p = resF r.fr (runes r.«to») (u.drop q) q (ss.drop k)
  ge : ∀ x ∈ ss.drop k, q ≤ x
theorem pieces_site {a : List Letter} {r : Rule} {s : ByteArray} : (sitesR a r s).Pairwise (· < ·) ∧ ∀ k ∈ sitesR a r s, k ≤ (runes s).length ∧ (r.fr ≠ 0 → (runes s)[k]? = some r.fr) := by
  rw [sites_eq]
  unfold sitesQ
  split
  · refine ⟨List.Pairwise.filter _ List.pairwise_lt_range, fun k hk => ?_⟩
    obtain ⟨h1, h2⟩ := List.mem_filter.1 hk
    refine ⟨by have := List.mem_range.1 h1; omega, fun h => ?_⟩
    unfold siteQ at h2
    simp only [Bool.and_eq_true, Bool.or_eq_true, decide_eq_true_eq, beq_iff_eq] at h2
    exact h2.1.1.resolve_left h
  · exact ⟨.nil, fun k hk => by cases hk⟩
/-- The piece before the end of the word. -/
theorem PieceOK.last {r : Rule} {u v : List Int} {ss : List Nat} {p q k : Nat} (h : PieceOK r u v ss p q k) (hk : ss.length ≤ k) : v.drop p = u.drop q ∧ p + (u.length - q) = v.length := by
  have e := h.eq
  rw [List.drop_eq_nil_of_le hk, resF_far] at e
  refine ⟨e, ?_⟩
  have := congrArg List.length e
  rw [List.length_drop, List.length_drop] at this
  have := h.qle
  have := h.ple
  omega
/-- The piece before site k, and the site. -/
theorem PieceOK.next {r : Rule} {u v : List Int} {ss : List Nat} {p q k : Nat} (h : PieceOK r u v ss p q k) (hp : ss.Pairwise (· < ·)) (hs : ∀ k ∈ ss, k ≤ u.length ∧ (r.fr ≠ 0 → u[k]? = some r.fr)) (hk : k < ss.length) :
    q ≤ ss[k] ∧ ss[k] ≤ u.length ∧ p + (ss[k] - q) + (runes r.«to»).length ≤ v.length ∧ (u.drop q).take (ss[k] - q) = (v.drop p).take (ss[k] - q) ∧ (v.drop (p + (ss[k] - q))).take (runes r.«to»).length = runes r.«to» ∧
    (r.fr ≠ 0 → u[ss[k]]? = some r.fr) ∧ PieceOK r u v ss (p + (ss[k] - q) + (runes r.«to»).length) (if r.fr = 0 then ss[k] else ss[k] + 1) (k + 1) := by
  have hd : ss.drop k = ss[k] :: ss.drop (k + 1) := List.drop_eq_getElem_cons hk
  have hge := h.ge ss[k] (by rw [hd]; exact List.mem_cons_self ..)
  obtain ⟨hle, hfr⟩ := hs ss[k] (List.getElem_mem hk)
  have hlt : ∀ x ∈ ss.drop (k + 1), ss[k] < x := fun x hx => by
    obtain ⟨j, hj, rfl⟩ := List.mem_iff_getElem.1 hx
    rw [List.getElem_drop]
    exact List.pairwise_iff_getElem.1 hp k (k + 1 + j) hk (by simp at hj; omega) (by omega)
  have e := h.eq
  have hf : r.fr ≠ 0 → ss[k] < u.length := fun h0 => by
    have := hfr h0
    exact (List.getElem?_eq_some_iff.1 this).1
  rw [hd, resF_upto (ss[k] - q) (u.drop q) q (by omega) (by rw [List.length_drop]; omega), List.drop_drop, show q + (ss[k] - q) = ss[k] by omega, resF_site hlt hle hf] at e
  have hl1 : ((u.drop q).take (ss[k] - q)).length = ss[k] - q := by rw [List.length_take, List.length_drop]; omega
  have hlen := congrArg List.length e
  rw [List.length_drop, List.length_append, List.length_append, hl1] at hlen
  have hpv := h.ple
  have e2 : v.drop (p + (ss[k] - q)) = runes r.«to» ++ resF r.fr (runes r.«to») (u.drop (if r.fr = 0 then ss[k] else ss[k] + 1)) (if r.fr = 0 then ss[k] else ss[k] + 1) (ss.drop (k + 1)) := by
    rw [← List.drop_drop, e, List.drop_left' hl1]
  refine ⟨hge, hle, by omega, ?_, ?_, hfr, ?_, by omega, ?_, fun x hx => ?_⟩
  · rw [e, List.take_left' hl1]
  · rw [e2, List.take_left' rfl]
  · split
    · exact hle
    · rename_i h0; exact hf h0
  · rw [← List.drop_drop, e2, List.drop_left' rfl]
  · have := hlt x hx
    split <;> omega
end Go.GH
namespace Go.GH
open Go Go.Proofs
variable {E : Env}
theorem applyQ_eq (a : List Letter) : applyQ a = applyR a := by funext r s; exact (apply_eq a r s).symm
theorem traceQ_eq (a : List Letter) (l : List Rule) (s : ByteArray) : traceQ a l s = traceR a l s := by unfold traceQ traceR; rw [applyQ_eq]
theorem qCascade' (hV : VS E) (a : List Letter) (l : List Rule) (s : ByteArray) (hr : ∀ r ∈ l, SmR r) (hs : s.size ≤ 1048576) : GCall Tryd.prog E 43 [DLs a, DRs l, .v (.string s)] [] (fun d H => d = tupA (cascX (traceR a l s)) ∧ H = []) := by rw [← traceQ_eq]; exact qCascade hV a l s hr hs
end Go.GH
namespace Go.GH
open Go
def eqL : Letter := ⟨61, 2147483648⟩
def extA (a : List Letter) : List Letter := a ++ [eqL]
def hasEq (s : ByteArray) : Bool := s.data.toList.any (fun b => b == 61)
def okRu (a : List Letter) (r : Rule) : Bool := !decide (r.fr = 61) && !hasEq r.«to» && validR (extA a) r
def validS (a : List Letter) (l : List Rule) : Bool := validA a && (idx a 61).isNone && decide (l.length ≤ 64) && l.all (okRu a)
def eqB : ByteArray := ⟨#[61]⟩
def joinE (h c : ByteArray) : ByteArray := h ++ eqB ++ c
def dropE (s : ByteArray) : ByteArray := encs ((runes s).filter (fun r => !decide (r = 61)))
def dropB (s : ByteArray) : ByteArray := ⟨(s.data.toList.filter (fun b => !(b == 61))).toArray⟩
def cascE (a : List Letter) (l : List Rule) (h c : ByteArray) : ByteArray × Int := cascX (traceR (extA a) l (joinE h c))
def attE (a : List Letter) (l : List Rule) (h c : ByteArray) : ByteArray × Int :=
  if 40 < (runes h).length + 1 + (runes c).length then (⟨#[]⟩, 2) else if (cascE a l h c).2 = 0 then (dropE (cascE a l h c).1, 0) else (⟨#[]⟩, (cascE a l h c).2)
def allE (a : List Letter) (l : List Rule) : ByteArray → List ByteArray → ByteArray × Int
  | f, [] => (f, 0)
  | f, c :: cs => if (attE a l f c).2 = 0 then allE a l (attE a l f c).1 cs else (⟨#[]⟩, (attE a l f c).2)
def attR (a : List Letter) (l : List Rule) (h c : ByteArray) : ByteArray × Int := if validS a l && isWordA a h && isWordA a c then attE a l h c else (⟨#[]⟩, 1)
theorem ext_some (a : List Letter) (r : Int) : (idx (extA a) r).isSome = ((idx a r).isSome || decide (r = 61)) := by
  rw [Bool.eq_iff_iff, Bool.or_eq_true, decide_eq_true_eq]
  constructor
  · intro h
    rcases Option.isSome_iff_exists.1 h with ⟨i, hi⟩
    obtain ⟨hlt, he, _⟩ := idx_spec hi
    by_cases h61 : r = 61
    · exact .inr h61
    · left
      cases hn : idx a r with
      | some j => rfl
      | none =>
        exfalso
        have hm : (extA a)[i] ∈ extA a := List.getElem_mem hlt
        rcases List.mem_append.1 hm with hm | hm
        · exact idx_none.1 hn _ hm he
        · rw [List.mem_singleton.1 hm] at he
          exact h61 he.symm
  · intro h
    cases hn : idx (extA a) r with
    | some j => rfl
    | none =>
      exfalso
      rcases h with h | h
      · rcases Option.isSome_iff_exists.1 h with ⟨i, hi⟩
        obtain ⟨hlt, he, _⟩ := idx_spec hi
        exact idx_none.1 hn _ (List.mem_append_left _ (List.getElem_mem hlt)) he
      · subst h
        exact idx_none.1 hn eqL (List.mem_append_right _ (List.mem_singleton.2 rfl)) rfl
theorem validS_iff {a : List Letter} {l : List Rule} : validS a l = true ↔ validA a = true ∧ idx a 61 = none ∧ l.length ≤ 64 ∧ ∀ r ∈ l, r.fr ≠ 61 ∧ hasEq r.«to» = false ∧ validR (extA a) r = true := by
  unfold validS okRu
  simp only [Bool.and_eq_true, decide_eq_true_eq, List.all_eq_true, Bool.not_eq_true', decide_eq_false_iff_not, Option.isNone_iff_eq_none, and_assoc]
theorem eqB_runes : runes eqB = [61] ∧ utf8R eqB = true ∧ eqB = encs [61] := ⟨by decide +kernel, by decide +kernel, by decide +kernel⟩
theorem utf8_app {x y : ByteArray} (hx : utf8R x = true) (hy : utf8R y = true) : utf8R (x ++ y) = true ∧ runes (x ++ y) = runes x ++ runes y := by
  have e : x ++ y = encs (runes x ++ runes y) := by rw [encs_append, encs_runes hx, encs_runes hy]
  have hv : ∀ r ∈ runes x ++ runes y, Utf8.valid r = true := fun r hr => (List.mem_append.1 hr).elim runes_valid runes_valid
  exact ⟨by rw [e]; exact utf8R_encs hv, by rw [e]; exact runes_encs hv⟩
theorem join_runes {h c : ByteArray} (h1 : utf8R h = true) (h2 : utf8R c = true) : utf8R (joinE h c) = true ∧ runes (joinE h c) = runes h ++ 61 :: runes c := by
  have e1 := utf8_app h1 eqB_runes.2.1
  have e2 := utf8_app e1.1 h2
  refine ⟨e2.1, ?_⟩
  show runes (h ++ eqB ++ c) = _
  rw [e2.2, e1.2, eqB_runes.1, List.append_assoc]; rfl
theorem overA_iff {a : List Letter} {s : ByteArray} : overA a s = true ↔ utf8R s = true ∧ ∀ r ∈ runes s, (idx a r).isSome = true := by
  unfold overA; rw [Bool.and_eq_true, List.all_eq_true]
theorem join_word {a : List Letter} {h c : ByteArray} (h1 : overA a h = true) (h2 : overA a c = true) : consS (extA a) 40 (joinE h c) = decide ((runes h).length + 1 + (runes c).length ≤ 40) := by
  obtain ⟨u1, a1⟩ := overA_iff.1 h1
  obtain ⟨u2, a2⟩ := overA_iff.1 h2
  obtain ⟨u3, e3⟩ := join_runes u1 u2
  rw [consS_eq, u3, Bool.true_and]
  have hall : allL (extA a) (joinE h c) = true := by
    rw [allL, e3, List.all_eq_true]
    intro r hr
    rw [ext_some]
    rcases List.mem_append.1 hr with hr | hr
    · rw [a1 r hr]; rfl
    · rcases List.mem_cons.1 hr with rfl | hr
      · simp
      · rw [a2 r hr]; rfl
  rw [hall, Bool.and_true, e3, List.length_append, List.length_cons]
  exact decide_eq_decide.2 (by omega)
/-! letters that no rule reads or writes -/
theorem resF_filter {fr : Int} {tl : List Int} {p : Int → Bool} (h1 : fr ≠ 0 → p fr = false) (h2 : ∀ c ∈ tl, p c = false) : ∀ (w : List Int) (i : Nat) (ss : List Nat), ss.Pairwise (· < ·) → (∀ k ∈ ss, i ≤ k ∧ (fr ≠ 0 → w[k - i]? = some fr)) → (resF fr tl w i ss).filter p = w.filter p
  | [], i, ss, _, _ => by
    rw [resF_nil]
    split
    · exact List.filter_eq_nil_iff.2 (fun c hc => by rw [h2 c hc]; simp)
    · rfl
  | c :: w, i, ss, hp, hs => by
    have htl : tl.filter p = [] := List.filter_eq_nil_iff.2 (fun c hc => by rw [h2 c hc]; simp)
    rw [resF_cons, List.filter_append, List.filter_append]
    by_cases h : ss.head? = some i
    · obtain ⟨t, rfl⟩ : ∃ t, ss = i :: t := by
        cases ss with
        | nil => cases h
        | cons x t => simp only [List.head?_cons, Option.some.injEq] at h; subst h; exact ⟨t, rfl⟩
      have ih := resF_filter h1 h2 w (i + 1) t (List.pairwise_cons.1 hp).2 (fun k hk => by
        have h3 := (List.pairwise_cons.1 hp).1 k hk
        refine ⟨h3, fun h4 => ?_⟩
        have h5 := (hs k (List.mem_cons_of_mem _ hk)).2 h4
        rw [show k - i = (k - (i + 1)) + 1 by omega, List.getElem?_cons_succ] at h5
        exact h5)
      rw [if_pos h, if_pos h, htl, List.nil_append]
      show (if (i :: t).head? = some i ∧ fr ≠ 0 then [] else [c]).filter p ++ (resF fr tl w (i + 1) t).filter p = _
      rw [ih]
      by_cases hf : fr = 0
      · rw [if_neg (fun h => h.2 hf), List.filter_cons, List.filter_cons]
        split <;> simp
      · rw [if_pos ⟨rfl, hf⟩]
        have h5 := (hs i (List.mem_cons_self ..)).2 hf
        rw [Nat.sub_self, List.getElem?_cons_zero, Option.some.injEq] at h5
        rw [h5, List.filter_cons, h1 hf]
        rfl
    · have ih := resF_filter h1 h2 w (i + 1) ss hp (fun k hk => by
        obtain ⟨h3, h4⟩ := hs k hk
        have hne : k ≠ i := by
          intro e
          subst e
          cases ss with
          | nil => cases hk
          | cons x t =>
            have hx := (hs x (List.mem_cons_self ..)).1
            rcases List.mem_cons.1 hk with hk | hk
            · subst hk; exact h rfl
            · have := (List.pairwise_cons.1 hp).1 k hk; omega
        refine ⟨by omega, fun h6 => ?_⟩
        have h5 := h4 h6
        rw [show k - i = (k - (i + 1)) + 1 by omega, List.getElem?_cons_succ] at h5
        exact h5)
      rw [if_neg h, if_neg (fun h2 => h h2.1), if_neg h, ih, List.filter_nil, List.nil_append, List.filter_cons, List.filter_cons]
      split <;> simp
theorem apply_filter {x : List Letter} {r : Rule} {s : ByteArray} {p : Int → Bool} (h : (applyR x r s).2 = 0) (h1 : r.fr ≠ 0 → p r.fr = false) (h2 : ∀ c ∈ runes r.«to», p c = false) : (runes (applyR x r s).1).filter p = (runes s).filter p ∧ consS x 40 (applyR x r s).1 = true := by
  obtain ⟨hok, hw⟩ := resX_word (l := sitesR x r s) h
  refine ⟨?_, hw⟩
  unfold applyR at h ⊢
  unfold resX at h ⊢
  rw [if_pos hok] at h ⊢
  obtain ⟨a1, a2⟩ := okR_all hok
  have hm : ∀ c ∈ resF r.fr (runes r.«to») (runes s) 0 (sitesR x r s), Utf8.valid c = true := fun c hc => (resF_mem _ _ _ hc).elim runes_valid runes_valid
  by_cases h40 : 40 < (runes (encs (resF r.fr (runes r.«to») (runes s) 0 (sitesR x r s)))).length
  · rw [if_pos h40] at h; cases h
  · rw [if_neg h40]
    show (runes (encs _)).filter p = _
    rw [runes_encs hm]
    obtain ⟨q1, q2⟩ := pieces_site (a := x) (r := r) (s := s)
    exact resF_filter h1 h2 _ _ _ q1 (fun k hk => ⟨Nat.zero_le _, fun h => by rw [Nat.sub_zero]; exact (q2 k hk).2 h⟩)
theorem trF_filter {x : List Letter} {p : Int → Bool} : ∀ (l : List Rule) (out : List ByteArray) (s : ByteArray), (∀ r ∈ l, (r.fr ≠ 0 → p r.fr = false) ∧ ∀ c ∈ runes r.«to», p c = false) → consS x 40 s = true → out.getLastD ⟨#[]⟩ = s → (trF (applyR x) l out s).2 = 0 →
    (runes ((trF (applyR x) l out s).1.getLastD ⟨#[]⟩)).filter p = (runes s).filter p ∧ consS x 40 ((trF (applyR x) l out s).1.getLastD ⟨#[]⟩) = true
  | [], out, s, _, hs, ho, _ => by rw [trF_nil]; dsimp only; rw [ho]; exact ⟨rfl, hs⟩
  | r :: l, out, s, hl, hs, ho, h => by
    rw [trF_cons] at h ⊢
    by_cases h0 : (applyR x r s).2 = 0
    · rw [if_pos h0] at h ⊢
      obtain ⟨k1, k2⟩ := apply_filter h0 (hl r (List.mem_cons_self ..)).1 (hl r (List.mem_cons_self ..)).2
      have := trF_filter l _ _ (fun q hq => hl q (List.mem_cons_of_mem _ hq)) k2 (by simp) h
      exact ⟨by rw [this.1, k1], this.2⟩
    · rw [if_neg h0] at h; exact absurd h h0
theorem casc_filter {x : List Letter} {l : List Rule} {s : ByteArray} {p : Int → Bool} (hl : ∀ r ∈ l, (r.fr ≠ 0 → p r.fr = false) ∧ ∀ c ∈ runes r.«to», p c = false) (h : (cascX (traceR x l s)).2 = 0) : (runes (cascX (traceR x l s)).1).filter p = (runes s).filter p ∧ consS x 40 (cascX (traceR x l s)).1 = true := by
  rw [casc_two] at h
  obtain ⟨hok, e⟩ := trace_ok h
  have hs : consS x 40 s = true := by simp only [okT, Bool.and_eq_true] at hok; exact hok.1.2
  unfold cascX
  rw [if_pos h]
  rw [e] at h ⊢
  exact trF_filter l _ _ hl hs rfl h
theorem big_eq {n : Nat} (h1 : 128 ≤ n) (h2 : n < 256) : (UInt8.ofNat n == 61) = false := by
  have key : ∀ m : Fin 256, 128 ≤ m.val → (UInt8.ofNat m.val == 61) = false := by decide +kernel
  exact key ⟨n, h2⟩ h1
theorem enc_eq {r : Int} (hv : Utf8.valid r = true) : (encBy r).any (fun b => b == 61) = decide (r = 61) := by
  obtain ⟨c, rfl, hc⟩ := valid_cases hv
  rcases Nat.lt_or_ge c 128 with h1 | h1
  · have e : encBy (c : Int) = [UInt8.ofNat c] := by rw [encBy, enc_1 hv h1]
    have key : ∀ m : Fin 128, (UInt8.ofNat m.val == 61) = decide (m.val = 61) := by decide +kernel
    rw [e, List.any_cons, List.any_nil, Bool.or_false, key ⟨c, h1⟩]
    exact decide_eq_decide.2 (by show c = 61 ↔ (c : Int) = 61; omega)
  · rw [decide_eq_false (show ¬ (c : Int) = 61 by omega), List.any_eq_false]
    have fin : ∀ {b : ByteArray}, Utf8.encode (c : Int) = b → (∀ x ∈ b.data.toList, (x == 61) = false) → ∀ x ∈ encBy (c : Int), ¬ (x == 61) = true := by
      intro b e h x hx
      rw [encBy, e] at hx
      rw [h x hx]; simp
    rcases Nat.lt_or_ge c 2048 with h2 | h2
    · exact fin (enc_2 hv h1 h2) (fun x hx => by
        simp only [List.mem_cons, List.not_mem_nil, or_false] at hx
        rcases hx with rfl | rfl <;> exact big_eq (by omega) (by omega))
    · rcases Nat.lt_or_ge c 65536 with h3 | h3
      · exact fin (enc_3 hv h2 h3) (fun x hx => by
          simp only [List.mem_cons, List.not_mem_nil, or_false] at hx
          rcases hx with rfl | rfl | rfl <;> exact big_eq (by omega) (by omega))
      · exact fin (enc_4 hv h3) (fun x hx => by
          simp only [List.mem_cons, List.not_mem_nil, or_false] at hx
          rcases hx with rfl | rfl | rfl | rfl <;> exact big_eq (by omega) (by omega))
theorem dropE_eq {s : ByteArray} (h : utf8R s = true) : dropE s = dropB s := by
  have key : ∀ rs : List Int, (∀ r ∈ rs, Utf8.valid r = true) → (encs (rs.filter (fun r => !decide (r = 61)))).data.toList = (encs rs).data.toList.filter (fun b => !(b == 61)) := fun rs => by
    induction rs with
    | nil => intro _; rfl
    | cons r rs ih =>
      intro hv
      have hr := hv r (List.mem_cons_self ..)
      have ih := ih (fun x hx => hv x (List.mem_cons_of_mem _ hx))
      have he := enc_eq hr
      rw [encs_cons_data, List.filter_append, ← ih, List.filter_cons]
      by_cases h61 : r = 61
      · subst h61
        have e : (encBy 61).filter (fun b => !(b == 61)) = [] := by decide +kernel
        rw [e]; rfl
      · rw [if_pos (by simpa using h61), encs_cons_data]
        congr 1
        rw [decide_eq_false h61, List.any_eq_false] at he
        exact (List.filter_eq_self.2 (fun b hb => by have := he b hb; simpa using this)).symm
  have h1 := key (runes s) (fun r hr => runes_valid hr)
  rw [encs_runes h] at h1
  unfold dropE dropB
  apply ByteArray.ext
  apply Array.toList_inj.1
  rw [h1]
def chg (l : List Rule) (c : Int) : Bool := l.any (fun r => decide (r.fr = c) || (runes r.«to»).contains c)
def keepR (l : List Rule) (s : ByteArray) : List Int := (runes s).filter (fun c => !chg l c)
theorem chg_rule {l : List Rule} {r : Rule} (h : r ∈ l) : (r.fr ≠ 0 → (!chg l r.fr) = false) ∧ ∀ c ∈ runes r.«to», (!chg l c) = false := by
  refine ⟨fun _ => ?_, fun c hc => ?_⟩
  · rw [Bool.not_eq_false', chg, List.any_eq_true]
    exact ⟨r, h, by simp⟩
  · rw [Bool.not_eq_false', chg, List.any_eq_true]
    exact ⟨r, h, by simp [hc]⟩
/-- What attaching leaves: a word over the letters, and the letters that no rule touches in their order. -/
theorem att_keep {a : List Letter} {l : List Rule} {h c : ByteArray} (h1 : overA a h = true) (h2 : overA a c = true) (he : (attE a l h c).2 = 0) : overA a (attE a l h c).1 = true ∧ (runes (attE a l h c).1).length ≤ 40 ∧ keepR l (attE a l h c).1 = (keepR l h ++ keepR l c).filter (fun r => !decide (r = 61)) := by
  unfold attE at he ⊢
  by_cases h40 : 40 < (runes h).length + 1 + (runes c).length
  · rw [if_pos h40] at he; cases he
  · rw [if_neg h40] at he ⊢
    by_cases h0 : (cascE a l h c).2 = 0
    · rw [if_pos h0]
      dsimp only
      obtain ⟨k1, k2⟩ := casc_filter (p := fun c => !chg l c) (fun r hr => chg_rule hr) h0
      obtain ⟨u1, _⟩ := overA_iff.1 h1
      obtain ⟨u2, _⟩ := overA_iff.1 h2
      rw [(join_runes u1 u2).2] at k1
      rw [consS_eq, Bool.and_eq_true, Bool.and_eq_true, decide_eq_true_eq] at k2
      obtain ⟨⟨v1, v2⟩, v3⟩ := k2
      have hv : ∀ r ∈ (runes (cascE a l h c).1).filter (fun r => !decide (r = 61)), Utf8.valid r = true := fun r hr => runes_valid (List.mem_filter.1 hr).1
      have hr : runes (dropE (cascE a l h c).1) = (runes (cascE a l h c).1).filter (fun r => !decide (r = 61)) := runes_encs hv
      refine ⟨overA_iff.2 ⟨utf8R_encs hv, fun r hr2 => ?_⟩, ?_, ?_⟩
      · rw [hr] at hr2
        obtain ⟨m1, m2⟩ := List.mem_filter.1 hr2
        have := List.all_eq_true.1 v3 r m1
        rw [ext_some] at this
        rcases Bool.or_eq_true_iff.1 this with h3 | h3
        · exact h3
        · rw [h3] at m2; cases m2
      · rw [hr]
        exact Nat.le_trans (List.length_filter_le _ _) v2
      · unfold keepR
        rw [hr, List.filter_filter]
        have e1 : ((runes (cascE a l h c).1).filter (fun x => !chg l x && !decide (x = 61))) = (((runes (cascE a l h c).1).filter (fun x => !chg l x)).filter (fun x => !decide (x = 61))) := by
          rw [List.filter_filter]
          congr 1; funext x; exact Bool.and_comm _ _
        have k1' : ((runes (cascE a l h c).1).filter (fun x => !chg l x)) = (runes h ++ 61 :: runes c).filter (fun x => !chg l x) := k1
        rw [e1, k1', List.filter_append, List.filter_append, List.filter_append]
        congr 1
        rw [List.filter_cons]
        split
        · rw [List.filter_cons]; rfl
        · rfl
    · rw [if_neg h0] at he; exact absurd he h0
end Go.GH
namespace Go.GH
open Go
structure Sg where
  host : ByteArray
  cls : List ByteArray
def encSg (s : Sg) : List DV := [.v (.string s.host), DStrs s.cls]
abbrev DSgs (l : List Sg) : DV := .isl false 2 (l.map encSg)
def memS (s : ByteArray) (ks : List ByteArray) : Bool := ks.any (fun x => decide (x = s))
theorem memS_snoc (s r : ByteArray) (ks : List ByteArray) : memS s (ks ++ [r]) = (memS s ks || decide (r = s)) := by simp [memS]
def onceN (l : List ByteArray) : Nat → List ByteArray
  | 0 => []
  | i + 1 => if memS (l.getD i .empty) (l.take i) then onceN l i else onceN l i ++ [l.getD i .empty]
def onceL (l : List ByteArray) : List ByteArray := onceN l l.length
def seqL (cs : List ByteArray) : List (List ByteArray) := [] :: (cs.map (fun c => [c]) ++ cs.flatMap (fun c => cs.map (fun d => [c, d])))
def candL (hs cs : List ByteArray) : List Sg := hs.flatMap (fun h => (seqL cs).map (fun q => ⟨h, q⟩))
def okSg (a : List Letter) (l : List Rule) (w : ByteArray) (s : Sg) : Bool := decide ((allE a l s.host s.cls).2 = 0) && decide ((allE a l s.host s.cls).1 = w)
def splitL (a : List Letter) (l : List Rule) (hs cs : List ByteArray) (w : ByteArray) : List Sg := (candL (onceL hs) (onceL cs)).filter (okSg a l w)
def argS (a : List Letter) (l : List Rule) (hs cs : List ByteArray) (w : ByteArray) : Bool := validS a l && hs.all (isWordA a) && cs.all (isWordA a) && isWordA a w
def splitR (a : List Letter) (l : List Rule) (hs cs : List ByteArray) (w : ByteArray) : List Sg × Int := if argS a l hs cs w then (if 256 < (splitL a l hs cs w).length then ([], 2) else (splitL a l hs cs w, 0)) else ([], 1)
theorem onceN_len (l : List ByteArray) : ∀ i, (onceN l i).length ≤ i
  | 0 => Nat.le_refl _
  | i + 1 => by
    have := onceN_len l i
    rw [onceN]
    split
    · omega
    · rw [List.length_append, List.length_singleton]; omega
theorem onceN_mem {l : List ByteArray} {x : ByteArray} : ∀ i, i ≤ l.length → x ∈ onceN l i → x ∈ l
  | 0, _, h => by cases h
  | i + 1, hi, h => by
    rw [onceN] at h
    split at h
    · exact onceN_mem i (by omega) h
    · rcases List.mem_append.1 h with h | h
      · exact onceN_mem i (by omega) h
      · rw [List.mem_singleton.1 h, List.getD_eq_getElem?_getD, List.getElem?_eq_getElem (show i < l.length by omega)]
        exact List.getElem_mem _
theorem onceL_mem {l : List ByteArray} {x : ByteArray} (h : x ∈ onceL l) : x ∈ l := onceN_mem _ (Nat.le_refl _) h
theorem seqL_len (cs : List ByteArray) : (seqL cs).length = 1 + cs.length + cs.length * cs.length := by
  have key : ∀ (xs : List ByteArray), (xs.flatMap (fun c => cs.map (fun d => [c, d]))).length = xs.length * cs.length := fun xs => by
    induction xs with
    | nil => simp
    | cons x xs ih => rw [List.flatMap_cons, List.length_append, ih, List.length_map, List.length_cons, Nat.add_mul]; omega
  unfold seqL
  rw [List.length_cons, List.length_append, List.length_map, key]; omega
theorem candL_len (hs cs : List ByteArray) : (candL hs cs).length = hs.length * (1 + cs.length + cs.length * cs.length) := by
  unfold candL
  induction hs with
  | nil => simp
  | cons h hs ih => rw [List.flatMap_cons, List.length_append, ih, List.length_map, seqL_len, List.length_cons, Nat.add_mul]; omega
theorem candL_mem {hs cs : List ByteArray} {s : Sg} (h : s ∈ candL hs cs) : s.host ∈ hs ∧ s.cls.length ≤ 2 ∧ ∀ c ∈ s.cls, c ∈ cs := by
  unfold candL at h
  obtain ⟨x, hx, h⟩ := List.mem_flatMap.1 h
  obtain ⟨q, hq, rfl⟩ := List.mem_map.1 h
  refine ⟨hx, ?_⟩
  unfold seqL at hq
  rcases List.mem_cons.1 hq with rfl | hq
  · exact ⟨Nat.zero_le _, fun c hc => by cases hc⟩
  · rcases List.mem_append.1 hq with hq | hq
    · obtain ⟨c, hc, rfl⟩ := List.mem_map.1 hq
      exact ⟨by simp, fun y hy => by rw [List.mem_singleton.1 hy]; exact hc⟩
    · obtain ⟨c, hc, hq⟩ := List.mem_flatMap.1 hq
      obtain ⟨d, hd, rfl⟩ := List.mem_map.1 hq
      exact ⟨by simp, fun y hy => by
        simp only [List.mem_cons, List.not_mem_nil, or_false] at hy
        rcases hy with rfl | rfl
        · exact hc
        · exact hd⟩
/-! the letters that stay tell which segments are possible -/
def keepS (l : List Rule) (s : ByteArray) : ByteArray := encs (keepR l s)
def prefB (p s : ByteArray) : Bool := decide (p.size ≤ s.size) && decide (s.extract 0 p.size = p)
def cutP (x : ByteArray × Bool) (p : ByteArray) : ByteArray × Bool := if x.2 then (if prefB p x.1 then (x.1.extract p.size x.1.size, true) else (x.1, false)) else x
def possB (l : List Rule) (w : ByteArray) (s : Sg) : Bool := ((s.cls.foldl (fun x c => cutP x (keepS l c)) (cutP (keepS l w, true) (keepS l s.host))).2) && decide ((s.cls.foldl (fun x c => cutP x (keepS l c)) (cutP (keepS l w, true) (keepS l s.host))).1 = ⟨#[]⟩)
theorem extract_left (x y : ByteArray) : (x ++ y).extract 0 x.size = x ∧ (x ++ y).extract x.size (x ++ y).size = y := by
  constructor
  · apply ByteArray.ext; simp [ByteArray.data_extract, ByteArray.data_append]
  · apply ByteArray.ext
    have h1 : x.data.extract x.size (x.size + y.size) = #[] := Array.extract_empty_of_size_le_start (Nat.le_refl _)
    have h2 : y.data.extract 0 y.size = y.data := Array.extract_size
    have h3 : x.size + y.size - x.data.size = y.size := by show x.data.size + _ - x.data.size = _; omega
    have h4 : x.size - x.data.size = 0 := Nat.sub_self _
    simp only [ByteArray.data_extract, ByteArray.data_append, ByteArray.size_append, Array.extract_append, h1, h3, h4, h2, Array.empty_append]
theorem cutP_app (x y : ByteArray) : cutP (x ++ y, true) x = (y, true) := by
  unfold cutP prefB
  have h := extract_left x y
  rw [if_pos rfl, h.1, h.2, ByteArray.size_append, decide_eq_true (by omega), decide_eq_true rfl]
  rfl
theorem word_keep {a : List Letter} {l : List Rule} (h61 : idx a 61 = none) {s : ByteArray} (h : overA a s = true) : (keepR l s).filter (fun r => !decide (r = 61)) = keepR l s := by
  rw [List.filter_eq_self]
  intro r hr
  have h1 := (overA_iff.1 h).2 r (List.mem_filter.1 hr).1
  cases hd : decide (r = 61) with
  | false => rfl
  | true =>
    have := of_decide_eq_true hd
    subst this
    rw [h61] at h1; cases h1
theorem all_keep {a : List Letter} {l : List Rule} (h61 : idx a 61 = none) : ∀ (cs : List ByteArray) (f : ByteArray), overA a f = true → (∀ c ∈ cs, overA a c = true) → (allE a l f cs).2 = 0 → keepR l (allE a l f cs).1 = keepR l f ++ (cs.map (keepR l)).flatten ∧ overA a (allE a l f cs).1 = true
  | [], f, hf, _, _ => ⟨by simp [allE], hf⟩
  | c :: cs, f, hf, hc, he => by
    have hc0 := hc c (List.mem_cons_self ..)
    rw [allE] at he ⊢
    by_cases h0 : (attE a l f c).2 = 0
    · rw [if_pos h0] at he ⊢
      obtain ⟨k1, _, k2⟩ := att_keep hf hc0 h0
      have ih := all_keep h61 cs _ k1 (fun d hd => hc d (List.mem_cons_of_mem _ hd)) he
      refine ⟨?_, ih.2⟩
      rw [ih.1, k2, List.filter_append, word_keep h61 hf, word_keep h61 hc0, List.map_cons, List.flatten_cons, List.append_assoc]
    · rw [if_neg h0] at he; exact absurd he h0
theorem poss_of {l : List Rule} {w : ByteArray} {s : Sg} (h : keepR l w = keepR l s.host ++ (s.cls.map (keepR l)).flatten) : possB l w s = true := by
  have e : keepS l w = keepS l s.host ++ encs ((s.cls.map (keepR l)).flatten) := by unfold keepS; rw [h, encs_append]
  have key : ∀ (cs : List ByteArray), cs.foldl (fun x c => cutP x (keepS l c)) (encs ((cs.map (keepR l)).flatten), true) = (⟨#[]⟩, true) := fun cs => by
    induction cs with
    | nil => rfl
    | cons c cs ih =>
      rw [List.foldl_cons, List.map_cons, List.flatten_cons, encs_append]
      have : cutP (encs (keepR l c) ++ encs ((cs.map (keepR l)).flatten), true) (keepS l c) = (encs ((cs.map (keepR l)).flatten), true) := cutP_app _ _
      rw [this]; exact ih
  unfold possB
  rw [e, cutP_app, key]
  rfl
def preSg (l : List Rule) (w : ByteArray) (s : Sg) : Bool := !(decide (s.cls.length = 0) && !decide (s.host = w)) && possB l w s
/-- What the program passes over has another form, or none. -/
theorem ok_pre {a : List Letter} {l : List Rule} {w : ByteArray} {s : Sg} (h61 : idx a 61 = none) (hh : overA a s.host = true) (hc : ∀ c ∈ s.cls, overA a c = true) (h : okSg a l w s = true) : preSg l w s = true := by
  unfold okSg at h
  rw [Bool.and_eq_true, decide_eq_true_eq, decide_eq_true_eq] at h
  obtain ⟨h1, h2⟩ := h
  have hk := (all_keep h61 s.cls s.host hh hc h1).1
  rw [h2] at hk
  unfold preSg
  rw [poss_of hk, Bool.and_true]
  cases hcs : s.cls with
  | nil =>
    rw [hcs] at h2
    have : s.host = w := h2
    rw [this]; simp
  | cons c cs => simp
theorem isWordA_over {a : List Letter} {s : ByteArray} (h : isWordA a s = true) : overA a s = true ∧ (runes s).length ≤ 40 := by
  unfold isWordA at h
  rw [Bool.and_eq_true, decide_eq_true_eq] at h
  exact h
theorem split_pre {a : List Letter} {l : List Rule} {hs cs : List ByteArray} {w : ByteArray} (h : argS a l hs cs w = true) : ∀ s ∈ candL (onceL hs) (onceL cs), (preSg l w s && okSg a l w s) = okSg a l w s := by
  intro s hm
  unfold argS at h
  simp only [Bool.and_eq_true, List.all_eq_true] at h
  obtain ⟨⟨⟨h1, h2⟩, h3⟩, h4⟩ := h
  obtain ⟨c1, c2, c3⟩ := candL_mem hm
  cases ho : okSg a l w s with
  | false => rw [Bool.and_false]
  | true =>
    rw [ok_pre (validS_iff.1 h1).2.1 (isWordA_over (h2 _ (onceL_mem c1))).1 (fun c hc => (isWordA_over (h3 _ (onceL_mem (c3 c hc)))).1) ho]
    rfl
end Go.GH
namespace Go.GH
open Go Go.Proofs
variable {E : Env}

/-! #### strings.Builder -/
def adrB (b : Nat) : Bool → DV
  | true => .vref b 100 2
  | false => .v (.pointer none)
def bldH (b g : Nat) (used : Bool) (bs : List UInt8) : DHeap := (b, .row 100 2 [[adrB b used, accD 1 g (bs.map encY)]]) :: accH 5 1 g (bs.map encY)
theorem ptr_B : ptrB Tryd.prog 97 100 := ⟨by kernel_rfl, by
  have h : (Tryd.prog.info? 100).map (fun j => decide (j.size ≠ 0)) = some true := by kernel_rfl
  obtain ⟨j, h1, h2⟩ := Option.map_eq_some_iff.1 h
  exact ⟨j, h1, of_decide_eq_true h2⟩⟩
theorem up_B : Tryd.prog.underlying 127 = some .unsafePointer := by kernel_rfl
theorem lies_B : liesAt Tryd.prog Tryd.prog.depth 100 (2 / Tryd.prog.cellsOf 100) 0 100 1 = true := by kernel_rfl
theorem noEsc_B : noEscB Tryd.prog 93 := ⟨Tryd.f93, Tryd.func93, by kernel_rfl, by kernel_rfl, by kernel_rfl, by kernel_rfl⟩
theorem fld0_B : fieldB Tryd.prog 100 0 0 = true := by kernel_rfl
theorem fld1_B : fieldB Tryd.prog 100 1 1 = true := by kernel_rfl
theorem flatP_B : flatB Tryd.prog 97 = true := by kernel_rfl
theorem flatS_B : flatB Tryd.prog 98 = true := by kernel_rfl
theorem oneP_B : oneB Tryd.prog 97 = true := by kernel_rfl
theorem oneS_B : oneB Tryd.prog 98 = true := by kernel_rfl
theorem slice_B : sliceB Tryd.prog 98 5 1 = true := by kernel_rfl
theorem elem_B : elemB Tryd.prog 5 1 1 = true := by kernel_rfl
theorem zero_By : zeroIs Tryd.prog 5 (.int .u8 0) := by unfold zeroIs; kernel_rfl
theorem mixed_B : Tryd.prog.follows .mixedOrders = true := by kernel_rfl
theorem ptr_By : Tryd.prog.underlying 116 = some (.pointer 5) := by kernel_rfl
theorem some_R : (Tryd.prog.underlying 21).isSome = true := by kernel_rfl
theorem int_U : intB Tryd.prog 26 .u32 = true := by kernel_rfl
theorem int_By : intB Tryd.prog 5 .u8 = true := by kernel_rfl
theorem cells_By : Tryd.prog.cellsOf 5 = 1 := by kernel_rfl
theorem bCopy (b : Nat) (used : Bool) (x : DV) (hx : x.one = true) : GCall Tryd.prog E 84 [.vref b 100 2] [(b, .row 100 2 [[adrB b used, x]])] (fun d H => d = .v (.tuple #[]) ∧ H = [(b, .row 100 2 [[adrB b true, x]])]) := by
 refine GCall.body (C := ⟨Tryd.prog, E, false⟩) Tryd.func84 rfl (fun h => by cases h) (by kernel_rfl) rfl ?_
 refine SCode.seqR (SOps.move rfl (SOps.nilCheck rfl rfl (SOps.fieldV rfl fld0_B (SOps.loadRef 0 0 0 rfl flatP_B rfl rfl rfl rfl ?_))))
 cases used with
 | true =>
  refine SOps.eqNil false ptr_B rfl (.inl ⟨rfl, rfl⟩) rfl (SOps.nil ?_)
  refine SCode.cond rfl (fun h => by cases h) (fun _ => ?_)
  refine SCode.seqR (SOps.move rfl (SOps.nilCheck rfl rfl (SOps.fieldV rfl fld0_B (SOps.loadRef 0 0 0 rfl flatP_B rfl rfl rfl rfl (SOps.move rfl (SOps.eqPtr ptr_B rfl rfl (SOps.nil ?_)))))))
  refine SCode.cond rfl (fun h => by cases h) (fun _ => ?_)
  refine SCode.skip ?_
  exact ⟨_, Res.none, rfl, rfl⟩
 | false =>
  refine SOps.eqNil true ptr_B rfl (.inr ⟨rfl, rfl⟩) rfl (SOps.nil ?_)
  refine SCode.cond rfl (fun _ => ?_) (fun h => by cases h)
  refine SCode.region (SOps.move rfl (SOps.move rfl (SOps.toUnsafe rfl ptr_B up_B (by decide) (SOps.noEscape noEsc_B rfl (SOps.fromUnsafe rfl up_B ptr_B lies_B (SOps.nilCheck rfl rfl (SOps.fieldV rfl fld0_B (SOps.store 0 0 0 rfl rfl oneP_B rfl rfl rfl (by decide) rfl (SOps.nil ?_)))))))))
  exact ⟨_, Res.none, rfl, rfl⟩

theorem bAppendNA (g c : Nat) (bs : List UInt8) (hv : Utf8.valid (c : Int) = true) (h0 : 128 ≤ c) (hl : bs.length ≤ 70368744177664) : GCall Tryd.prog E 94 [accD 1 g (bs.map encY), .v (.int .i32 (c : Int))] (accH 5 1 g (bs.map encY)) (fun d H => ∃ g', d = accD 1 g' ((bs ++ encBy (c : Int)).map encY) ∧ H = accH 5 1 g' ((bs ++ encBy (c : Int)).map encY)) := by
  have hc : c < 55296 ∨ (57344 ≤ c ∧ c ≤ 1114111) := by
    have := hv
    simp only [Utf8.valid, Bool.or_eq_true, Bool.and_eq_true, decide_eq_true_eq] at this
    omega
  have hw : IntKind.u32.wrap (c : Int) = (c : Int) := u32wrap (by omega) (by omega)
  have fin : ∀ (st : St) (b0 g' : Nat) (x : DO) (es : List (List DV)), es = (encBy (c : Int)).map encY → st.get 4 = some (accD 1 g' (bs.map encY ++ es)) → st.heap = [(b0, x)] ++ (accH 5 1 g' (bs.map encY ++ es) ++ []) →
      SCode ⟨Tryd.prog, E, false⟩ .ret st (blockQ 0 (endQ Tryd.prog Tryd.f94.results (fun d H => ∃ g', d = accD 1 g' ((bs ++ encBy (c : Int)).map encY) ∧ H = accH 5 1 g' ((bs ++ encBy (c : Int)).map encY)))) := fun st b0 g' x es he h4 hh => by
    refine SCode.weaken (st' := ⟨st.n, [(4, accD 1 g' ((bs ++ encBy (c : Int)).map encY))], accH 5 1 g' ((bs ++ encBy (c : Int)).map encY)⟩) (St.Le.ofSub ⟨by rw [List.map_append, ← he]; exact h4, trivial⟩ ?_) (SCode.ret ⟨_, Res.one (.tmp rfl), g', rfl, rfl⟩)
    rw [hh, List.map_append, ← he, List.append_nil]
    exact List.Sublist.cons _ (List.Sublist.refl _)
  have sh : ∀ (d : Nat) (hd : d ≠ 0) (q : Int), q = (d : Int) → Int.fdiv (c : Int) q = ((c / d : Nat) : Int) := fun d hd q hq => by subst hq; exact fdiv_nat c d
  have hk : ∀ (q : Nat), IntKind.i32.has (((c / q : Nat) : Int)) := fun q => i32_has (by
    have := Nat.div_le_self c q
    generalize c / q = z at this
    omega)
  refine GCall.body (C := ⟨Tryd.prog, E, false⟩) Tryd.func94 rfl (fun h => by cases h) (by kernel_rfl) rfl ?_
  refine SCode.seqR (SOps.assign rfl (SOps.nil (SCode.seqR (SOps.move rfl (SOps.convInt rfl some_R int_U ?_)))))
  rw [hw]
  refine SOps.assign rfl (SOps.nil (SCode.block (SCode.seqR (SOps.move rfl (SOps.bin rfl rfl rfl (SOps.assign rfl (SOps.nil ?_)))))))
  refine SCode.cond rfl (fun hc1 => ?_) (fun hc1 => ?_)
  · have hc1 := of_decide_eq_true hc1
    refine SCode.seqR (SOps.move rfl (SOps.move rfl (SOps.shrI rfl rfl (by decide) (by rw [sh 64 (by decide) _ (by decide)]; exact hk _) ?_)))
    rw [sh 64 (by decide) _ (by decide)]
    refine SOps.convInt rfl some_R int_By (SOps.bits rfl rfl rfl (SOps.move rfl (SOps.convInt rfl some_R int_By (SOps.bits rfl rfl rfl (SOps.bits rfl rfl rfl ?_)))))
    refine SOps.litO slice_B zero_By rfl (fun b0 hb_0 => ?_)
    refine SOps.appendAcc [_] [] slice_B elem_B rfl rfl (by rw [List.append_nil]; rfl) (.own 0 rfl (Nat.le_refl _)) (by simp) (by simp [lenB]; omega) (by simp; omega) (fun g' => ?_)
    refine SOps.assign rfl (SOps.nil ?_)
    show SCode _ _ _ _
    refine fin _ _ g' _ _ ?_ (by exact rfl) (by exact rfl)
    rw [encBy_2 hv h0 (by omega)]
    have e1 : orB 192 (IntKind.u8.wrap ((c / 64 : Nat) : Int)) = ((192 + c / 64 : Nat) : Int) := by rw [u8nat, Nat.mod_eq_of_lt (by omega), or192' (by omega)]
    show [[DV.v (.int .u8 (orB 192 (IntKind.u8.wrap ((c / 64 : Nat) : Int))))], [DV.v (.int .u8 (orB 128 (andB (IntKind.u8.wrap (c : Int)) 63)))]] = _
    rw [e1]; simp only [low60]; rfl
  · have hc1 := of_decide_eq_false hc1
    refine SCode.seq (SCode.seqR (SOps.move rfl (SOps.bin rfl rfl rfl (SOps.assign rfl (SOps.nil ?_)))))
    refine SCode.cond rfl (fun hc2 => ?_) (fun hc2 => ?_)
    · refine SCode.skip ?_
      show SCode _ _ _ _
      have hc3 := of_decide_eq_true hc2
      refine SCode.cond rfl (fun _ => ?_) (fun h => absurd hc2 (by rw [h]; simp))
      refine SCode.seqR (SOps.move rfl (SOps.move rfl (SOps.shrI rfl rfl (by decide) (by rw [sh 4096 (by decide) _ (by decide)]; exact hk _) ?_)))
      rw [sh 4096 (by decide) _ (by decide)]
      refine SOps.convInt rfl some_R int_By (SOps.bits rfl rfl rfl (SOps.move rfl (SOps.shrI rfl rfl (by decide) (by rw [sh 64 (by decide) _ (by decide)]; exact hk _) ?_)))
      rw [sh 64 (by decide) _ (by decide)]
      refine SOps.convInt rfl some_R int_By (SOps.bits rfl rfl rfl (SOps.bits rfl rfl rfl (SOps.move rfl (SOps.convInt rfl some_R int_By (SOps.bits rfl rfl rfl (SOps.bits rfl rfl rfl ?_))))))
      refine SOps.litO slice_B zero_By rfl (fun b0 hb_0 => ?_)
      refine SOps.appendAcc [_] [] slice_B elem_B rfl rfl (by rw [List.append_nil]; rfl) (.own 0 rfl (Nat.le_refl _)) (by simp) (by simp [lenB]; omega) (by simp; omega) (fun g' => ?_)
      refine SOps.assign rfl (SOps.nil ?_)
      show SCode _ _ _ _
      refine fin _ _ g' _ _ ?_ (by exact rfl) (by exact rfl)
      rw [encBy_3 hv (by omega) (by omega)]
      have e1 : orB 224 (IntKind.u8.wrap ((c / 4096 : Nat) : Int)) = ((224 + c / 4096 : Nat) : Int) := by rw [u8nat, Nat.mod_eq_of_lt (by omega), or224' (by omega)]
      show [[DV.v (.int .u8 (orB 224 (IntKind.u8.wrap ((c / 4096 : Nat) : Int))))], [DV.v (.int .u8 (orB 128 (andB (IntKind.u8.wrap ((c / 64 : Nat) : Int)) 63)))], [DV.v (.int .u8 (orB 128 (andB (IntKind.u8.wrap (c : Int)) 63)))]] = _
      rw [e1]; simp only [low60]; rfl
    · have hc3 := of_decide_eq_false hc2
      refine SCode.region (SOps.move rfl (SOps.bin rfl rfl rfl (SOps.move rfl ?_)))
      refine SOps.caseB 30 rfl (fun hb1 => ?_) (fun hb1 => ?_)
      · refine SOps.move rfl (SOps.bin rfl rfl rfl (SOps.pick rfl rfl (SOps.assign rfl (SOps.nil ?_))))
        show SCode _ _ _ _
        refine SCode.cond rfl (fun hc4 => ?_) (fun hc4 => ?_)
        · have hc4 := of_decide_eq_true hc4
          refine SCode.seqR (SOps.move rfl (SOps.move rfl (SOps.shrI rfl rfl (by decide) (by rw [sh 4096 (by decide) _ (by decide)]; exact hk _) ?_)))
          rw [sh 4096 (by decide) _ (by decide)]
          refine SOps.convInt rfl some_R int_By (SOps.bits rfl rfl rfl (SOps.move rfl (SOps.shrI rfl rfl (by decide) (by rw [sh 64 (by decide) _ (by decide)]; exact hk _) ?_)))
          rw [sh 64 (by decide) _ (by decide)]
          refine SOps.convInt rfl some_R int_By (SOps.bits rfl rfl rfl (SOps.bits rfl rfl rfl (SOps.move rfl (SOps.convInt rfl some_R int_By (SOps.bits rfl rfl rfl (SOps.bits rfl rfl rfl ?_))))))
          refine SOps.litO slice_B zero_By rfl (fun b0 hb_0 => ?_)
          refine SOps.appendAcc [_] [] slice_B elem_B rfl rfl (by rw [List.append_nil]; rfl) (.own 0 rfl (Nat.le_refl _)) (by simp) (by simp [lenB]; omega) (by simp; omega) (fun g' => ?_)
          refine SOps.assign rfl (SOps.nil ?_)
          show SCode _ _ _ _
          refine fin _ _ g' _ _ ?_ (by exact rfl) (by exact rfl)
          rw [encBy_3 hv (by omega) (by omega)]
          have e1 : orB 224 (IntKind.u8.wrap ((c / 4096 : Nat) : Int)) = ((224 + c / 4096 : Nat) : Int) := by rw [u8nat, Nat.mod_eq_of_lt (by omega), or224' (by omega)]
          show [[DV.v (.int .u8 (orB 224 (IntKind.u8.wrap ((c / 4096 : Nat) : Int))))], [DV.v (.int .u8 (orB 128 (andB (IntKind.u8.wrap ((c / 64 : Nat) : Int)) 63)))], [DV.v (.int .u8 (orB 128 (andB (IntKind.u8.wrap (c : Int)) 63)))]] = _
          rw [e1]; simp only [low60]; rfl
        · have hc4 := of_decide_eq_false hc4
          refine SCode.seqR (SOps.move rfl (SOps.bin rfl rfl rfl (SOps.move rfl ?_)))
          refine SOps.caseB 53 rfl (fun hb2 => ?_) (fun hb2 => absurd (of_decide_eq_false hb2) (by omega))
          refine SOps.move rfl (SOps.bin rfl rfl rfl (SOps.pick rfl rfl (SOps.assign rfl (SOps.nil ?_))))
          refine SCode.cond rfl (fun hc5 => ?_) (fun hc5 => absurd (of_decide_eq_false hc5) (by omega))
          refine SCode.seqR (SOps.move rfl (SOps.move rfl (SOps.shrI rfl rfl (by decide) (by rw [sh 262144 (by decide) _ (by decide)]; exact hk _) ?_)))
          rw [sh 262144 (by decide) _ (by decide)]
          refine SOps.convInt rfl some_R int_By (SOps.bits rfl rfl rfl (SOps.move rfl (SOps.shrI rfl rfl (by decide) (by rw [sh 4096 (by decide) _ (by decide)]; exact hk _) ?_)))
          rw [sh 4096 (by decide) _ (by decide)]
          refine SOps.convInt rfl some_R int_By (SOps.bits rfl rfl rfl (SOps.bits rfl rfl rfl (SOps.move rfl (SOps.shrI rfl rfl (by decide) (by rw [sh 64 (by decide) _ (by decide)]; exact hk _) ?_))))
          rw [sh 64 (by decide) _ (by decide)]
          refine SOps.convInt rfl some_R int_By (SOps.bits rfl rfl rfl (SOps.bits rfl rfl rfl (SOps.move rfl (SOps.convInt rfl some_R int_By (SOps.bits rfl rfl rfl (SOps.bits rfl rfl rfl ?_))))))
          refine SOps.litO slice_B zero_By rfl (fun b0 hb_0 => ?_)
          refine SOps.appendAcc [_] [] slice_B elem_B rfl rfl (by rw [List.append_nil]; rfl) (.own 0 rfl (Nat.le_refl _)) (by simp) (by simp [lenB]; omega) (by simp; omega) (fun g' => ?_)
          refine SOps.assign rfl (SOps.nil ?_)
          show SCode _ _ _ _
          refine fin _ _ g' _ _ ?_ (by exact rfl) (by exact rfl)
          rw [encBy_4 hv (by omega) (by omega)]
          have e1 : orB 240 (IntKind.u8.wrap ((c / 262144 : Nat) : Int)) = ((240 + c / 262144 : Nat) : Int) := by rw [u8nat, Nat.mod_eq_of_lt (by omega), or240' (by omega)]
          show [[DV.v (.int .u8 (orB 240 (IntKind.u8.wrap ((c / 262144 : Nat) : Int))))], [DV.v (.int .u8 (orB 128 (andB (IntKind.u8.wrap ((c / 4096 : Nat) : Int)) 63)))], [DV.v (.int .u8 (orB 128 (andB (IntKind.u8.wrap ((c / 64 : Nat) : Int)) 63)))], [DV.v (.int .u8 (orB 128 (andB (IntKind.u8.wrap (c : Int)) 63)))]] = _
          rw [e1]; simp only [low60]; rfl
      · exact absurd (of_decide_eq_false hb1) (by omega)

theorem bAppendRune (g : Nat) (r : Int) (bs : List UInt8) (hv : Utf8.valid r = true) (hl : bs.length ≤ 70368744177664) : GCall Tryd.prog E 85 [accD 1 g (bs.map encY), .v (.int .i32 r)] (accH 5 1 g (bs.map encY)) (fun d H => ∃ g', d = accD 1 g' ((bs ++ encBy r).map encY) ∧ H = accH 5 1 g' ((bs ++ encBy r).map encY)) := by
 obtain ⟨c, rfl, hc⟩ := valid_cases hv
 have hw : IntKind.u32.wrap (c : Int) = (c : Int) := u32wrap (by omega) (by omega)
 refine GCall.body (C := ⟨Tryd.prog, E, false⟩) Tryd.func85 rfl (fun h => by cases h) (by kernel_rfl) rfl ?_
 refine SCode.seqR (SOps.assign rfl (SOps.nil (SCode.seq (SCode.seqR (SOps.move rfl (SOps.convInt rfl some_R int_U ?_))))))
 rw [hw]
 refine SOps.bin rfl rfl rfl (SOps.nil ?_)
 refine SCode.cond rfl (fun hc1 => ?_) (fun hc1 => ?_)
 ·have hc1 := of_decide_eq_true hc1
  refine SCode.seqR (SOps.move rfl (SOps.move rfl (SOps.convInt rfl some_R int_By ?_)))
  refine SOps.litO slice_B zero_By rfl (fun b0 hb_0 => ?_)
  refine SOps.appendAcc [_] [] slice_B elem_B rfl rfl (by rw [List.append_nil]; rfl) (.own 0 rfl (Nat.le_refl _)) (by simp) (by simp [lenB]; omega) (by simp; omega) (fun g' => ?_)
  refine SOps.assign rfl (SOps.nil ?_)
  have he : [[DV.v (.int .u8 (IntKind.u8.wrap (c : Int)))]] = (encBy (c : Int)).map encY := by
   rw [encBy_1 hv (by omega), u8nat, Nat.mod_eq_of_lt (by omega)]; rfl
  refine SCode.weaken (st' := ⟨_, [(4, accD 1 g' ((bs ++ encBy (c : Int)).map encY))], accH 5 1 g' ((bs ++ encBy (c : Int)).map encY)⟩) (St.Le.ofSub ⟨by rw [List.map_append, ← he]; rfl, trivial⟩ ?_) (SCode.ret ⟨_, Res.one (.tmp rfl), g', rfl, rfl⟩)
  rw [List.map_append, ← he]
  show List.Sublist _ ([_] ++ (_ ++ []))
  rw [List.append_nil]
  exact List.Sublist.cons _ (List.Sublist.refl _)
 ·have hc1 := of_decide_eq_false hc1
  refine SCode.skip ?_
  show SCode _ _ _ _
  refine SCode.seqR (SOps.move rfl (SOps.move rfl (SOps.call (H := accH 5 1 g (bs.map encY)) (G := []) (bAppendNA g c bs hv (by omega) hl) rfl (List.append_nil _).symm ?_)))
  rintro _ _ ⟨g', rfl, rfl⟩
  refine SOps.assign rfl (SOps.nil ?_)
  exact SCode.ret ⟨_, Res.one (.tmp rfl), g', rfl, List.append_nil _⟩
theorem bWriteRune (b g : Nat) (used : Bool) (bs : List UInt8) (r : Int) (hv : Utf8.valid r = true) (hl : bs.length ≤ 70368744177664) : GCall Tryd.prog E 70 [.vref b 100 2, .v (.int .i32 r)] (bldH b g used bs) (fun d H => ∃ g' n, d = .tup [.v (.int .i64 n), .v .nilIface] ∧ H = bldH b g' true (bs ++ encBy r)) := by
 have hel := encBy_len r
 refine GCall.body (C := ⟨Tryd.prog, E, false⟩) Tryd.func70 rfl (fun h => by cases h) (by kernel_rfl) rfl ?_
 refine SCode.seqR (SOps.assign rfl (SOps.assign rfl (SOps.nil (SCode.seqR (SOps.move rfl (SOps.call (H := [(b, .row 100 2 [[adrB b used, accD 1 g (bs.map encY)]])]) (G := accH 5 1 g (bs.map encY)) (bCopy b used _ (accD_one ..)) rfl rfl ?_))))))
 rintro _ _ ⟨rfl, rfl⟩
 refine SOps.nil (SCode.seqR (SOps.move rfl (SOps.nilCheck rfl rfl (SOps.fieldV rfl fld1_B (SOps.loadRef 0 0 1 rfl flatS_B rfl rfl rfl rfl (SOps.lenAcc rfl slice_B (SOps.assign rfl (SOps.nil (SCode.seqR (SOps.move rfl (SOps.move rfl (SOps.nilCheck rfl rfl (SOps.fieldV rfl fld1_B (SOps.loadRef 0 0 1 rfl flatS_B rfl rfl rfl rfl (SOps.move rfl (SOps.weaken (st' := ⟨_, [(0, .vref b 100 2), (6, .v (.int .i64 ((bs.map encY).length : Int))), (14, .vref b 100 2), (18, accD 1 g (bs.map encY)), (19, .v (.int .i32 r))], accH 5 1 g (bs.map encY) ++ [(b, .row 100 2 [[adrB b true, accD 1 g (bs.map encY)]])]⟩) (St.Le.ofPerm ⟨rfl, rfl, rfl, rfl, rfl, trivial⟩ (List.perm_append_comm (l₂ := [(b, DO.row 100 2 [[adrB b true, accD 1 g (bs.map encY)]])])) (List.Sublist.refl _)) (SOps.call (H := accH 5 1 g (bs.map encY)) (G := [(b, .row 100 2 [[adrB b true, accD 1 g (bs.map encY)]])]) (bAppendRune g r bs hv hl) rfl rfl ?_)))))))))))))))))
 rintro _ _ ⟨g', rfl, rfl⟩
 refine SOps.weaken (st' := ⟨_, [(0, .vref b 100 2), (6, .v (.int .i64 ((bs.map encY).length : Int))), (14, .vref b 100 2), (20, accD 1 g' ((bs ++ encBy r).map encY))], (b, .row 100 2 [[adrB b true, accD 1 g (bs.map encY)]]) :: accH 5 1 g' ((bs ++ encBy r).map encY)⟩) (St.Le.ofPerm ⟨rfl, rfl, rfl, rfl, trivial⟩ (List.perm_append_comm (l₁ := [(b, DO.row 100 2 [[adrB b true, accD 1 g (bs.map encY)]])])) (List.Sublist.refl _)) (SOps.nilCheck rfl rfl (SOps.fieldV rfl fld1_B (SOps.store 0 0 1 rfl rfl oneS_B rfl rfl rfl (by decide) (accD_one ..) (SOps.nil (SCode.seqR (SOps.move rfl (SOps.nilCheck rfl rfl (SOps.fieldV rfl fld1_B (SOps.loadRef 0 0 1 rfl flatS_B rfl rfl rfl rfl (SOps.lenAcc rfl slice_B (SOps.move rfl (SOps.subI rfl rfl (by simp only [List.length_map, List.length_append]; omega) (by simp only [List.length_map, List.length_append]; omega) (SOps.assign rfl (SOps.assign rfl (SOps.nil ?_)))))))))))))))
 exact SCode.ret ⟨_, Res.two (.tmp rfl) (.tmp rfl), g', _, rfl, rfl⟩

theorem bString (b g : Nat) (used : Bool) (bs : List UInt8) (hl : bs.length ≤ 70368744177664) : GCall Tryd.prog E 71 [.vref b 100 2] (bldH b g used bs) (fun d H => d = .v (.string ⟨bs.toArray⟩) ∧ H = []) := by
 refine GCall.body (C := ⟨Tryd.prog, E, false⟩) Tryd.func71 rfl (fun h => by cases h) (by kernel_rfl) rfl ?_
 refine SCode.seqR (SOps.assign rfl (SOps.nil (SCode.seq ?_)))
 refine SCode.drawSeqAt 10 (fun st => ∃ s2 : St, s2.Le st ∧ s2.get 2 = some (.v (.string ⟨bs.toArray⟩))) 8 mixed_B
  [(3, .vref b 100 2), (4, .vref b 100 2), (5, .ref b 1), (6, accD 1 g (bs.map encY)), (7, dataD g bs), (8, .vref b 100 2), (9, .vref b 100 2), (10, .ref b 1), (11, accD 1 g (bs.map encY)), (12, .v (.int .i64 (bs.length : Int)))] [3, 4, 5, 6, 7, 8, 9, 10, 11, 12]
  [[.inr 0], [.inl 0], [.inl 1], [.inl 2], [.inl 3], [.inr 0], [.inl 5], [.inl 6], [.inl 7], [.inl 8]] [[(0, .vref b 100 2)], [(3, .vref b 100 2)], [(4, .vref b 100 2)], [(5, .ref b 1)], [(6, accD 1 g (bs.map encY))], [(0, .vref b 100 2)], [(8, .vref b 100 2)], [(9, .vref b 100 2)], [(10, .ref b 1)], [(11, accD 1 g (bs.map encY))]]
  rfl (by kernel_rfl) (by kernel_rfl) (by kernel_rfl) (by kernel_rfl) rfl rfl ?_ ?_ ?_
 ·refine OpsOk.cons (fun rest => SOps.move rfl (SOps.nil rfl)) ?_
  refine OpsOk.cons (fun rest => SOps.nilCheck rfl rfl (SOps.nil rfl)) ?_
  refine OpsOk.cons (fun rest => SOps.fieldV rfl fld1_B (SOps.nil rfl)) ?_
  refine OpsOk.cons (fun rest => SOps.loadRef 0 0 1 rfl flatS_B rfl rfl rfl rfl (SOps.nil rfl)) ?_
  refine OpsOk.cons (fun rest => SOps.sliceData rfl (SOps.nil rfl)) ?_
  refine OpsOk.cons (fun rest => SOps.move rfl (SOps.nil rfl)) ?_
  refine OpsOk.cons (fun rest => SOps.nilCheck rfl rfl (SOps.nil rfl)) ?_
  refine OpsOk.cons (fun rest => SOps.fieldV rfl fld1_B (SOps.nil rfl)) ?_
  refine OpsOk.cons (fun rest => SOps.loadRef 0 0 1 rfl flatS_B rfl rfl rfl rfl (SOps.nil rfl)) ?_
  refine OpsOk.cons (fun rest => SOps.lenAcc rfl slice_B (SOps.nil (by rw [List.length_map]; rfl))) ?_
  exact OpsOk.nil
 ·refine SeqOk.cons (R1 := fun st => ∃ s2 : St, s2.Le st ∧ s2.n = 14 ∧ s2.get 13 = some (.v (.string ⟨bs.toArray⟩))) (fun st hle => SOps.weaken hle ?_) ?_
  ·exact SOps.unsafeStr [_] [] ptr_By cells_By rfl rfl (by rw [List.append_nil]; rfl) (SOps.nil ⟨_, ⟨rfl, fun t d h => .inl h, _, .refl _, List.Sublist.refl _⟩, rfl, rfl⟩)
  ·refine SeqOk.cons (fun st ⟨s2, h1, h2, h3⟩ => SOps.weaken h1 ?_) SeqOk.nil
   exact SOps.assign h3 (SOps.nil ⟨_, ⟨rfl, fun t d h => .inl h, _, .refl _, List.Sublist.refl _⟩, St.get_put_same s2 2 _⟩) rfl (by rw [h2]; rfl)
 ·rintro st ⟨s2, h1, h2⟩
  refine ⟨⟨st.n, [(2, .v (.string ⟨bs.toArray⟩))], []⟩, ⟨rfl, fun t d h => .inl ?_, [], .refl _, List.nil_sublist _⟩, SCode.ret ⟨_, Res.one (.tmp rfl), rfl, rfl⟩⟩
  have h3 := h1.slots 2 _ h2
  have ht : t = 2 ∧ d = .v (.string ⟨bs.toArray⟩) := by
   have h : getL [(2, DV.v (.string ⟨bs.toArray⟩))] t = some d := h
   rw [getL_cons] at h
   split at h
   ·rename_i e; exact ⟨e.symm, (Option.some.inj h).symm⟩
   ·simp [getL] at h
  obtain ⟨rfl, rfl⟩ := ht
  rcases h3 with h3 | ⟨h3, _⟩
  ·exact h3
  ·cases h3

end Go.GH
namespace Go.GH
open Go Go.RowKit

section
variable {E : Env} {base : Base} {F F' : Nat → Prop} {st st' : St} {a a' : Act} {w w' : World}
/-- The same relation, seen from now on. -/
theorem SimF.rebase (h : SimF E base F st a w) : SimF E ⟨w, F, fun b => b ∈ st.heap.map (·.1)⟩ F st a w where
  keep := Step.refl _ _
  base_lt := fun b hb => by obtain ⟨p, hp, rfl⟩ := List.mem_map.1 hb; exact (h.heap p hp).2.2.lt
  sub := fun _ x => x
  lt := fun b hb => ⟨(h.lt b hb).1, .inl hb⟩
  env := h.env
  size := h.size
  slots := h.slots
  heap := fun p hp => ⟨.inl (List.mem_map.2 ⟨p, hp, rfl⟩), (h.heap p hp).2⟩
  keys := h.keys
  defers := h.defers
/-- What has been shown from a later world on holds from the call's begin. -/
theorem SimF.back {own : Nat → Prop} (h : SimF E base F st a w) (k : SimF E ⟨w, F, own⟩ F' st' a' w') (hown : ∀ b, own b → base.own b ∨ base.w.heap.size ≤ b) : SimF E base F' st' a' w' where
  keep := h.keep.then k.keep (fun i hi hb => (hown i hb).resolve_right (by omega))
  base_lt := h.base_lt
  sub := fun b hb => k.sub b (h.sub b hb)
  lt := fun b hb => ⟨(k.lt b hb).1, (k.lt b hb).2.elim (fun x => (h.lt b x).2) (fun x => .inr (Nat.le_trans h.keep.size x))⟩
  env := k.env
  size := k.size
  slots := k.slots
  heap := fun p hp => ⟨(k.heap p hp).1.elim (hown _) (fun x => .inr (Nat.le_trans h.keep.size x)), (k.heap p hp).2⟩
  keys := k.keys
  defers := k.defers
/-- The world goes on and leaves what is known as it is, though other blocks may turn. -/
theorem SimF.stepT {T : Nat → Prop} (h : SimF E base F st a w) (k : Step T w w') (hF : ∀ b, F b → ¬ T b) (hH : ∀ p ∈ st.heap, ¬ T p.1) (hT : ∀ b, T b → base.own b ∨ base.w.heap.size ≤ b) : SimF E base F st a w' where
  keep := h.keep.then k (fun i hi hb => (hT i hb).resolve_right (by omega))
  base_lt := h.base_lt
  sub := h.sub
  lt := fun b hb => ⟨Nat.lt_of_lt_of_le (h.lt b hb).1 k.size, (h.lt b hb).2⟩
  env := E.mono (fun b hb => k.block b (h.lt b hb).1 (hF b hb)) (fun _ x => x) h.env
  size := h.size
  slots := fun t d ht => ⟨(h.slots t d ht).1, (h.slots t d ht).2.mono (fun b hb => k.block b (h.lt b hb).1 (hF b hb)) k.shape (fun _ x => x)⟩
  heap := fun p hp => by
    obtain ⟨h1, h2, h3⟩ := h.heap p hp
    exact ⟨h1, h2, h3.mono (k.block _ h3.lt (hH p hp)) (fun b hb => k.block b (h.lt b hb).1 (hF b hb)) k.shape (fun _ x => x)⟩
  keys := h.keys
  defers := h.defers
/-- More is taken for memory that never turns: what someone else has laid. -/
theorem SimF.wider (h : SimF E base F st a w) (h1 : ∀ b, F b → F' b) (h2 : ∀ b, F' b → b < w.heap.size ∧ (F b ∨ base.w.heap.size ≤ b)) (h3 : ∀ p ∈ st.heap, ¬ F' p.1) : SimF E base F' st a w where
  keep := h.keep
  base_lt := h.base_lt
  sub := fun b hb => h1 b (h.sub b hb)
  lt := fun b hb => ⟨(h2 b hb).1, (h2 b hb).2.elim (fun x => (h.lt b x).2) .inr⟩
  env := E.mono (fun _ _ => rfl) h1 h.env
  size := h.size
  slots := fun t d ht => ⟨(h.slots t d ht).1, (h.slots t d ht).2.mono (fun _ _ => rfl) (fun _ _ x => x) h1⟩
  heap := fun p hp => by
    obtain ⟨k1, k2, k3⟩ := h.heap p hp
    exact ⟨k1, h3 p hp, k3.mono rfl (fun _ _ => rfl) (fun _ _ x => x) h1⟩
  keys := h.keys
  defers := h.defers
theorem shape?_none {w : World} {l : Nat} {o : Obj} (h : w.heap[l]? = some o) (hc : o.isCells = false) : w.shape? l = none := by
  unfold World.shape?
  rw [h]
  cases o <;> first | rfl | (simp [Obj.isCells] at hc)
theorem Step.putObj {w : World} {l : Nat} {o : Obj} (o' : Obj) (h : w.heap[l]? = some o) (hc : o.isCells = false) : Step (· = l) w (w.putObj l o') :=
  (Step.grown (grownBy_putObj' w l o') (fun k e s hs => by cases e; rw [shape?_none h hc] at hs; cases hs)).mono (fun i _ e => by cases e; rfl)
end

/-! ### in a round, or inside a fence that lets all in -/
def FW (ro : Option Nat) : Fence := { Fence.wide with round := ro }
def noDef : List Oper → Bool
  | [] => true
  | o :: l => (match o.op with | .defer _ => false | _ => true) && noDef l
theorem noDef_head {o : Oper} (h : (match o.op with | .defer _ => false | _ => true) = true) : ∀ c, o.op ≠ .defer c := fun c e => by rw [e] at h; cases h

theorem uponIn_of {P : Program} {o : Oper} {a : Act} {K K' : Act → World → Prop} {Q : Exit → Act → World → Prop} {ro : Option Nat} {n : Nat} (hK : ∀ a w, K a w → K' a w) :
    ∀ r : Result Next, o.upon P a K Q r → o.uponIn (FW ro) n P a K' Q r := by
  intro r h
  cases r with
  | halt x w => cases x <;> first | exact h | exact h.elim
  | ok x w =>
    cases x with
    | value v => exact hK _ _ h
    | skip => exact hK _ _ h
    | defer d => exact hK _ _ h
    | enter f args =>
      refine ⟨fun e => by simp [FW, Fence.wide] at e, (callsIn_wide (n := n - 1)).2 (Calls.mono h (fun e w' q => ?_))⟩
      cases e with
      | returned v => exact hK _ _ q
      | panicked c => exact q
      | outgrown => exact q
    | row row args =>
      refine ⟨fun e => by simp [FW, Fence.wide] at e, fun c cs _ => ?_⟩
      obtain ⟨v, w', r, s⟩ := h c cs
      exact ⟨v, w', hK _ _ r, stepsIn_wide.2 s⟩
    | _ => exact h.elim
theorem wpListIn_of {P : Program} {ops : Array Oper} {Q : Exit → Act → World → Prop} (ro : Option Nat) (n : Nat) (hQ : ∀ a w, ¬ Q .outgrown a w) : ∀ (l : List Oper), noDef l = true → ∀ a w, wpList P ops Q l a w → wpListIn (FW ro) n P ops Q l a w
  | [], _, a, w, h => h
  | o :: l, hd, a, w, h => by
    rw [noDef, Bool.and_eq_true] at hd
    have ih := wpListIn_of (P := P) (ops := ops) ro n hQ l hd.2
    unfold wpList at h
    unfold wpListIn
    by_cases hw : Region.wanted o (yielded ops a.tmps) = true
    · rw [if_pos hw] at h ⊢
      rcases h with h | ⟨_, a0, w0, h⟩
      · refine ⟨fun _ _ => trivial, ?_⟩
        rw [Oper.semAt_eq _ _ _ (noDef_head hd.1)]
        exact uponIn_of ih _ h
      · exact absurd h (hQ _ _)
    · rw [if_neg hw] at h ⊢
      exact ⟨fun _ _ => trivial, ih _ _ h⟩
theorem uponIn_mono {P : Program} {F : Fence} {n : Nat} {o : Oper} {a : Act} {K K' : Act → World → Prop} {Q Q' : Exit → Act → World → Prop} (hK : ∀ a w, K a w → K' a w) (hQ : ∀ e a w, e ≠ .normal → Q e a w → Q' e a w) :
    ∀ r : Result Next, o.uponIn F n P a K Q r → o.uponIn F n P a K' Q' r := by
  have hL : LetsOut Q → LetsOut Q' := fun ⟨a, w, h⟩ => ⟨a, w, hQ _ _ _ (by simp) h⟩
  intro r h
  cases r with
  | halt x w => cases x <;> first | exact hQ _ _ _ (by simp) h | exact h.elim
  | ok x w =>
    cases x with
    | value v => exact hK _ _ h
    | skip => exact hK _ _ h
    | defer d => exact hK _ _ h
    | enter f args =>
      obtain ⟨h1, h2, h3⟩ := h
      refine ⟨h1, h2, fun cs hr => ?_⟩
      obtain ⟨e, w', fr, q, rest⟩ := h3 cs hr
      refine ⟨e, w', fr, ?_, rest⟩
      cases e with
      | returned v => exact hK _ _ q
      | panicked c => exact hQ _ _ _ (by simp) q
      | outgrown => exact hL q
    | row row args => exact ⟨h.1, h.2.mono (fun v w' r => hK _ _ r)⟩
    | round l f tmps asg bd =>
      refine ⟨h.1, h.2.mono (fun e w' q => ?_)⟩
      cases e with
      | returned v => exact hK _ _ q
      | panicked c => exact hQ _ _ _ (by simp) q
      | outgrown => exact hL q
    | _ => exact h.elim
theorem wpListIn_app {P : Program} {F : Fence} {n : Nat} {ops : Array Oper} {Q Q1 : Exit → Act → World → Prop} {l2 : List Oper} (hQ : ∀ e a w, Q1 e a w → e = .normal ∧ wpListIn F n P ops Q l2 a w) : ∀ (l1 : List Oper) (a : Act) (w : World), wpListIn F n P ops Q1 l1 a w → wpListIn F n P ops Q (l1 ++ l2) a w
  | [], a, w, h => (hQ _ _ _ h).2
  | o :: l, a, w, h => by
    have ih := wpListIn_app hQ l
    show wpListIn F n P ops Q (o :: (l ++ l2)) a w
    unfold wpListIn at h ⊢
    by_cases hw : Region.wanted o (yielded ops a.tmps) = true
    · rw [if_pos hw] at h ⊢
      exact ⟨h.1, uponIn_mono ih (fun e a w he q => absurd (hQ _ _ _ q).1 he) _ h.2⟩
    · rw [if_neg hw] at h ⊢
      exact ⟨h.1, ih _ _ h.2⟩

/-- Code in a round of loop l, over abstract states. -/
def SRound (C : Ctx) (l : Nat) (c : Code) (st : St) (Q : Exit → St → Prop) : Prop :=
  ∀ base, C.ok base → ∀ a w, Sim C.E base st a w → c.wpIn (FW (some l)) 0 C.P (fun e a' w' => ∃ st', Q e st' ∧ Sim C.E base st' a' w') a w
def thenR (C : Ctx) (l : Nat) (y : Code) (Q : Exit → St → Prop) : Exit → St → Prop
  | .normal, st => SRound C l y st Q
  | e, st => Q e st
section
variable {C : Ctx} {l : Nat} {st : St} {Q : Exit → St → Prop}
theorem SRound.mono {c : Code} {Q' : Exit → St → Prop} (h : SRound C l c st Q) (hq : ∀ e st, Q e st → Q' e st) : SRound C l c st Q' :=
  fun base ok a w hs => wpIn_mono (h base ok a w hs) (fun _ _ _ ⟨st', q, s⟩ => ⟨st', hq _ _ q, s⟩)
theorem SRound.weaken {c : Code} {st' : St} (hl : st'.Le st) (h : SRound C l c st' Q) : SRound C l c st Q :=
  fun base ok a w ⟨F, hs⟩ => h base ok a w ⟨F, hs.weaken hl⟩
theorem SRound.skip (h : Q .normal st) : SRound C l .skip st Q := fun _ _ _ _ hs => wpIn_skip ⟨st, h, hs⟩
theorem SRound.exit {id : Nat} (h : Q (.exit id) st) : SRound C l (.exit id) st Q := fun _ _ _ _ hs => wpIn_exit ⟨st, h, hs⟩
theorem SRound.seq {x y : Code} (h : SRound C l x st (thenR C l y Q)) : SRound C l (.seq x y) st Q := fun base ok a w hs =>
  wpIn_seq (wpIn_mono (h base ok a w hs) (fun e a' w' ⟨st', q, s⟩ => by
    cases e <;> first | exact q base ok a' w' s | exact ⟨st', q, s⟩))
theorem SRound.block {id : Nat} {c : Code} (h : SRound C l c st (blockQ id Q)) : SRound C l (.block id c) st Q := fun base ok a w hs =>
  wpIn_block (wpIn_mono (h base ok a w hs) (fun e a' w' ⟨st', q, s⟩ => by
    cases e with
    | exit id' =>
      simp only [blockQ, Exit.inBlock] at *
      split
      · rename_i e; rw [if_pos e] at q; exact ⟨st', q, s⟩
      · rename_i e; rw [if_neg e] at q; exact ⟨st', q, s⟩
    | _ => exact ⟨st', q, s⟩))
theorem SRound.cond {c : Operand} {x y : Code} {b : Bool} (hc : st.val c = some (.v (.bool b))) (hT : b = true → SRound C l x st Q) (hF : b = false → SRound C l y st Q) : SRound C l (.cond c x y) st Q := by
  intro base ok a w ⟨F, hs⟩
  exact wpIn_cond_split (hs.val hc).inv_v.1 (fun e => hT e base ok a w ⟨F, hs⟩) (fun e => hF e base ok a w ⟨F, hs⟩)
theorem SRound.region {id : Nat} {ls : List Oper} (h : SOps C ls.toArray ls st (fun st' => Q .normal st')) (hd : noDef ls = true := by rfl) : SRound C l (.region id ls.toArray false) st Q :=
  fun base ok a w hs => wpIn_mono (Q := fun e a' w' => e = .normal ∧ ∃ st', Q .normal st' ∧ Sim C.E base st' a' w')
    (wpIn_region_lit (wpListIn_of (some l) 0 (fun _ _ h => by cases h.1) ls hd a w (h base ok a w hs _ (fun st' a' w' r s => ⟨rfl, st', r, s⟩))))
    (fun e a' w' ⟨h1, st', h2, h3⟩ => by subst h1; exact ⟨st', h2, h3⟩)
theorem SRound.seqR {id : Nat} {ls : List Oper} {y : Code} (h : SOps C ls.toArray ls st (fun st' => SRound C l y st' Q)) (hd : noDef ls = true := by rfl) : SRound C l (.seq (.region id ls.toArray false) y) st Q :=
  SRound.seq (SRound.region h hd)
end

/-! ### iterators -/
/-- What a caller keeps between two rounds: so many have come; the world; what never turns; what rounds may write. -/
abbrev JT := Nat → World → (Nat → Prop) → (Nat → Prop) → Prop
def YKeeps (J : JT) : Prop := ∀ i w F T w' F', J i w F T → Step (fun _ => False) w w' → (∀ b, F b → F' b) → (∀ b, F' b → b < w'.heap.size ∧ (F b ∨ w.heap.size ≤ b)) → J i w' F' T
def YNext (J : JT) (i : Nat) (w : World) (F T : Nat → Prop) (w' : World) : Prop :=
  ∃ F' T', (∀ b, F b → F' b) ∧ (∀ b, F' b → b < w'.heap.size ∧ (F b ∨ w.heap.size ≤ b)) ∧ (∀ b, T' b → b < w'.heap.size ∧ ¬ F' b ∧ (T b ∨ w.heap.size ≤ b)) ∧ Step T w w' ∧ J i w' F' T'
def YRounds (P : Program) (E : Env) (l : Nat) (xs : List DV) (J : JT) : Prop :=
  ∀ i x, xs[i]? = some x → ∀ w F T v, E.holds w F → (∀ b, F b → b < w.heap.size) → (∀ b, T b → b < w.heap.size ∧ ¬ F b) → J i w F T → Rep w F v x →
    YieldAt Fence.wide 0 P l #[v] w (fun e w' => e = .returned (.bool true) ∧ YNext J (i + 1) w F T w')
/-- The contract of an iterator: with what it has captured it hands over xs, and no more. -/
def GIter (P : Program) (E : Env) (f : FuncId) (ds : List DV) (xs : List DV) : Prop :=
  hasBody P f = true ∧ ∀ (l : Nat) (J : JT) w F T (vs : Array Value), YKeeps J → YRounds P E l xs J → E.holds w F → (∀ b, F b → b < w.heap.size) → (∀ b, T b → b < w.heap.size ∧ ¬ F b) → J 0 w F T → vs.size = ds.length →
    (∀ (j : Nat) (x : Value) (d : DV), vs[j]? = some x → ds[j]? = some d → Rep w F x d) →
    Calls P f (#[.func (.yield l) #[] #[]] ++ vs) w (fun e w' => (∃ v, e = .returned v) ∧ ∃ F' T', J xs.length w' F' T')

def SimY (C : Ctx) (J : JT) (base : Base) (i : Nat) (st : St) (a : Act) (w : World) : Prop :=
  ∃ F T, SimF C.E base F st a w ∧ (∀ b, T b → b < w.heap.size ∧ ¬ F b ∧ (base.own b ∨ base.w.heap.size ≤ b)) ∧ J i w F T
def SYCode (C : Ctx) (J : JT) (c : Code) (i : Nat) (st : St) (Q : Exit → Nat → St → Prop) : Prop :=
  ∀ base a w, SimY C J base i st a w → c.wpIn Fence.wide 0 C.P (fun e a' w' => ∃ i' st', Q e i' st' ∧ SimY C J base i' st' a' w') a w
def SYOps (C : Ctx) (J : JT) (ops : Array Oper) (l : List Oper) (i : Nat) (st : St) (R : Nat → St → Prop) : Prop :=
  ∀ base a w, SimY C J base i st a w → ∀ Q : Exit → Act → World → Prop, (∀ i' st' a' w', R i' st' → SimY C J base i' st' a' w' → Q .normal a' w') → wpListIn Fence.wide 0 C.P ops Q l a w
def thenY (C : Ctx) (J : JT) (y : Code) (Q : Exit → Nat → St → Prop) : Exit → Nat → St → Prop
  | .normal, i, st => SYCode C J y i st Q
  | e, i, st => Q e i st
def blockY (id : Nat) (Q : Exit → Nat → St → Prop) : Exit → Nat → St → Prop
  | .exit id', i, st => if id' = id then Q .normal i st else Q (.exit id') i st
  | e, i, st => Q e i st
section
variable {C : Ctx} {J : JT} {i : Nat} {st : St} {Q : Exit → Nat → St → Prop}
/-- What a piece that calls no yield leaves. -/
theorem SimY.on (hJ : YKeeps J) {base : Base} {F T F' : Nat → Prop} {a a' : Act} {w w' : World} {st' : St} (hs : SimF C.E base F st a w) (hT : ∀ b, T b → b < w.heap.size ∧ ¬ F b ∧ (base.own b ∨ base.w.heap.size ≤ b)) (hj : J i w F T)
    (s : SimF C.E ⟨w, F, fun b => b ∈ ([] : List Nat)⟩ F' st' a' w') : SimY C J base i st' a' w' := by
  have keep : Step (fun _ => False) w w' := s.keep.mono (fun i _ h => by cases h)
  refine ⟨F', T, hs.back s (fun b h => by cases h), fun b hb => ⟨Nat.lt_of_lt_of_le (hT b hb).1 keep.size, fun hF' => ?_, (hT b hb).2.2⟩, hJ i w F T w' F' hj keep s.sub s.lt⟩
  rcases (s.lt b hF').2 with x | x
  · exact (hT b hb).2.1 x
  · exact absurd (hT b hb).1 (Nat.not_lt.2 x)
theorem SYCode.of (hJ : YKeeps J) (hh : st.heap = []) {c : Code} (h : SCode C c st (fun e st' => Q e i st')) : SYCode C J c i st Q := by
  intro base a w ⟨F, T, hs, hT, hj⟩
  have hs' := hs.rebase
  rw [hh] at hs'
  refine wpIn_wide.2 (wp_mono (h ⟨w, F, _⟩ (fun _ b hb => by cases hb) a w ⟨F, hs'⟩) ?_)
  rintro e a' w' ⟨st', q, F', s⟩
  exact ⟨i, st', q, SimY.on hJ hs hT hj s⟩
theorem SYCode.mono {c : Code} {Q' : Exit → Nat → St → Prop} (h : SYCode C J c i st Q) (hq : ∀ e i st, Q e i st → Q' e i st) : SYCode C J c i st Q' :=
  fun base a w hs => wpIn_mono (h base a w hs) (fun _ _ _ ⟨i', st', q, s⟩ => ⟨i', st', hq _ _ _ q, s⟩)
theorem SYCode.weaken {c : Code} {st' : St} (hl : st'.Le st) (h : SYCode C J c i st' Q) : SYCode C J c i st Q :=
  fun base a w ⟨F, T, hs, r⟩ => h base a w ⟨F, T, hs.weaken hl, r⟩
theorem SYCode.skip (h : Q .normal i st) : SYCode C J .skip i st Q := fun _ _ _ hs => wpIn_skip ⟨i, st, h, hs⟩
theorem SYCode.ret (h : Q .ret i st) : SYCode C J .ret i st Q := fun _ _ _ hs => wpIn_ret ⟨i, st, h, hs⟩
theorem SYCode.exit {id : Nat} (h : Q (.exit id) i st) : SYCode C J (.exit id) i st Q := fun _ _ _ hs => wpIn_exit ⟨i, st, h, hs⟩
theorem SYCode.seq {x y : Code} (h : SYCode C J x i st (thenY C J y Q)) : SYCode C J (.seq x y) i st Q := fun base a w hs =>
  wpIn_seq (wpIn_mono (h base a w hs) (fun e a' w' ⟨i', st', q, s⟩ => by
    cases e <;> first | exact q base a' w' s | exact ⟨i', st', q, s⟩))
theorem SYCode.block {id : Nat} {c : Code} (h : SYCode C J c i st (blockY id Q)) : SYCode C J (.block id c) i st Q := fun base a w hs =>
  wpIn_block (wpIn_mono (h base a w hs) (fun e a' w' ⟨i', st', q, s⟩ => by
    cases e with
    | exit id' =>
      simp only [blockY, Exit.inBlock] at *
      split
      · rename_i e; rw [if_pos e] at q; exact ⟨i', st', q, s⟩
      · rename_i e; rw [if_neg e] at q; exact ⟨i', st', q, s⟩
    | _ => exact ⟨i', st', q, s⟩))
theorem SYCode.cond {c : Operand} {x y : Code} {b : Bool} (hc : st.val c = some (.v (.bool b))) (hT : b = true → SYCode C J x i st Q) (hF : b = false → SYCode C J y i st Q) : SYCode C J (.cond c x y) i st Q := by
  intro base a w ⟨F, T, hs, r⟩
  exact wpIn_cond_split (hs.val hc).inv_v.1 (fun e => hT e base a w ⟨F, T, hs, r⟩) (fun e => hF e base a w ⟨F, T, hs, r⟩)
theorem SYCode.loop {α : Type} {c : Code} (I : α → St) (ι : α → Nat) (μ : α → Nat) (x₀ : α) (h₀ : (I x₀).Le st) (hi : ι x₀ = i)
    (round : ∀ x, SYCode C J c (ι x) (I x) (fun e i' st' => match e with
      | .normal => ∃ y, μ y < μ x ∧ (I y).Le st' ∧ ι y = i'
      | e => Q e i' st')) : SYCode C J (.loop c) i st Q := by
  intro base a w ⟨F, T, hs, r⟩
  have key : ∀ n x, μ x < n → ∀ a w, SimY C J base (ι x) (I x) a w → Code.roundsIn Fence.wide 0 C.P c (fun e a' w' => ∃ i' st', Q e i' st' ∧ SimY C J base i' st' a' w') n a w := by
    intro n
    induction n with
    | zero => intro x hx; omega
    | succ n ih =>
      intro x hx a w hs
      refine wpIn_mono (round x base a w hs) (fun e a' w' ⟨i', st', q, s⟩ => ?_)
      cases e with
      | normal =>
        obtain ⟨y, hy, hl, hiy⟩ := q
        obtain ⟨F', T', s', r'⟩ := s
        subst hiy
        exact ih y (by omega) a' w' ⟨F', T', s'.weaken hl, r'⟩
      | _ => exact ⟨i', st', q, s⟩
  subst hi
  exact wpIn_loop_rounds _ (key (μ x₀ + 1) x₀ (Nat.lt_succ_self _) a w ⟨F, T, hs.weaken h₀, r⟩)
theorem SYCode.loop1 {α : Type} {c : Code} (ι : α → Nat) (I : α → St) (Inv : α → Prop) (μ : α → Nat) (x₀ : α) (hi : Inv x₀) (h₀ : (I x₀).Le st) (hx : ι x₀ = i)
    (round : ∀ x, Inv x → SYCode C J c (ι x) (I x) (fun e i' st' => match e with
      | .normal => ∃ y, Inv y ∧ μ y < μ x ∧ (I y).Le st' ∧ ι y = i'
      | e => Q e i' st')) : SYCode C J (.loop c) i st Q :=
  SYCode.loop (fun p : {x : α // Inv x} => I p.1) (fun p => ι p.1) (fun p => μ p.1) ⟨x₀, hi⟩ h₀ hx (fun p => (round p.1 p.2).mono (fun e i st' q => by
    cases e <;> first | (obtain ⟨y, h1, h2⟩ := q; exact ⟨⟨y, h1⟩, h2⟩) | exact q))
theorem SYCode.fact {c : Code} {p : Prop} (hp : ∀ base a w F, SimF C.E base F st a w → p) (h : p → SYCode C J c i st Q) : SYCode C J c i st Q :=
  fun base a w ⟨F, T, hs, r⟩ => h (hp base a w F hs) base a w ⟨F, T, hs, r⟩
theorem SYCode.region {id : Nat} {ls : List Oper} (h : SYOps C J ls.toArray ls i st (fun i' st' => Q .normal i' st')) : SYCode C J (.region id ls.toArray false) i st Q :=
  fun base a w hs => wpIn_region_lit (h base a w hs _ (fun i' st' a' w' r s => ⟨i', st', r, s⟩))
theorem SYCode.seqR {id : Nat} {ls : List Oper} {y : Code} (h : SYOps C J ls.toArray ls i st (fun i' st' => SYCode C J y i' st' Q)) : SYCode C J (.seq (.region id ls.toArray false) y) i st Q :=
  SYCode.seq (SYCode.region h)
variable {ops : Array Oper} {rest : List Oper} {R : Nat → St → Prop}
theorem SYOps.nil (h : R i st) : SYOps C J ops [] i st R := fun _ a w hs Q hQ => wpListIn_nil (hQ i st a w h hs)
theorem SYOps.app (hJ : YKeeps J) (l1 : List Oper) {l2 : List Oper} {R1 : St → Prop} (h : SOps C ops l1 st R1) (hh : st.heap = []) (hd : noDef l1 = true) (k : ∀ st', R1 st' → SYOps C J ops l2 i st' R) : SYOps C J ops (l1 ++ l2) i st R := by
  intro base a w ⟨F, T, hs, hT, hj⟩ Q hQ
  have hs' := hs.rebase
  rw [hh] at hs'
  have h1 := h ⟨w, F, _⟩ (fun _ b hb => by cases hb) a w ⟨F, hs'⟩ (fun e a' w' => e = .normal ∧ wpListIn Fence.wide 0 C.P ops Q l2 a' w') (fun st' a' w' r ⟨F', s⟩ => ⟨rfl, k st' r base a' w' (SimY.on hJ hs hT hj s) Q hQ⟩)
  exact wpListIn_app (fun e a w h => h) l1 a w (wpListIn_of none 0 (fun _ _ h => by cases h.1) l1 hd a w h1)
theorem SYOps.one (hJ : YKeeps J) {o : Oper} {l2 : List Oper} {st1 : St} (h : SOps C ops [o] st (fun st' => st' = st1)) (hh : st.heap = []) (hd : noDef [o] = true) (k : SYOps C J ops l2 i st1 R) : SYOps C J ops (o :: l2) i st R :=
  SYOps.app (l2 := l2) hJ [o] h hh hd (fun st' e => e ▸ k)
theorem SYOps.relab {l : List Oper} {t : Nat} {d d' : DV} (hd : st.get t = some d) (hr : ∀ (w : World) (F : Nat → Prop) (v : Value), Rep w F v d → Rep w F v d') (h : SYOps C J ops l i (st.put t d') R) : SYOps C J ops l i st R :=
  fun base a w ⟨F, T, hs, r⟩ => h base a w ⟨F, T, hs.relabel hd (hr w F _), r⟩
/-- One call of yield. -/
theorem SYOps.yield {xs : List DV} {l : Nat} {t : Tmp} {ty : TypeId} {pos : String} {aft : Array Edge} {xo xa : Operand} {ats : Array TypeId} {x : DV} (hY : YRounds C.P C.E l xs J) (hx : st.val xo = some (.v (.func (.yield l) #[] #[]))) (ha : st.val xa = some x) (hi : xs[i]? = some x) (hh : st.heap = [])
    (hrest : SYOps C J ops rest (i + 1) (st.put t (.v (.bool true))) R) (ht : Nat.blt t st.n = true := by rfl) :
    SYOps C J ops (⟨some t, .call { callee := .value xo, args := #[xa], argTypes := ats }, ty, pos, aft, none⟩ :: rest) i st R := by
  intro base a w ⟨F, T, hs, hT, hj⟩ Q hQ
  obtain ⟨fn, tmps, asg, bd, hy, hR⟩ := hY i x hi w F T (a.eval xa) hs.env (fun b hb => (hs.lt b hb).1) (fun b hb => ⟨(hT b hb).1, (hT b hb).2.1⟩) hj (hs.val ha)
  refine wpListIn_plain rfl (fun K hK => ⟨fun _ _ => trivial, ?_⟩)
  have hsem : ((⟨some t, .call { callee := .value xo, args := #[xa], argTypes := ats }, ty, pos, aft, none⟩ : Oper).semAt Fence.wide.round a.eval).run C.P w = .ok (.round l fn tmps asg bd) w := by
    rw [show (⟨some t, .call { callee := .value xo, args := #[xa], argTypes := ats }, ty, pos, aft, none⟩ : Oper).semAt Fence.wide.round a.eval = (do let d ← Deferred.ofValue (a.eval xo) (#[xa].map a.eval); invoke d.target d.args) from rfl, (hs.val hx).inv_v.1]
    simp only [Deferred.ofValue, invoke, pure_bind]
    simpa using hy
  rw [hsem, Oper.uponIn_round]
  refine ⟨fun e => by simp [Fence.wide] at e, hR.mono ?_⟩
  rintro e w' ⟨rfl, F', T', h1, h2, h3, h4, h5⟩
  refine hK _ _ (hrest base _ w' ⟨F', T', ?_, fun b hb => ⟨(h3 b hb).1, (h3 b hb).2.1, ?_⟩, h5⟩ Q hQ)
  · have s1 := hs.stepT h4 (fun b hb ht => (hT b ht).2.1 hb) (fun p hp => by rw [hh] at hp; cases hp) (fun b hb => (hT b hb).2.2)
    have s2 := s1.wider h1 (fun b hb => ⟨(h2 b hb).1, (h2 b hb).2.imp id (fun x => Nat.le_trans hs.keep.size x)⟩) (fun p hp => by rw [hh] at hp; cases hp)
    exact s2.put (by simpa using ht) (.v trivial)
  · rcases (h3 b hb).2.2 with x | x
    · exact (hT b x).2.2
    · exact .inr (Nat.le_trans hs.keep.size x)
/-- An iterator's contract from its body. -/
theorem GIter.body {f : FuncId} {fn : Func} {c : Code} {ds xs : List DV} (hf : C.P.funcs[f]? = some fn) (hb : fn.body = some c) (hname : (fn.name == "runtime.NumGoroutine") = false) (hn : Nat.ble (ds.length + 1) fn.ntmps = true) (hres : fn.results = #[])
    (h : ∀ (l : Nat) (J : JT), YKeeps J → YRounds C.P C.E l xs J → SYCode C J c 0 (St.init fn.ntmps (.v (.func (.yield l) #[] #[]) :: ds) []) (fun e i st => (e = .normal ∨ e = .ret) ∧ i = xs.length)) : GIter C.P C.E f ds xs := by
  refine ⟨by simp [hasBody, hf, hb, hname], ?_⟩
  intro l J w F T vs hK hY hE hF hT h0 hvs hr
  have hn' := Nat.le_of_ble_eq_true hn
  refine calls_of_wp hf hb ?_
  have hr' : ∀ (j : Nat) (x : Value) (d : DV), (#[Value.func (.yield l) #[] #[]] ++ vs)[j]? = some x → ((DV.v (.func (.yield l) #[] #[])) :: ds)[j]? = some d → Rep w F x d := by
    intro j x d hx hd
    cases j with
    | zero =>
      rw [Array.getElem?_append_left (by simp)] at hx
      simp only [List.getElem?_cons_zero, Option.some.injEq] at hd
      obtain rfl : Value.func (.yield l) #[] #[] = x := by simpa using hx
      subst hd
      exact .v trivial
    | succ j =>
      rw [Array.getElem?_append_right (by simp)] at hx
      simp at hx hd
      exact hr j x d hx hd
  have hsim : SimF C.E ⟨w, F, T⟩ F (St.init fn.ntmps (.v (.func (.yield l) #[] #[]) :: ds) []) { tmps := (#[.func (.yield l) #[] #[]] ++ vs) ++ Array.replicate (fn.ntmps - (#[Value.func (.yield l) #[] #[]] ++ vs).size) undef, defers := [] } w := {
    keep := Step.refl _ _
    base_lt := fun b hb => (hT b hb).1
    sub := fun _ h => h
    lt := fun b hb => ⟨hF b hb, .inl hb⟩
    env := hE
    size := by simp [hvs, St.init]; omega
    slots := fun t d ht => by
      obtain ⟨_, h2⟩ := enum_get _ 0 t d ht
      simp only [Nat.sub_zero] at h2
      have hlt := (List.getElem?_eq_some_iff.1 h2).1
      simp only [List.length_cons] at hlt
      refine ⟨Nat.lt_of_lt_of_le hlt hn', ?_⟩
      have hlt' : t < (#[Value.func (.yield l) #[] #[]] ++ vs).size := by simp; omega
      have e : ((#[Value.func (.yield l) #[] #[]] ++ vs) ++ Array.replicate (fn.ntmps - (#[Value.func (.yield l) #[] #[]] ++ vs).size) undef).getD t undef = (#[Value.func (.yield l) #[] #[]] ++ vs)[t] := by
        rw [Array.getD_eq_getD_getElem?, Array.getElem?_append, if_pos hlt', Array.getElem?_eq_getElem hlt']; rfl
      rw [e]
      exact hr' t _ d (Array.getElem?_eq_getElem hlt') h2
    heap := fun p hp => by cases hp
    keys := List.nodup_nil
    defers := rfl }
  refine wp_mono (wpIn_wide.1 (h l J hK hY ⟨w, F, T⟩ _ w ⟨F, T, hsim, fun b hb => ⟨(hT b hb).1, (hT b hb).2, .inl hb⟩, h0⟩)) ?_
  rintro e a' w' ⟨i', st', ⟨he, hi⟩, F', T', s, _, hj⟩
  subst hi
  have fin : a'.defers = [] ∧ ∃ v, (results fn a'.tmps).run C.P w' = .ok v w' ∧ ((∃ v', Ending.returned v = .returned v') ∧ ∃ F' T', J xs.length w' F' T') :=
    let ⟨x, hx, _⟩ := run_results s (fn := fn) (d := .v (.tuple #[])) (by rw [hres]; exact .none)
    ⟨s.defers, x, hx, ⟨_, rfl⟩, F', T', hj⟩
  rcases he with rfl | rfl
  · exact fin
  · exact fin
end
end Go.GH
namespace Go.GH
open Go Go.RowKit
section
variable {C : Ctx} {E : Env} {base : Base} {F : Nat → Prop} {st : St} {a : Act} {w : World} {ops : Array Oper} {rest : List Oper} {R : St → Prop}
  {t : Tmp} {ty : TypeId} {pos : String} {aft : Array Edge} {g : Option (Nat × Bool)}
end
end Go.GH
namespace Go.GH
open Go
variable {C : Ctx} {ops : Array Oper} {st : St} {rest : List Oper} {R : St → Prop} {t : Tmp} {ty : TypeId} {pos : String} {aft : Array Edge} {g : Option (Nat × Bool)}

end Go.GH
namespace Go.GH
open Go

def pairV (p : Nat × Nat) : Value := .agg #[.int .u8 (p.1 : Int), .int .u8 (p.2 : Int)]
def SmP (p : Nat × Nat) : Prop := p.1 < 256 ∧ p.2 < 256
structure pairB (P : Program) (T K V : Nat) : Prop where
  map : P.underlying T = some (.map K V)
  law : WideMaps.KeyLaw P K
  key : ∀ p, SmP p → ∃ l, keyOf P K (pairV p) = some l
theorem u8_wf {n : Nat} (h : n < 256) : (Lit.int .u8 (n : Int)).wf = true := by
  simp [Lit.wf, IntKind.min, IntKind.max, IntKind.signed, IntKind.bits]
  omega
theorem pairB.of {P : Program} {T K V e k : Nat} (hm : P.underlying T = some (.map K V)) (hK : P.underlying K = some (.array 2 e)) (he : P.underlying e = some (.int .u8)) (hcK : P.cellsOf K = 2) (hce : P.cellsOf e = 1) (hk : P.keyType K = true)
    (h2 : P.keyTypeAt 2 K = true) (ht : P.tiled 2 K = true) (hs : P.types.size = k + 1) : pairB P T K V where
  map := hm
  law := deep_law (m := 2) (by decide) h2 ht (by rw [hK])
  key := fun p hp => by
    have h1 : P.keyLits (k + 1) e [.int .u8 (p.1 : Int)] = some [.int .u8 (p.1 : Int)] := by
      unfold Program.keyLits; simp only [he]; rw [if_pos ⟨trivial, u8_wf hp.1⟩]
    have h2 : P.keyLits (k + 1) e [.int .u8 (p.2 : Int)] = some [.int .u8 (p.2 : Int)] := by
      unfold Program.keyLits; simp only [he]; rw [if_pos ⟨trivial, u8_wf hp.2⟩]
    have h3 : P.keyLits (P.types.size + 1) K (pairV p).cells.toList = some [.int .u8 (p.1 : Int), .int .u8 (p.2 : Int)] := by
      rw [hs]
      unfold Program.keyLits
      simp only [hK, pairV, Value.cells, hcK, hce]
      rw [if_pos (by simp)]
      simp [List.range_succ, h1, h2]
    refine ⟨.string (keyBytes [.int .u8 (p.1 : Int), .int .u8 (p.2 : Int)]), ?_⟩
    unfold keyOf
    simp only [hK]
    rw [if_pos (by simp [hk, Value.formed, pairV, hK, hcK]), h3]
    rfl
variable {C : Ctx} {ops : Array Oper} {st : St} {rest : List Oper} {R : St → Prop} {t : Tmp} {ty : TypeId} {pos : String} {aft : Array Edge} {g : Option (Nat × Bool)}

end Go.GH
namespace Go.GH
open Go
variable {α : Type} {C : Ctx} {ops : Array Oper} {st : St} {rest : List Oper} {R : St → Prop} {t : Tmp} {ty : TypeId} {pos : String} {aft : Array Edge} {g : Option (Nat × Bool)}

end Go.GH
namespace Go.GH
open Go

def inlB (n : Nat) (ss : List (Nat ⊕ Nat)) : Bool := ss.all (fun x => match x with | .inl j => Nat.blt j n | .inr _ => true)
inductive NeedIs (D s : List (Nat × DV)) : List (Nat ⊕ Nat) → List (Nat × DV) → Prop
  | nil : NeedIs D s [] []
  | inl {j : Nat} {ss : List (Nat ⊕ Nat)} {nd : List (Nat × DV)} (k t : Nat) (d : DV) (hk : k + j + 1 = D.length) (h : D[k]? = some (t, d)) (r : NeedIs D s ss nd) : NeedIs D s (.inl j :: ss) ((t, d) :: nd)
  | inr {t : Nat} {ss : List (Nat ⊕ Nat)} {nd : List (Nat × DV)} (d : DV) (h : getL s t = some d) (k : NeedIs D s ss nd) : NeedIs D s (.inr t :: ss) ((t, d) :: nd)
theorem NeedIs.eq {D s : List (Nat × DV)} : ∀ {ss : List (Nat ⊕ Nat)} {nd : List (Nat × DV)}, NeedIs D s ss nd → needOf D.reverse s ss = nd
  | _, _, .nil => rfl
  | _, _, .inl (j := j) k t d hk h r => by
    have e : D.reverse[j]? = some (t, d) := by rw [List.getElem?_reverse (by omega), show D.length - 1 - j = k by omega, h]
    simp only [needOf, e, r.eq]
  | _, _, .inr d h k => by simp only [needOf, h, k.eq]
inductive DOk (C : Ctx) (ops : Array Oper) (n : Nat) (H : DHeap) (s : List (Nat × DV)) : List (Nat × DV) → List Oper → List (List (Nat ⊕ Nat)) → List (Nat × DV) → Prop
  | nil {D : List (Nat × DV)} : DOk C ops n H s D [] [] []
  | cons {D E nd : List (Nat × DV)} {o : Oper} {os : List Oper} {ss : List (Nat ⊕ Nat)} {sss : List (List (Nat ⊕ Nat))} (t : Nat) (d : DV) (hj : inlB D.length ss = true) (hn : NeedIs D s ss nd)
      (h : ∀ rest, SOps C ops [o] ⟨n, nd ++ rest, H⟩ (fun st' => st' = ⟨n, (t, d) :: (nd ++ rest), H⟩)) (k : DOk C ops n H s ((t, d) :: D) os sss E) :
      DOk C ops n H s D (o :: os) (ss :: sss) ((t, d) :: E)
theorem needOf_more {D E s : List (Nat × DV)} : ∀ {ss : List (Nat ⊕ Nat)}, inlB D.length ss = true → needOf (D ++ E) s ss = needOf D s ss
  | [], _ => rfl
  | .inl j :: r, h => by
    simp only [inlB, List.all_cons, Bool.and_eq_true] at h
    have hj := Nat.le_of_ble_eq_true h.1
    simp only [needOf, List.getElem?_append_left (show j < D.length from hj), needOf_more (E := E) (s := s) (ss := r) h.2]
  | .inr t :: r, h => by
    simp only [inlB, List.all_cons, Bool.and_eq_true] at h
    simp only [needOf, needOf_more (E := E) (s := s) (ss := r) h.2]
theorem DOk.ops {C : Ctx} {ops : Array Oper} {n : Nat} {H : DHeap} {s : List (Nat × DV)} : ∀ {D E : List (Nat × DV)} {os : List Oper} {sss : List (List (Nat ⊕ Nat))}, DOk C ops n H s D os sss E → OpsOk C ops n H os (sss.map (needOf (D.reverse ++ E) s)) E
  | _, _, _, _, .nil => OpsOk.nil
  | D, _, _, _, .cons (E := E) t d hj hn h k => by
    rw [List.map_cons, needOf_more (by rw [List.length_reverse]; exact hj), hn.eq]
    have e : D.reverse ++ (t, d) :: E = ((t, d) :: D).reverse ++ E := by simp
    rw [e]
    exact OpsOk.cons h k.ops
theorem SCode.drawAuto {C : Ctx} {id : Nat} {l : List Oper} {n : Nat} {s : List (Nat × DV)} {H : DHeap} {Q : Exit → St → Prop} {E : List (Nat × DV)} (hm : C.P.follows .mixedOrders = true) (ts : List Nat) (srcs : List (List (Nat ⊕ Nat)))
    (hB : drawB l ts srcs = true) (hd : distB ts = true) (hops : DOk C l.toArray n H s [] l srcs E) (hts : E.map (·.1) = ts) (hQ : Q .normal ⟨n, E ++ s, H⟩) : SCode C (.region id l.toArray true) ⟨n, s, H⟩ Q :=
  SCode.drawPure hm E ts srcs _ hts hB hd rfl hops.ops hQ
end Go.GH
namespace Go.GH
open Go

theorem rep_tup0 {w : World} {F : Nat → Prop} {v : Value} {d d' : DV} {ds : List DV} (hd : ∀ (w : World) (F : Nat → Prop) (v : Value), Rep w F v d → Rep w F v d') (h : Rep w F v (.tup (d :: ds))) : Rep w F v (.tup (d' :: ds)) := by
  cases h with
  | tup hl hr =>
    refine .tup (by simpa using hl) (fun j x e hj he => ?_)
    cases j with
    | zero => simp only [List.getElem?_cons_zero, Option.some.injEq] at he; subst he; exact hd _ _ _ (hr 0 x d hj rfl)
    | succ j => exact hr (j + 1) x e hj (by simpa using he)
end Go.GH
namespace Go.GH
open Go Go.RowKit

/-- The same rules with, or without, own blocks from before. -/
abbrev Ctx.imp (C : Ctx) : Ctx := ⟨C.P, C.E, false⟩
abbrev Ctx.pur (C : Ctx) : Ctx := ⟨C.P, C.E, true⟩
theorem Act.eval_with (a : Act) (ds : List Deferred) : ({ a with defers := ds } : Act).eval = a.eval := by funext x; cases x <;> rfl
theorem upon_marks {P : Program} {o : Oper} {a : Act} {K K' : Act → World → Prop} {Q : Exit → Act → World → Prop} (ds : List Deferred) (hK : ∀ a w, K a w → K' { a with defers := a.defers ++ ds } w) :
    ∀ r : Result Next, o.upon P a K Q r → o.upon P { a with defers := a.defers ++ ds } K' (fun e a' w' => ∃ a0 : Act, a' = { a0 with defers := a0.defers ++ ds } ∧ Q e a0 w') r := by
  have hput : ∀ (b : Act) (v : Value), ({ b with defers := b.defers ++ ds } : Act).put o.dst v = { (b.put o.dst v) with defers := (b.put o.dst v).defers ++ ds } := fun b v => by cases o.dst <;> rfl
  have hL : LetsOut Q → LetsOut (fun e a' w' => ∃ a0 : Act, a' = { a0 with defers := a0.defers ++ ds } ∧ Q e a0 w') := fun ⟨a, w, h⟩ => ⟨_, w, a, rfl, h⟩
  intro r h
  cases r with
  | halt x w => cases x <;> first | exact ⟨a, rfl, h⟩ | exact h.elim
  | ok x w =>
    cases x with
    | value v => rw [Oper.upon_value, hput]; exact hK _ _ h
    | skip => rw [Oper.upon_skip, hput]; exact hK _ _ h
    | defer d =>
      have h' := hK _ _ h
      rw [Oper.upon_defer]
      have e := hput { a with defers := d :: a.defers } undef
      exact e ▸ h'
    | enter f args =>
      refine Calls.mono h (fun e w' q => ?_)
      cases e with
      | returned v => dsimp only; rw [hput]; exact hK _ _ q
      | panicked c => exact ⟨a, rfl, q⟩
      | outgrown => exact hL q
    | row row args => exact Rows.mono h (fun v w' r => by rw [hput]; exact hK _ _ r)
    | _ => exact h.elim
theorem wpList_marks {P : Program} {ops : Array Oper} {Q : Exit → Act → World → Prop} (ds : List Deferred) : ∀ (l : List Oper) (a : Act) (w : World), wpList P ops Q l a w →
    wpList P ops (fun e a' w' => ∃ a0 : Act, a' = { a0 with defers := a0.defers ++ ds } ∧ Q e a0 w') l { a with defers := a.defers ++ ds } w
  | [], a, w, h => ⟨a, rfl, h⟩
  | o :: l, a, w, h => by
    have ih := wpList_marks (P := P) (ops := ops) (Q := Q) ds l
    unfold wpList at h ⊢
    by_cases hw : Region.wanted o (yielded ops a.tmps) = true
    · rw [if_pos hw] at h ⊢
      rcases h with h | ⟨h1, a0, w0, h2⟩
      · left
        unfold Oper.wp at h ⊢
        rw [Act.eval_with]
        exact upon_marks ds ih _ h
      · right
        refine ⟨?_, _, w0, a0, rfl, h2⟩
        unfold Oper.asks at h1 ⊢
        rw [Act.eval_with]
        exact h1
    · rw [if_neg hw] at h ⊢
      have := ih _ _ h
      have e : ({ a with defers := a.defers ++ ds } : Act).put o.dst undef = { (a.put o.dst undef) with defers := (a.put o.dst undef).defers ++ ds } := by cases o.dst <;> rfl
      rw [e]
      exact this

/-- A frame that bears the mark of a range over a function. -/
def SimM (C : Ctx) (base : Base) (st : St) (a : Act) (w : World) : Prop :=
  ∃ F D, SimF C.E base F st { a with defers := [] } w ∧ a.defers = [{ target := .collected D, args := #[] }] ∧ w.heap[D]? = some (.deferred (some [])) ∧ ¬ F D ∧ (∀ p ∈ st.heap, p.1 ≠ D) ∧ base.w.heap.size ≤ D
def SimB (C : Ctx) (base : Base) (m : Bool) (st : St) (a : Act) (w : World) : Prop := match m with
  | false => Sim C.E base st a w
  | true => SimM C base st a w
def SMCode (C : Ctx) (c : Code) (m : Bool) (st : St) (Q : Exit → Bool → St → Prop) : Prop :=
  ∀ base, C.ok base → ∀ a w, SimB C base m st a w → c.wp C.P (fun e a' w' => ∃ m' st', Q e m' st' ∧ SimB C base m' st' a' w') a w
def thenM (C : Ctx) (y : Code) (Q : Exit → Bool → St → Prop) : Exit → Bool → St → Prop
  | .normal, m, st => SMCode C y m st Q
  | e, m, st => Q e m st
def blockM (id : Nat) (Q : Exit → Bool → St → Prop) : Exit → Bool → St → Prop
  | .exit id', m, st => if id' = id then Q .normal m st else Q (.exit id') m st
  | e, m, st => Q e m st
section
variable {C : Ctx} {m : Bool} {st : St} {Q : Exit → Bool → St → Prop}
theorem SMCode.of {c : Code} (h : SCode C c st (fun e st' => Q e false st')) : SMCode C c false st Q :=
  fun base ok a w hs => wp_mono (h base ok a w hs) (fun _ _ _ ⟨st', q, s⟩ => ⟨false, st', q, s⟩)
theorem SMCode.ret (h : Q .ret m st) : SMCode C .ret m st Q := fun _ _ _ _ hs => wp_ret ⟨m, st, h, hs⟩
theorem SMCode.seq {x y : Code} (h : SMCode C x m st (thenM C y Q)) : SMCode C (.seq x y) m st Q := fun base ok a w hs =>
  wp_seq (wp_mono (h base ok a w hs) (fun e a' w' ⟨m', st', q, s⟩ => by
    cases e <;> first | exact q base ok a' w' s | exact ⟨m', st', q, s⟩))
/-- Ahead of the statement: code as ever. -/
theorem SMCode.seqS {x y : Code} (h : SCode C x st (fun e st' => thenM C y Q e false st')) : SMCode C (.seq x y) false st Q := SMCode.seq (SMCode.of h)
theorem SMCode.seqRS {id : Nat} {ls : List Oper} {y : Code} (h : SOps C ls.toArray ls st (fun st' => SMCode C y false st' Q)) : SMCode C (.seq (.region id ls.toArray false) y) false st Q := SMCode.seqS (SCode.region h)
theorem SimF.weakM {base : Base} {a : Act} {w : World} {st' : St} (hl : st'.Le st) (h : SimM C base st a w) : SimM C base st' a w := by
  obtain ⟨F, D, h1, h2, h3, h4, h5, h6⟩ := h
  refine ⟨F, D, h1.weaken hl, h2, h3, h4, fun p hp => ?_, h6⟩
  obtain ⟨l, k1, k2⟩ := hl.heap
  exact h5 p (k2.subset (k1.mem_iff.1 hp))
theorem SMCode.weaken {c : Code} {st' : St} (hl : st'.Le st) (h : SMCode C c m st' Q) : SMCode C c m st Q := fun base ok a w hs => by
  cases m with
  | false => obtain ⟨F, hs⟩ := hs; exact h base ok a w ⟨F, hs.weaken hl⟩
  | true => exact h base ok a w (SimF.weakM hl hs)
theorem SMCode.block {id : Nat} {c : Code} (h : SMCode C c m st (blockM id Q)) : SMCode C (.block id c) m st Q := fun base ok a w hs =>
  wp_block (wp_mono (h base ok a w hs) (fun e a' w' ⟨m', st', q, s⟩ => by
    cases e with
    | exit id' =>
      simp only [blockM, Exit.inBlock] at *
      split
      · rename_i e; rw [if_pos e] at q; exact ⟨m', st', q, s⟩
      · rename_i e; rw [if_neg e] at q; exact ⟨m', st', q, s⟩
    | _ => exact ⟨m', st', q, s⟩))
/-- A region behind the statement. -/
theorem SMCode.region {id : Nat} {ls : List Oper} (h : SOps C.imp ls.toArray ls st (fun st' => Q .normal true st')) : SMCode C (.region id ls.toArray false) true st Q := by
  intro base ok a w ⟨F, D, hs, hd, hD, hF, hH, hb⟩
  have h1 := h ⟨w, F, _⟩ (fun hp => by cases hp) _ w ⟨F, hs.rebase⟩ (fun e a' w' => e = .normal ∧ ∃ st', Q .normal true st' ∧ Sim C.E ⟨w, F, fun b => b ∈ st.heap.map (·.1)⟩ st' a' w') (fun st' a' w' r s => ⟨rfl, st', r, s⟩)
  have h2 := wpList_marks [{ target := .collected D, args := #[] }] _ _ _ h1
  have e : ({ ({ a with defers := [] } : Act) with defers := ({ a with defers := [] } : Act).defers ++ [{ target := .collected D, args := #[] }] } : Act) = a := by
    show ({ tmps := a.tmps, defers := [] ++ [_] } : Act) = a
    rw [List.nil_append, ← hd]
  rw [e] at h2
  refine wp_mono (wp_region_lit h2) ?_
  rintro e a' w' ⟨a0, rfl, rfl, st', q, F', s⟩
  have hDl := (Array.getElem?_eq_some_iff.1 hD).1
  have hk : ¬ D ∈ st.heap.map (·.1) := fun hm => by obtain ⟨p, hp, e⟩ := List.mem_map.1 hm; exact hH p hp e
  refine ⟨true, st', q, F', D, ?_, by rw [s.defers]; rfl, (s.keep.block D hDl hk).trans hD, fun hF' => ?_, fun p hp e => ?_, hb⟩
  · have e2 : ({ ({ a0 with defers := a0.defers ++ [{ target := .collected D, args := #[] }] } : Act) with defers := [] } : Act) = a0 := by
      show ({ tmps := a0.tmps, defers := [] } : Act) = a0
      rw [← s.defers]
    rw [e2]
    exact hs.back s (fun b hb => by
      obtain ⟨p, hp, rfl⟩ := List.mem_map.1 hb
      exact (hs.heap p hp).1)
  · rcases (s.lt D hF').2 with x | x
    · exact hF x
    · exact absurd hDl (Nat.not_lt.2 x)
  · rcases (s.heap p hp).1 with x | x
    · exact hk (e ▸ x)
    · rw [e] at x; exact absurd hDl (Nat.not_lt.2 x)
theorem SMCode.seqR {id : Nat} {ls : List Oper} {y : Code} (h : SOps C.imp ls.toArray ls st (fun st' => SMCode C y true st' Q)) : SMCode C (.seq (.region id ls.toArray false) y) true st Q :=
  SMCode.seq (SMCode.region h)
theorem SimF.rebaseT {E : Env} {base : Base} {F : Nat → Prop} {st : St} {a : Act} {w : World} (h : SimF E base F st a w) (T : Nat → Prop) (h1 : ∀ p ∈ st.heap, T p.1) (h2 : ∀ b, T b → b < w.heap.size) : SimF E ⟨w, F, T⟩ F st a w where
  keep := Step.refl _ _
  base_lt := h2
  sub := fun _ x => x
  lt := fun b hb => ⟨(h.lt b hb).1, .inl hb⟩
  env := h.env
  size := h.size
  slots := h.slots
  heap := fun p hp => ⟨.inl (h1 p hp), (h.heap p hp).2⟩
  keys := h.keys
  defers := h.defers
theorem SimF.keysLt {E : Env} {base : Base} {F : Nat → Prop} {st : St} {a : Act} {w : World} (h : SimF E base F st a w) {b : Nat} (hb : b ∈ st.heap.map (·.1)) : b < w.heap.size ∧ ¬ F b := by
  obtain ⟨p, hp, rfl⟩ := List.mem_map.1 hb
  exact ⟨(h.heap p hp).2.2.lt, (h.heap p hp).2.1⟩

/-- 'for x := range g { .. }', each round leaving by the body's end. -/
theorem SMCode.range {g : Operand} {p : Tmp} {asg bd : Code} {f : FuncId} {ds xs : List DV} (hg : st.val g = some (.fn f ds)) (hit : GIter C.P C.E f ds xs) (Inv : Nat → DHeap → Prop) (h0 : Inv 0 st.heap) (hp : Nat.blt p st.n = true)
    (hround : ∀ i x l H, xs[i]? = some x → Inv i H → SRound C.imp l asg ⟨st.n, (p, x) :: st.slots, H⟩ (fun e st1 => e = .normal ∧ SRound C.imp l bd st1 (fun e st2 => e = .normal ∧ Inv (i + 1) st2.heap)))
    (hdone : ∀ H, Inv xs.length H → Q .normal true ⟨st.n, st.slots, H⟩) : SMCode C (.rangeFunc g #[p] asg bd) false st Q := by
  intro base ok a w ⟨F, hs⟩
  refine (wpIn_wide (n := 0)).1 (wpIn_rangeFunc (F := Fence.wide) (n := 0) ?_)
  intro fn _
  have h3 := hs.val hg
  generalize hv : a.eval g = v at h3
  cases h3 with
  | @fn _ us _ hl hr =>
  obtain ⟨rec, hrec⟩ : ∃ rec : LoopState → Loop, rec = fun s => { state := s, pending := none, fn, tmps := a.tmps, params := #[p], assign := asg, body := bd, defers := w.heap.size } := ⟨_, rfl⟩
  obtain ⟨W1, hW1⟩ : ∃ W1, (w.alloc (.deferred (some []))).alloc (.loop (rec .ready)) = W1 := ⟨_, rfl⟩
  have hL1 : W1.heap[w.heap.size + 1]? = some (.loop (rec .ready)) := by
    rw [← hW1]; have := World.alloc_heap_new (w.alloc (.deferred (some []))) (.loop (rec .ready)); rwa [World.size_alloc] at this
  have hD1 : W1.heap[w.heap.size]? = some (.deferred (some [])) := by
    rw [← hW1]; exact (Below.heap_alloc _ _ _ (by simp)).trans (World.alloc_heap_new w _)
  have hst1 : Step (fun _ => False) w W1 := by rw [← hW1]; exact (Step.alloc _ w _).trans (Step.alloc _ _ _)
  have hne : ∀ s, (rec s).defers = w.heap.size ∧ (rec s).params = #[p] ∧ (rec s).tmps = a.tmps ∧ (rec s).state = s ∧ (rec s).pending = none ∧ (rec s).fn = fn ∧ (rec s).assign = asg ∧ (rec s).body = bd := fun s => by rw [hrec]; exact ⟨rfl, rfl, rfl, rfl, rfl, rfl, rfl, rfl⟩
  have hrs : ∀ s s', { rec s with state := s' } = rec s' := fun s s' => by rw [hrec]
  have hrs2 : ∀ s s', { rec s with state := s', pending := none } = rec s' := fun s s' => by rw [hrec]
  obtain ⟨J, hJ⟩ : ∃ J : JT, J = fun i w' F' T => ∃ H, Inv i H ∧ SimF C.E base F' ⟨st.n, st.slots, H⟩ a w' ∧ w'.heap[w.heap.size + 1]? = some (.loop (rec .ready)) ∧ w'.heap[w.heap.size]? = some (.deferred (some [])) ∧
      (∀ q ∈ H, T q.1) ∧ T (w.heap.size + 1) ∧ T w.heap.size ∧ (∀ q ∈ H, q.1 ≠ w.heap.size + 1 ∧ q.1 ≠ w.heap.size) ∧ (∀ b, T b → base.own b ∨ base.w.heap.size ≤ b) ∧ (∀ b, T b → b < w'.heap.size ∧ ¬ F' b) := ⟨_, rfl⟩
  have hbw : base.w.heap.size ≤ w.heap.size := hs.keep.size
  have hnoF : ∀ b, w.heap.size ≤ b → ¬ F b := fun b hb hF => absurd (hs.lt b hF).1 (Nat.not_lt.2 hb)
  have hKeep : YKeeps J := by
    rw [hJ]
    rintro i w1 F1 T1 w2 F2 ⟨H, hI, hs1, k1, k2, k3, k4, k5, k6, k7, k8⟩ hst hF hF2
    have hT2 : ∀ b, T1 b → b < w2.heap.size ∧ ¬ F2 b := fun b hb => ⟨Nat.lt_of_lt_of_le (k8 b hb).1 hst.size, fun x => by
      rcases (hF2 b x).2 with y | y
      · exact (k8 b hb).2 y
      · exact absurd (k8 b hb).1 (Nat.not_lt.2 y)⟩
    exact ⟨H, hI, (hs1.world hst).wider hF (fun b hb => ⟨(hF2 b hb).1, (hF2 b hb).2.imp id (fun x => Nat.le_trans hs1.keep.size x)⟩) (fun q hq => (hT2 _ (k3 q hq)).2),
      (hst.block _ (k8 _ k4).1 (fun x => x)).trans k1, (hst.block _ (k8 _ k5).1 (fun x => x)).trans k2, k3, k4, k5, k6, k7, hT2⟩
  have hRounds : YRounds C.P C.E (w.heap.size + 1) xs J := by
    intro i x hx w1 F1 T1 v hE hlt hTT hj hv1
    have hj' := hj
    rw [hJ] at hj
    obtain ⟨H, hI, hs1, k1, k2, k3, k4, k5, k6, k7, k8⟩ := hj
    have hy := run_yield (P := C.P) (args := #[v]) k1 (by rw [(hne _).2.1]; rfl)
    rw [(hne .ready).2.1, (hne .ready).2.2.1, (hne .ready).2.2.2.2.2.1, (hne .ready).2.2.2.2.2.2.1, (hne .ready).2.2.2.2.2.2.2] at hy
    refine ⟨fn, _, asg, bd, hy, roundIn_of_wpIn (F := Fence.wide) trivial ?_⟩
    clear hy
    have ha : ({ tmps := (#[p].zip #[v]).foldl (fun tmps (t, a) => tmps.setIfInBounds t a) a.tmps, defers := [] } : Act) = a.put (some p) v := by
      rw [show (#[p].zip #[v]).foldl (fun tmps (t, a) => tmps.setIfInBounds t a) a.tmps = a.tmps.setIfInBounds p v by simp]
      show _ = ({ tmps := a.tmps.setIfInBounds p v, defers := a.defers } : Act)
      rw [hs1.defers]
    rw [ha]
    have hkH : ∀ b, b ∈ H.map (·.1) → T1 b := fun b hb => by obtain ⟨q, hq, rfl⟩ := List.mem_map.1 hb; exact k3 q hq
    have hlH : ¬ (w.heap.size + 1) ∈ H.map (·.1) := fun hm => by obtain ⟨q, hq, e⟩ := List.mem_map.1 hm; exact (k6 q hq).1 e
    have hDH : ¬ w.heap.size ∈ H.map (·.1) := fun hm => by obtain ⟨q, hq, e⟩ := List.mem_map.1 hm; exact (k6 q hq).2 e
    have s1 := (hs1.rebase).put (t := p) (x := v) (d := x) (by simpa using hp) hv1
    refine wpIn_mono (hround i x (w.heap.size + 1) H hx hI ⟨w1, F1, fun b => b ∈ H.map (·.1)⟩ (fun hq => by cases hq) _ w1 ⟨F1, s1⟩) ?_
    rintro e a1 w2 ⟨st1, ⟨rfl, hb⟩, F2, s2⟩
    have hl2 : w2.heap[w.heap.size + 1]? = some (.loop (rec .ready)) := (s2.keep.block _ (k8 _ k4).1 hlH).trans k1
    have hD2 : w2.heap[w.heap.size]? = some (.deferred (some [])) := (s2.keep.block _ (k8 _ k5).1 hDH).trans k2
    have hlF2 : ∀ b, T1 b → ¬ F2 b := fun b hb x => by
      rcases (s2.lt b x).2 with y | y
      · exact (k8 b hb).2 y
      · exact absurd (k8 b hb).1 (Nat.not_lt.2 y)
    have hk1 : ∀ q ∈ st1.heap, T1 q.1 ∨ w1.heap.size ≤ q.1 := fun q hq => (s2.heap q hq).1.imp (hkH _) id
    have hl1n : ∀ q ∈ st1.heap, q.1 ≠ w.heap.size + 1 ∧ q.1 ≠ w.heap.size := fun q hq => ⟨fun e => by
        rcases (s2.heap q hq).1 with y | y
        · exact hlH (e ▸ y)
        · exact absurd (k8 _ k4).1 (Nat.not_lt.2 (e ▸ y)), fun e => by
        rcases (s2.heap q hq).1 with y | y
        · exact hDH (e ▸ y)
        · exact absurd (k8 _ k5).1 (Nat.not_lt.2 (e ▸ y))⟩
    refine ⟨_, run_beginRound hl2 (hne _).2.2.2.1, ?_⟩
    rw [hrs]
    have st2 := Step.putObj (.loop (rec .busy)) hl2 rfl
    have hlt2 := (Array.getElem?_eq_some_iff.1 hl2).1
    have s3 := ((s2.rebaseT (fun b => b ∈ st1.heap.map (·.1) ∨ b = w.heap.size + 1) (fun q hq => .inl (List.mem_map.2 ⟨q, hq, rfl⟩)) (fun b hb => hb.elim (fun h => (s2.keysLt h).1) (fun h => h ▸ hlt2))).stepT st2 (fun b hF e => hlF2 _ k4 (e ▸ hF)) (fun q hq e => (hl1n q hq).1 e) (fun b e => .inl (.inr e))).rebase
    have hl3 : (w2.putObj (w.heap.size + 1) (.loop (rec .busy))).heap[w.heap.size + 1]? = some (.loop (rec .busy)) := World.putObj_heap_same hlt2
    have hD3 : (w2.putObj (w.heap.size + 1) (.loop (rec .busy))).heap[w.heap.size]? = some (.deferred (some [])) := (World.putObj_heap_other (by omega)).trans hD2
    have hl1k : ¬ (w.heap.size + 1) ∈ st1.heap.map (·.1) := fun hm => by obtain ⟨q, hq, e⟩ := List.mem_map.1 hm; exact (hl1n q hq).1 e
    have hD1k : ¬ w.heap.size ∈ st1.heap.map (·.1) := fun hm => by obtain ⟨q, hq, e⟩ := List.mem_map.1 hm; exact (hl1n q hq).2 e
    have hsz3 : w2.heap.size ≤ (w2.putObj (w.heap.size + 1) (.loop (rec .busy))).heap.size := st2.size
    generalize w2.putObj (w.heap.size + 1) (.loop (rec .busy)) = W3 at *
    refine wpIn_mono (hb ⟨W3, F2, _⟩ (fun hq => by cases hq) a1 W3 ⟨F2, s3⟩) ?_
    rintro e a2 w4 ⟨st2', ⟨rfl, hI2⟩, F4, s4⟩
    have hl4 : w4.heap[w.heap.size + 1]? = some (.loop (rec .busy)) := (s4.keep.block _ (Array.getElem?_eq_some_iff.1 hl3).1 hl1k).trans hl3
    have hD4 : w4.heap[w.heap.size]? = some (.deferred (some [])) := (s4.keep.block _ (Array.getElem?_eq_some_iff.1 hD3).1 hD1k).trans hD3
    refine ⟨_, _, run_endRound none hl4, rfl, ?_⟩
    rw [show ({ rec .busy with state := if (none : Option Code).isNone then .ready else .done, pending := none } : Loop) = rec .ready from hrs2 _ _]
    have st5 := Step.putObj (.loop (rec .ready)) hl4 rfl
    have hlt4 := (Array.getElem?_eq_some_iff.1 hl4).1
    have hl5 : (w4.putObj (w.heap.size + 1) (.loop (rec .ready))).heap[w.heap.size + 1]? = some (.loop (rec .ready)) := World.putObj_heap_same hlt4
    have hD5 : (w4.putObj (w.heap.size + 1) (.loop (rec .ready))).heap[w.heap.size]? = some (.deferred (some [])) := (World.putObj_heap_other (by omega)).trans hD4
    generalize w4.putObj (w.heap.size + 1) (.loop (rec .ready)) = W5 at *
    have hw12 : w1.heap.size ≤ w2.heap.size := s2.keep.size
    have hw34 : W3.heap.size ≤ w4.heap.size := s4.keep.size
    have hF14 : ∀ b, F1 b → F4 b := fun b hb => s4.sub b (s2.sub b hb)
    have hF41 : ∀ b, F4 b → b < W5.heap.size ∧ (F1 b ∨ w1.heap.size ≤ b) := fun b hb => ⟨Nat.lt_of_lt_of_le (s4.lt b hb).1 st5.size, by
      rcases (s4.lt b hb).2 with y | y
      · exact (s2.lt b y).2
      · exact .inr (by have : W3.heap.size ≤ b := y; omega)⟩
    have hT1F : ∀ b, T1 b → ¬ F4 b := fun b hb x => by
      rcases (hF41 b x).2 with y | y
      · exact (k8 b hb).2 y
      · exact absurd (k8 b hb).1 (Nat.not_lt.2 y)
    have hk2 : ∀ q ∈ st2'.heap, T1 q.1 ∨ w1.heap.size ≤ q.1 := fun q hq => by
      rcases (s4.heap q hq).1 with y | y
      · obtain ⟨q', hq', e⟩ := List.mem_map.1 y
        rw [← e]; exact hk1 q' hq'
      · exact .inr (by have : W3.heap.size ≤ q.1 := y; omega)
    have hk2n : ∀ q ∈ st2'.heap, q.1 ≠ w.heap.size + 1 ∧ q.1 ≠ w.heap.size := fun q hq => by
      have hl3' := (Array.getElem?_eq_some_iff.1 hl3).1
      refine ⟨fun e => ?_, fun e => ?_⟩
      · rcases (s4.heap q hq).1 with y | y
        · exact hl1k (e ▸ y)
        · have : W3.heap.size ≤ q.1 := y; omega
      · rcases (s4.heap q hq).1 with y | y
        · exact hD1k (e ▸ y)
        · have : W3.heap.size ≤ q.1 := y; omega
    have hT' : ∀ b, (b ∈ st2'.heap.map (·.1) ∨ b = w.heap.size + 1 ∨ b = w.heap.size) → b < W5.heap.size ∧ ¬ F4 b ∧ (T1 b ∨ w1.heap.size ≤ b) := fun b hb => by
      rcases hb with hb | rfl | rfl
      · obtain ⟨q, hq, rfl⟩ := List.mem_map.1 hb
        exact ⟨Nat.lt_of_lt_of_le (s4.heap q hq).2.2.lt st5.size, (s4.heap q hq).2.1, hk2 q hq⟩
      · exact ⟨(Array.getElem?_eq_some_iff.1 hl5).1, hT1F _ k4, .inl k4⟩
      · exact ⟨(Array.getElem?_eq_some_iff.1 hD5).1, hT1F _ k5, .inl k5⟩
    have kall : Step T1 w1 W5 := by
      refine Step.then (Step.then (Step.then (s2.keep.mono (fun i _ h => hkH i h)) st2 (fun i hi e => e ▸ k4)) s4.keep (fun i hi hb => ?_)) st5 (fun i hi e => e ▸ k4)
      obtain ⟨q, hq, rfl⟩ := List.mem_map.1 hb
      rcases hk1 q hq with y | y
      · exact y
      · exact absurd hi (Nat.not_lt.2 y)
    have hown : ∀ b, (T1 b ∨ w1.heap.size ≤ b) → base.own b ∨ base.w.heap.size ≤ b := fun b hb => hb.elim (k7 b) (fun y => .inr (Nat.le_trans hs1.keep.size y))
    refine ⟨F4, _, hF14, hF41, hT', kall, ?_⟩
    rw [hJ]
    have hblk : ∀ b, F1 b → W5.heap[b]? = w1.heap[b]? := fun b hb => kall.block b (hlt b hb) (fun ht => (k8 b ht).2 hb)
    refine ⟨st2'.heap, hI2, ?_, hl5, hD5, fun q hq => .inl (List.mem_map.2 ⟨q, hq, rfl⟩), .inr (.inl rfl), .inr (.inr rfl), hk2n, fun b hb => hown b (hT' b hb).2.2, fun b hb => ⟨(hT' b hb).1, (hT' b hb).2.1⟩⟩
    exact {
      keep := hs1.keep.then kall (fun i hi hb => (k7 i hb).resolve_right (by omega))
      base_lt := hs1.base_lt
      sub := fun b hb => hF14 b (hs1.sub b hb)
      lt := fun b hb => ⟨(hF41 b hb).1, (hF41 b hb).2.elim (fun y => (hs1.lt b y).2) (fun y => .inr (Nat.le_trans hs1.keep.size y))⟩
      env := C.E.mono hblk hF14 hs1.env
      size := hs1.size
      slots := fun t d ht => ⟨(hs1.slots t d ht).1, (hs1.slots t d ht).2.mono hblk kall.shape hF14⟩
      heap := fun q hq => by
        obtain ⟨y1, y2, y3⟩ := s4.heap q hq
        exact ⟨hown _ (hk2 q hq), y2, y3.mono (st5.block _ y3.lt (fun e => (hk2n q hq).1 e)) (fun b hb => st5.block b (s4.lt b hb).1 (fun e => hT1F _ k4 (e ▸ hb))) st5.shape (fun _ x => x)⟩
      keys := s4.keys
      defers := hs1.defers }
  have hJ0 : J 0 W1 F (fun b => b ∈ st.heap.map (·.1) ∨ b = w.heap.size + 1 ∨ b = w.heap.size) := by
    rw [hJ]
    have hlt1 := (Array.getElem?_eq_some_iff.1 hL1).1
    refine ⟨st.heap, h0, hs.world hst1, hL1, hD1, fun q hq => .inl (List.mem_map.2 ⟨q, hq, rfl⟩), .inr (.inl rfl), .inr (.inr rfl), fun q hq => ?_, fun b hb => ?_, fun b hb => ?_⟩
    · have := (hs.heap q hq).2.2.lt
      omega
    · rcases hb with hb | rfl | rfl
      · obtain ⟨q, hq, rfl⟩ := List.mem_map.1 hb; exact (hs.heap q hq).1
      · exact .inr (by omega)
      · exact .inr (by omega)
    · rcases hb with hb | rfl | rfl
      · exact ⟨Nat.lt_of_lt_of_le (hs.keysLt hb).1 hst1.size, (hs.keysLt hb).2⟩
      · exact ⟨hlt1, hnoF _ (by omega)⟩
      · exact ⟨by omega, hnoF _ (by omega)⟩
  refine ⟨w.heap.size + 1, [{ target := .collected w.heap.size, args := #[] }], W1, { target := .fn (.func f) us, args := #[.func (.yield (w.heap.size + 1)) #[] #[]] }, W1, f, #[.func (.yield (w.heap.size + 1)) #[] #[]] ++ us, W1, ?_, ?_, fun _ _ => trivial, ?_, fun e => by simp [Fence.wide] at e, ?_⟩
  · rw [← hW1, hrec]; exact run_enterLoop_outer _ _ _ _ _
  · simp only [resolve, hv]
    simp [go_sem]
  · simp only [invoke]
    exact run_callFunc hit.1 _ _
  · refine (callsIn_wide (n := 0 - 1)).2 (Calls.mono (hit.2 (w.heap.size + 1) J W1 F _ us hKeep hRounds (hs.world hst1).env (fun b hb => ((hs.world hst1).lt b hb).1) (fun b hb => ?_) hJ0 hl (fun j x d h1 h2 => (hr j x d h1 h2).mono (fun b hb => hst1.block b (hs.lt b hb).1 (fun x => x)) hst1.shape (fun _ x => x))) ?_)
    · have := hJ0
      rw [hJ] at this
      obtain ⟨_, _, _, _, _, _, _, _, _, _, k8⟩ := this
      exact k8 b hb
    · rintro e w5 ⟨⟨v, rfl⟩, F5, T5, hj⟩
      rw [hJ] at hj
      obtain ⟨H, hI, hs1, k1, k2, k3, k4, k5, k6, k7, k8⟩ := hj
      refine ⟨none, _, (run_endLoop k1 (by rw [(hne _).2.2.2.1]; simp)).trans (by rw [(hne .ready).2.2.2.2.1]), true, _, hdone H hI, F5, w.heap.size, ?_, by rw [hs.defers]; rfl, (World.putObj_heap_other (by omega)).trans k2, (k8 _ k5).2, fun q hq => (k6 q hq).2, hbw⟩
      have e : ({ ({ a with defers := [{ target := .collected w.heap.size, args := #[] }] ++ a.defers } : Act) with defers := [] } : Act) = a := by
        show ({ tmps := a.tmps, defers := [] } : Act) = a
        rw [← hs.defers]
      rw [e]
      exact hs1.stepT (T := (· = w.heap.size + 1)) (Step.putObj _ k1 rfl) (fun b hF e => (k8 _ k4).2 (e ▸ hF)) (fun q hq e => (k6 q hq).1 e) (fun b e => k7 b (e ▸ k4))

/-! ### a piece that leaves the own blocks as they are -/
theorem upon_mono {P : Program} {o : Oper} {a : Act} {K K' : Act → World → Prop} {Q Q' : Exit → Act → World → Prop} (hK : ∀ a w, K a w → K' a w) (hQ : ∀ e a w, e ≠ .normal → Q e a w → Q' e a w) :
    ∀ r : Result Next, o.upon P a K Q r → o.upon P a K' Q' r := by
  have hL : LetsOut Q → LetsOut Q' := fun ⟨a, w, h⟩ => ⟨a, w, hQ _ _ _ (by simp) h⟩
  intro r h
  cases r with
  | halt x w => cases x <;> first | exact hQ _ _ _ (by simp) h | exact h.elim
  | ok x w =>
    cases x with
    | value v => exact hK _ _ h
    | skip => exact hK _ _ h
    | defer d => exact hK _ _ h
    | enter f args =>
      refine Calls.mono h (fun e w' q => ?_)
      cases e with
      | returned v => exact hK _ _ q
      | panicked c => exact hQ _ _ _ (by simp) q
      | outgrown => exact hL q
    | row row args => exact Rows.mono h (fun v w' r => hK _ _ r)
    | _ => exact h.elim
theorem SOps.frame1 {o : Oper} {rest : List Oper} {ops : Array Oper} {R : St → Prop} {n1 : Nat} {sl1 : List (Nat × DV)} (h : SOps C.pur ops [o] ⟨st.n, st.slots, []⟩ (fun st' => st' = ⟨n1, sl1, []⟩)) (k : SOps C ops rest ⟨n1, sl1, st.heap⟩ R) : SOps C ops (o :: rest) st R := by
  intro base ok a w ⟨F, hs⟩ Q hQ
  have s0 : SimF C.E ⟨w, F, fun _ => False⟩ F ⟨st.n, st.slots, []⟩ a w := { (hs.rebase.weaken (st' := ⟨st.n, st.slots, []⟩) ⟨rfl, fun t d ht => .inl ht, [], .refl _, List.nil_sublist _⟩) with
    keep := Step.refl _ _
    base_lt := fun b hb => hb.elim
    heap := fun p hp => by cases hp }
  have h1 := h ⟨w, F, fun _ => False⟩ (fun _ b hb => hb) a w ⟨F, s0⟩ (fun e a' w' => e = .normal ∧ wpList C.P ops Q rest a' w') (fun st' a' w' r ⟨F', s⟩ => ⟨rfl, by
    subst r
    refine k base ok a' w' ⟨F', ?_⟩ Q hQ
    have s2 := hs.back s (fun b hb => hb.elim)
    have hT : ∀ p ∈ st.heap, ¬ F' p.1 := fun p hp hF' => by
      rcases (s.lt p.1 hF').2 with x | x
      · exact (hs.heap p hp).2.1 x
      · exact absurd (hs.heap p hp).2.2.lt (Nat.not_lt.2 x)
    exact { s2 with
      heap := fun p hp => by
        obtain ⟨y1, y2, y3⟩ := hs.heap p hp
        exact ⟨y1, hT p hp, y3.mono (s.keep.block _ y3.lt (fun x => x)) (fun b hb => s.keep.block b (hs.lt b hb).1 (fun x => x)) s.keep.shape s.sub⟩
      keys := hs.keys }⟩)
  unfold wpList at h1 ⊢
  by_cases hw : Region.wanted o (yielded ops a.tmps) = true
  · rw [if_pos hw] at h1 ⊢
    rcases h1 with h1 | ⟨h2, a0, w0, h3⟩
    · exact .inl (upon_mono (fun a w q => q.2) (fun e a w he q => absurd q.1 he) _ h1)
    · cases h3.1
  · rw [if_neg hw] at h1 ⊢
    exact h1.2
/-- A box that holds a map which is written no more. -/
theorem SOps.freezePinMap {ops : Array Oper} {l : List Oper} {R : St → Prop} {t : Nat} (i : Nat) {b : Nat} {es : List (Value × DV)} (hp : C.pu = true) (hi : st.heap[i]? = some (b, .map es)) (hd : st.get t = some (.ipin [.mp b]))
    (h : SOps C ops l ⟨st.n, (t, .ipin [.imap es]) :: st.slots, st.heap.eraseIdx i⟩ R) : SOps C ops l st R :=
  SOps.letGoAs i hp hi hd (fun w F v ho hv => by
    obtain ⟨ents, clock, k1, k2, k3⟩ := ho
    cases hv with
    | ipin xs hF hc hr =>
      refine .ipin xs (.inl hF) (fun j d hj => ?_) (fun j d hj => ?_)
      · cases j with
        | zero => exact hc 0 (.mp b) rfl
        | succ j => cases hj
      · cases j with
        | zero =>
          obtain rfl := Option.some.inj hj
          have h0 := hr 0 (.mp b) rfl
          generalize xs 0 = x at h0
          cases h0 with
          | mp =>
            refine .imap (fun i => ((ents[i]?).map (·.val)).getD undef) (.inr rfl) k1 k2 (fun i p hp => ?_) (fun i p hp => ?_)
            · obtain ⟨e, he, hk, _⟩ := k3 i p hp
              simp [he, hk]
            · obtain ⟨e, he, _, hr'⟩ := k3 i p hp
              simp only [he, Option.map_some, Option.getD_some]
              exact hr'.mono (fun _ _ => rfl) (fun _ _ x => x) (fun _ x => .inl x)
        | succ j => cases hj) h

/-- The contract of a function that holds a range over a function. -/
theorem GCall.bodyM {f : FuncId} {fn : Func} {c : Code} {ds : List DV} {H : DHeap} {R : DV → DHeap → Prop} (hf : C.P.funcs[f]? = some fn) (hb : fn.body = some c)
  (hpu : C.pu = true → H = []) (hname : (fn.name == "runtime.NumGoroutine") = false) (hn : Nat.ble ds.length fn.ntmps = true)
  (h : SMCode C c false (St.init fn.ntmps ds H) (fun e _ st => endQ C.P fn.results R e st)) : GCall C.P C.E f ds H R := by
 refine ⟨by simp [hasBody, hf, hb, hname], ?_⟩
 intro w F vs hE hF hvs hr hH hk
 have hn' := Nat.le_of_ble_eq_true hn
 refine callsIn_wide.1 (callsIn_of_wp_marks (F := Fence.wide) (n := 0) hf hb trivial ?_)
 have hsim : SimF C.E ⟨w, F, fun b => b ∈ H.map (·.1)⟩ F (St.init fn.ntmps ds H) { tmps := vs ++ Array.replicate (fn.ntmps - vs.size) undef, defers := [] } w := {
  keep := Step.refl _ _
  base_lt := fun b hb => by
   obtain ⟨p, hp, rfl⟩ := List.mem_map.1 hb
   exact (hH p hp).2.lt
  sub := fun _ h => h
  lt := fun b hb => ⟨hF b hb, .inl hb⟩
  env := hE
  size := by simp [hvs, St.init]; omega
  slots := fun t d ht => by
   obtain ⟨_, h2⟩ := enum_get ds 0 t d ht
   simp only [Nat.sub_zero] at h2
   have hlt := (List.getElem?_eq_some_iff.1 h2).1
   refine ⟨Nat.lt_of_lt_of_le hlt hn', ?_⟩
   have hlt' : t < vs.size := hvs ▸ hlt
   have e : (vs ++ Array.replicate (fn.ntmps - vs.size) undef).getD t undef = vs[t] := by
    simp [Array.getD_eq_getD_getElem?, Array.getElem?_append, hlt']
   rw [e]
   exact hr t _ d (Array.getElem?_eq_getElem hlt') h2
  heap := fun p hp => ⟨.inl (List.mem_map.2 ⟨p, hp, rfl⟩), (hH p hp).1, (hH p hp).2⟩
  keys := hk
  defers := rfl }
 have hok : C.ok ⟨w, F, fun b => b ∈ H.map (·.1)⟩ := fun hp b hb => by rw [hpu hp] at hb; cases hb
 refine wpIn_wide.2 (wp_mono (h _ hok _ _ ⟨F, hsim⟩) ?_)
 rintro e a' w' ⟨m', st', q, s⟩
 have fin : ∀ d, Res C.P st' fn.results d → R d st'.heap → LeavesInM Fence.wide 0 C.P fn a'.tmps (CPost C.E w F H R) a'.defers .returning w' := fun d hres hR => by
  cases m' with
  | false =>
   obtain ⟨F', s⟩ := s
   obtain ⟨x, hx, hrep⟩ := run_results s hres
   rw [s.defers]
   exact ⟨x, hx, x, d, st'.heap, F', rfl, hR, s.sub, s.lt, hrep, s.heap, s.keys, s.keep⟩
  | true =>
   obtain ⟨F', D, s, hd, hD, hFD, hH', hbD⟩ := s
   have k := Step.putObj (.deferred none) hD rfl
   have s2 := s.stepT k (fun b hF e => hFD (e ▸ hF)) (fun q hq e => hH' q hq e) (fun b e => .inr (e ▸ hbD))
   obtain ⟨x, hx, hrep⟩ := run_results s2 hres
   rw [hd]
   exact ⟨by simp, .inl ⟨D, _, rfl, run_takeDeferred hD, x, hx, x, d, st'.heap, F', rfl, hR, s2.sub, s2.lt, hrep, s2.heap, s2.keys, s2.keep⟩⟩
 cases e with
 | normal => obtain ⟨d, h1, h2⟩ := q; exact fin d h1 h2
 | ret => obtain ⟨d, h1, h2⟩ := q; exact fin d h1 h2
 | _ => exact q.elim
end
/-- A row that the call has grown is let go with its result. -/
theorem GCall.cleanAcc {P : Program} {E : Env} {f : FuncId} {ds : List DV} {e sz : Nat} {x : DV} {es : List (List DV)} (h : GCall P E f ds [] (fun d H => ∃ k, d = .tup [accD sz k es, x] ∧ ∀ p ∈ accH e sz k es, p ∈ H)) : GCall P E f ds [] (fun d H => d = .tup [.isl false sz es, x] ∧ H = []) :=
  ⟨h.1, fun w F vs hE hF hl hr h1 h2 => (h.2 w F vs hE hF hl hr h1 h2).mono (fun e' w' ⟨u, d, H', F', e1, e2, e3, e4, e5, e6, e7, e8⟩ => by
    obtain ⟨k, rfl, hk⟩ := e2
    cases es with
    | nil => exact ⟨u, _, [], F', e1, ⟨rfl, rfl⟩, e3, e4, rep_tup0 (fun _ _ _ h => nil_isl h) e5, (fun p hp => by cases hp), List.nodup_nil, e8⟩
    | cons y ys =>
      obtain ⟨p1, p2, p3⟩ := e6 _ (hk _ (List.mem_cons_self ..))
      have p1' : w.heap.size ≤ k := p1.resolve_left (fun hm => by cases hm)
      refine ⟨u, _, [], fun c => F' c ∨ c = k, e1, ⟨rfl, rfl⟩, fun b hb => .inl (e3 b hb), fun b hb => ?_, ?_, (fun p hp => by cases hp), List.nodup_nil, e8⟩
      · rcases hb with hb | rfl
        · exact e4 b hb
        · exact ⟨p3.lt, .inr p1'⟩
      · cases e5 with
        | tup hl' hr' =>
          refine .tup (by simpa using hl') (fun j x' d' hj hd' => ?_)
          cases j with
          | zero =>
            simp only [List.getElem?_cons_zero, Option.some.injEq] at hd'
            subst hd'
            exact rep_row p3 (hr' 0 x' _ hj rfl)
          | succ j => exact (hr' (j + 1) x' d' hj (by simpa using hd')).mono (fun _ _ => rfl) (fun _ _ h => h) (fun _ h => .inl h))⟩
end Go.GH
namespace Go.GH
open Go

abbrev Ids := Nat → Nat
/-- A chain: its operations, and what its memory is after so many of them. -/
structure Chn where
  T : List Nat
  Y : List Nat → Nat → DHeap
def Chn.X (x : Chn) (b : Ids) (c : Nat) : DHeap := x.Y (x.T.map b) c
def Chn.at (L : Nat → Bool) (b : Ids) (x : Chn) : DHeap := x.X b (cntL L x.T)
def chnH (L : Nat → Bool) (b : Ids) (xs : List Chn) : DHeap := (xs.map (Chn.at L b)).flatten
inductive NeedG (D : List (Ids → ORes)) (s : List (Nat × DV)) (b : Ids) : List (Nat ⊕ Nat) → List (Nat × DV) → Prop
  | nil : NeedG D s b [] []
  | inl {j : Nat} {ss : List (Nat ⊕ Nat)} {nd : List (Nat × DV)} {r : Ids → ORes} (k t : Nat) (d : DV) (hk : k + j + 1 = D.length) (h : D[k]? = some r) (h2 : r b = some (t, d)) (q : NeedG D s b ss nd) : NeedG D s b (.inl j :: ss) ((t, d) :: nd)
  | inr {t : Nat} {ss : List (Nat ⊕ Nat)} {nd : List (Nat × DV)} (d : DV) (h : getL s t = some d) (q : NeedG D s b ss nd) : NeedG D s b (.inr t :: ss) ((t, d) :: nd)
/-- What each operation does. 'none': it reads alone; 'some (m, c)': it is number c of chain m. -/
inductive GOk (C : Ctx) (ops : Array Oper) (n : Nat) (base : DHeap) (s : List (Nat × DV)) (xs : List Chn) : List (Ids → ORes) → List Oper → List (List (Nat ⊕ Nat)) → List (Option (Nat × Nat)) → List (List Nat) → List (Ids → ORes) → Prop
  | nil {D : List (Ids → ORes)} : GOk C ops n base s xs D [] [] [] [] []
  | pure {D E : List (Ids → ORes)} {o : Oper} {os : List Oper} {ss : List (Nat ⊕ Nat)} {sss : List (List (Nat ⊕ Nat))} {cls : List (Option (Nat × Nat))} {Ss : List (List Nat)} (S : List Nat) (g : List Nat → ORes) {nd : Ids → List (Nat × DV)} (hj : inlB D.length ss = true) (hn : ∀ b, NeedG D s b ss (nd b))
      (h : ∀ b rest ext, SOps C ops [o] ⟨n, nd b ++ rest, base ++ ext⟩ (fun st' => st' = ⟨n, (g (S.map b)).toList ++ (nd b ++ rest), base ++ ext⟩)) (k : GOk C ops n base s xs ((fun b => g (S.map b)) :: D) os sss cls Ss E) : GOk C ops n base s xs D (o :: os) (ss :: sss) (none :: cls) (S :: Ss) ((fun b => g (S.map b)) :: E)
  | act {D E : List (Ids → ORes)} {o : Oper} {os : List Oper} {ss : List (Nat ⊕ Nat)} {sss : List (List (Nat ⊕ Nat))} {cls : List (Option (Nat × Nat))} {Ss : List (List Nat)} {m c : Nat} {x : Chn} (S : List Nat) (g : List Nat → ORes) {nd : Ids → List (Nat × DV)} (hx : xs[m]? = some x) (hc : x.T[c]? = some D.length) (hj : inlB D.length ss = true) (hn : ∀ b, NeedG D s b ss (nd b))
      (h : ∀ b rest ext, SOps C ops [o] ⟨n, nd b ++ rest, base ++ (x.X b c ++ ext)⟩ (fun st' => ∃ b', (∀ k, k ≠ D.length → b' k = b k) ∧ (⟨n, (g (S.map b')).toList ++ (nd b ++ rest), base ++ (x.X b' (c + 1) ++ ext)⟩ : St).Le st')) (k : GOk C ops n base s xs ((fun b => g (S.map b)) :: D) os sss cls Ss E) :
      GOk C ops n base s xs D (o :: os) (ss :: sss) (some (m, c) :: cls) (S :: Ss) ((fun b => g (S.map b)) :: E)
theorem needO_more {D E : List ORes} {s : List (Nat × DV)} : ∀ {ss : List (Nat ⊕ Nat)}, inlB D.length ss = true → needO (D ++ E) s ss = needO D s ss
  | [], _ => rfl
  | .inl j :: r, h => by
    simp only [inlB, List.all_cons, Bool.and_eq_true] at h
    have hj := Nat.le_of_ble_eq_true h.1
    simp only [needO, List.getElem?_append_left (show j < D.length from hj), needO_more (E := E) (s := s) (ss := r) h.2]
  | .inr t :: r, h => by
    simp only [inlB, List.all_cons, Bool.and_eq_true] at h
    simp only [needO, needO_more (E := E) (s := s) (ss := r) h.2]
theorem NeedG.eq {D : List (Ids → ORes)} {s : List (Nat × DV)} {b : Ids} : ∀ {ss : List (Nat ⊕ Nat)} {nd : List (Nat × DV)}, NeedG D s b ss nd → needO (D.reverse.map (fun r => r b)) s ss = nd
  | _, _, .nil => rfl
  | _, _, .inl (j := j) (r := r) k t d hk h h2 q => by
    have e : (D.reverse.map (fun r => r b))[j]? = some (some (t, d)) := by
      rw [List.getElem?_map, List.getElem?_reverse (by omega), show D.length - 1 - j = k by omega, h]
      simp [h2]
    simp only [needO, e, q.eq]
  | _, _, .inr d h q => by simp only [needO, h, q.eq]
/-- Operation i: its sources, its class, what it does. -/
theorem GOk.at {C : Ctx} {ops : Array Oper} {n : Nat} {base : DHeap} {s : List (Nat × DV)} {xs : List Chn} : ∀ {D E : List (Ids → ORes)} {os : List Oper} {sss : List (List (Nat ⊕ Nat))} {cls : List (Option (Nat × Nat))} {Ss : List (List Nat)}, GOk C ops n base s xs D os sss cls Ss E → ∀ (i : Nat) o, os[i]? = some o →
    ∃ (ss : List (Nat ⊕ Nat)) (cl : Option (Nat × Nat)) (r : Ids → ORes) (nd : Ids → List (Nat × DV)), sss[i]? = some ss ∧ cls[i]? = some cl ∧ E[i]? = some r ∧ (∀ b, needO ((D.reverse ++ E).map (fun r => r b)) s ss = nd b) ∧
      (cl = none → ∀ b rest ext, SOps C ops [o] ⟨n, nd b ++ rest, base ++ ext⟩ (fun st' => st' = ⟨n, (r b).toList ++ (nd b ++ rest), base ++ ext⟩)) ∧
      (∀ m c, cl = some (m, c) → ∃ x, xs[m]? = some x ∧ x.T[c]? = some (D.length + i) ∧ ∀ b rest ext, SOps C ops [o] ⟨n, nd b ++ rest, base ++ (x.X b c ++ ext)⟩ (fun st' => ∃ b', (∀ k, k ≠ D.length + i → b' k = b k) ∧ (⟨n, (r b').toList ++ (nd b ++ rest), base ++ (x.X b' (c + 1) ++ ext)⟩ : St).Le st'))
  | _, _, _, _, _, _, .nil, i, o, hi => by simp at hi
  | D, _, _, _, _, _, .pure (E := E) (ss := ss) S g (nd := nd) hj hn h k, 0, o, hi => by
    simp only [List.getElem?_cons_zero, Option.some.injEq] at hi
    subst hi
    refine ⟨ss, none, fun b => g (S.map b), nd, rfl, rfl, rfl, fun b => ?_, fun _ => h, fun m c e => by cases e⟩
    rw [List.map_append, needO_more (by simpa using hj)]
    exact (hn b).eq
  | D, _, _, _, _, _, .act (E := E) (ss := ss) (m := m) (c := c) (x := x) S g (nd := nd) hx hc hj hn h k, 0, o, hi => by
    simp only [List.getElem?_cons_zero, Option.some.injEq] at hi
    subst hi
    refine ⟨ss, some (m, c), fun b => g (S.map b), nd, rfl, rfl, rfl, fun b => ?_, (fun e => by cases e), fun m' c' e => ?_⟩
    · rw [List.map_append, needO_more (by simpa using hj)]
      exact (hn b).eq
    · simp only [Option.some.injEq, Prod.mk.injEq] at e
      obtain ⟨rfl, rfl⟩ := e
      exact ⟨x, hx, by simpa using hc, h⟩
  | D, _, _, _, _, _, .pure (E := E) S g hj hn h k, i + 1, o, hi => by
    obtain ⟨ss, cl, r', nd, h1, h2, h3, h4, h5, h6⟩ := k.at i o (by simpa using hi)
    refine ⟨ss, cl, r', nd, by simpa using h1, by simpa using h2, by simpa using h3, ?_, h5, ?_⟩
    · simpa using h4
    · simpa [Nat.add_assoc, Nat.add_comm 1 i] using h6
  | D, _, _, _, _, _, .act (E := E) S g hx hc hj hn h k, i + 1, o, hi => by
    obtain ⟨ss, cl, r', nd, h1, h2, h3, h4, h5, h6⟩ := k.at i o (by simpa using hi)
    refine ⟨ss, cl, r', nd, by simpa using h1, by simpa using h2, by simpa using h3, ?_, h5, ?_⟩
    · simpa using h4
    · simpa [Nat.add_assoc, Nat.add_comm 1 i] using h6
/-- The chains are chains; an operation is of at most one of them; what an operation yields hangs on names of such as it waits for. -/
def genB (l : List Oper) (ts : List (Option Nat)) (srcs : List (List (Nat ⊕ Nat))) (Ts : List (List Nat)) (cls : List (Option (Nat × Nat))) (Ss : List (List Nat)) (f : Nat) : Bool :=
  ordB l && distO ts && (Ts.all (fun T => distB T && T.all (fun x => Nat.blt x l.length) && (T.zip (T.drop 1)).all (fun p => memB (reqF l f p.2) p.1))) &&
  (l.zipIdx).all (fun p => match srcs[p.2]? with
    | some ss => ss.all (srcO l ts p.2 p.1)
    | none => true) &&
  (List.range l.length).all (fun i => match cls[i]? with
    | some (some (m, _)) => (Ts.zipIdx).all (fun p => Nat.beq p.2 m || !memB p.1 i)
    | some none => Ts.all (fun T => !memB T i)
    | none => false) &&
  (l.zipIdx).all (fun p => match Ss[p.2]? with
    | some S => S.all (fun k => Nat.beq k p.2 || afterB p.1 k)
    | none => false)
theorem chnH_congr {L L' : Nat → Bool} {b b' : Ids} : ∀ {xs : List Chn}, (∀ x ∈ xs, Chn.at L b x = Chn.at L' b' x) → chnH L b xs = chnH L' b' xs := fun {xs} h => by
  unfold chnH
  rw [List.map_congr_left h]
theorem chnH_out {L : Nat → Bool} {b : Ids} : ∀ {xs : List Chn} {m : Nat} {x : Chn}, xs[m]? = some x → (chnH L b xs).Perm (Chn.at L b x ++ chnH L b (xs.eraseIdx m))
  | [], _, _, h => by simp at h
  | y :: xs, 0, x, h => by
    simp only [List.getElem?_cons_zero, Option.some.injEq] at h
    subst h
    exact .refl _
  | y :: xs, m + 1, x, h => by
    have := chnH_out (L := L) (b := b) (xs := xs) (m := m) (by simpa using h)
    show (Chn.at L b y ++ chnH L b xs).Perm (Chn.at L b x ++ (Chn.at L b y ++ chnH L b (xs.eraseIdx m)))
    refine (this.append_left _).trans ?_
    rw [← List.append_assoc, ← List.append_assoc]
    exact List.Perm.append_right _ List.perm_append_comm
theorem mem_eraseIdx_ne {α : Type} {xs : List α} {m : Nat} {y : α} (h : y ∈ xs.eraseIdx m) : ∃ j, j ≠ m ∧ xs[j]? = some y := by
  rw [List.mem_eraseIdx_iff_getElem?] at h
  exact h
theorem GOk.dep {C : Ctx} {ops : Array Oper} {n : Nat} {base : DHeap} {s : List (Nat × DV)} {xs : List Chn} {D E : List (Ids → ORes)} {os : List Oper} {sss : List (List (Nat ⊕ Nat))} {cls : List (Option (Nat × Nat))} {Ss : List (List Nat)} (h : GOk C ops n base s xs D os sss cls Ss E) :
    E.length = os.length ∧ ∀ (j : Nat) r S, E[j]? = some r → Ss[j]? = some S → ∀ b b', (∀ k ∈ S, b k = b' k) → r b = r b' := by
  induction h with
  | nil => exact ⟨rfl, fun j r S h => by simp at h⟩
  | pure S g _ _ _ _ ih =>
    refine ⟨by simp [ih.1], fun j r S' h1 h2 b b' hb => ?_⟩
    cases j with
    | zero =>
      simp only [List.getElem?_cons_zero, Option.some.injEq] at h1 h2
      subst h1; subst h2
      show g (S.map b) = g (S.map b')
      rw [List.map_congr_left hb]
    | succ j => exact ih.2 j r S' (by simpa using h1) (by simpa using h2) b b' hb
  | act S g _ _ _ _ _ _ ih =>
    refine ⟨by simp [ih.1], fun j r S' h1 h2 b b' hb => ?_⟩
    cases j with
    | zero =>
      simp only [List.getElem?_cons_zero, Option.some.injEq] at h1 h2
      subst h1; subst h2
      show g (S.map b) = g (S.map b')
      rw [List.map_congr_left hb]
    | succ j => exact ih.2 j r S' (by simpa using h1) (by simpa using h2) b b' hb
theorem SCode.drawGen {C : Ctx} {id : Nat} {l : List Oper} {n : Nat} {s : List (Nat × DV)} {H : DHeap} {Q : Exit → St → Prop} {D : List (Ids → ORes)} (hm : C.P.follows .mixedOrders = true) (f : Nat) (ts : List (Option Nat)) (srcs : List (List (Nat ⊕ Nat))) (cls : List (Option (Nat × Nat))) (Ss : List (List Nat)) (base : DHeap) (xs : List Chn)
    (hB : genB l ts srcs (xs.map (·.T)) cls Ss f = true) (hH : ∀ b, (base ++ (xs.map (fun x => x.X b 0)).flatten).Perm H)
    (hops : GOk C l.toArray n base s xs [] l srcs cls Ss D) (hts : ∀ b, D.map (fun r => (r b).map (·.1)) = ts)
    (hQ : ∀ b, Q .normal ⟨n, resO (D.map (fun r => r b)) ++ s, base ++ (xs.map (fun x => x.X b x.T.length)).flatten⟩) : SCode C (.region id l.toArray true) ⟨n, s, H⟩ Q := by
  obtain ⟨hDl, hS⟩ := hops.dep
  have hX : ∀ x ∈ xs, ∀ b b', (∀ k ∈ x.T, b k = b' k) → ∀ c, x.X b c = x.X b' c := fun x _ b b' h c => by unfold Chn.X; rw [List.map_congr_left h]
  simp only [genB, Bool.and_eq_true, List.all_eq_true] at hB
  obtain ⟨⟨⟨⟨⟨hord, hdist⟩, hTs⟩, hsrc⟩, hcls⟩, hSs⟩ := hB
  have hdB : ∀ b, distO ((D.map (fun r => r b)).map (fun x => x.map (·.1))) = true := fun b => by
    have := hts b
    rw [List.map_map, show ((fun x : ORes => x.map (·.1)) ∘ fun r : Ids → ORes => r b) = (fun r => (r b).map (·.1)) from rfl, this]; exact hdist
  have hlen : ∀ i o, l[i]? = some o → ∃ r, D[i]? = some r := fun i o hi => by
    obtain ⟨_, _, r, _, _, _, h, _⟩ := hops.at i o hi
    exact ⟨r, h⟩
  have hT : ∀ x ∈ xs, x.T.Nodup ∧ (∀ y ∈ x.T, y < l.length) ∧ ∀ (j : Nat) u v, x.T[j]? = some u → x.T[j + 1]? = some v → u ∈ reqF l f v := fun x hx => by
    have := hTs x.T (List.mem_map.2 ⟨x, hx, rfl⟩)
    obtain ⟨⟨h1, h2⟩, h3⟩ := this
    refine ⟨distB_spec _ h1, fun y hy => by simpa using h2 y hy, fun j u v hu hv => ?_⟩
    have := h3 (u, v) (by
      rw [List.mem_iff_getElem?]
      refine ⟨j, ?_⟩
      rw [List.getElem?_zip_eq_some]
      exact ⟨hu, by rw [List.getElem?_drop, Nat.add_comm]; exact hv⟩)
    exact memB_iff.1 this
  refine SCode.drawAny hm hord (fun L st' => ∃ b, (⟨n, pickO L 0 (D.map (fun r => r b)) s, base ++ chnH L b xs⟩ : St).Le st') ?_ ?_ ?_
  · refine ⟨fun _ => 0, ?_⟩
    rw [pickO_false]
    refine ⟨rfl, fun t d h => .inl h, H, ?_, .refl _⟩
    have e : chnH (fun _ => false) (fun _ => 0) xs = (xs.map (fun x => x.X (fun _ => 0) 0)).flatten := by
      unfold chnH Chn.at
      congr 1
      refine List.map_congr_left (fun x _ => ?_)
      rw [show cntL (fun _ => false) x.T = 0 by simp [cntL]]
    show (base ++ chnH (fun _ => false) (fun _ => 0) xs).Perm H
    rw [e]; exact hH _
  · intro L st' i o hi hLi hinv haft hbef hcl
    obtain ⟨b, hle⟩ := hinv
    have hil := (List.getElem?_eq_some_iff.1 hi).1
    obtain ⟨ss, cl, r, nd, h1, h2, h3, h4, h5, h6⟩ := hops.at i o hi
    have hreq : ∀ x ∈ reqF l f i, L x = true := fun x hx => by
      cases f with
      | zero => simp [reqF] at hx
      | succ f =>
        simp only [reqF, hi] at hx
        rcases List.mem_append.1 hx with hx | hx
        · exact haft x (by simpa using (List.mem_filter.1 hx).2)
        · obtain ⟨js, hjs, hjx⟩ := List.mem_flatten.1 hx
          obtain ⟨y, hy, rfl⟩ := List.mem_map.1 hjs
          exact reqF_spec hcl f y (haft y (by simpa using (List.mem_filter.1 hy).2)) x hjx
    refine SOps.weaken hle ?_
    have hneed : ∀ t d, getL (nd b) t = some d → getL (pickO L 0 (D.map (fun r => r b)) s) t = some d := by
      have hn := h4 b
      simp only [List.reverse_nil, List.nil_append] at hn
      have hchk := hsrc (o, i) (by rw [List.mem_iff_getElem?]; exact ⟨i, by simp [List.getElem?_zipIdx, hi]⟩)
      simp only [h1, List.all_eq_true] at hchk
      rw [← hn]
      have key : ∀ (ss : List (Nat ⊕ Nat)), (∀ x ∈ ss, srcO l ts i o x = true) → ∀ t d, getL (needO (D.map (fun r => r b)) s ss) t = some d → getL (pickO L 0 (D.map (fun r => r b)) s) t = some d := by
        intro ss
        induction ss with
        | nil => intro _ t d h; simp [needO, getL] at h
        | cons x ss ih =>
          intro hx t d h
          have ih' := ih (fun y hy => hx y (List.mem_cons_of_mem _ hy)) t d
          have hx0 := hx x (List.mem_cons_self ..)
          cases x with
          | inl j =>
            simp only [srcO] at hx0
            simp only [needO] at h
            split at h
            · rename_i q hq
              rw [getL_cons] at h
              split at h
              · rename_i e
                subst e
                obtain rfl := Option.some.inj h
                exact pickO_some _ 0 j s q (hdB b) hq (by simpa using haft j hx0)
              · exact ih' h
            · exact ih' h
          | inr u =>
            simp only [srcO, List.all_eq_true] at hx0
            simp only [needO] at h
            split at h
            · rename_i q hq
              rw [getL_cons] at h
              split at h
              · rename_i e
                simp only at e
                subst e
                obtain rfl := Option.some.inj h
                rw [pickO_none _ 0 s (fun k p hk hp => ?_)]
                · exact hq
                · have h4 := hx0 (some p.1, k) (by
                    rw [List.mem_iff_getElem?]
                    refine ⟨k, ?_⟩
                    rw [← hts b, List.getElem?_zipIdx]
                    simp only [List.getElem?_map] at hk ⊢
                    cases hD : D[k]? with
                    | none => rw [hD] at hk; simp at hk
                    | some rr => rw [hD] at hk; simp at hk; simp [hk])
                  simp only [hp, BEq.rfl, Bool.not_true, Bool.false_or, Bool.or_eq_true] at h4
                  rw [Nat.zero_add]
                  rcases h4 with h4 | h4
                  · rw [Nat.eq_of_beq_eq_true h4]; exact hLi
                  · unfold nthB at h4
                    split at h4
                    · rename_i o' ho'
                      exact hbef k o' ho' h4
                    · cases h4
              · exact ih' h
            · exact ih' h
      exact key ss hchk
    have hnl : ∀ t, getL (nd b ++ pickO L 0 (D.map (fun r => r b)) s) t = getL (pickO L 0 (D.map (fun r => r b)) s) t := by
      intro t
      have : ∀ (nd : List (Nat × DV)), (∀ d, getL nd t = some d → getL (pickO L 0 (D.map (fun r => r b)) s) t = some d) → getL (nd ++ pickO L 0 (D.map (fun r => r b)) s) t = getL (pickO L 0 (D.map (fun r => r b)) s) t := by
        intro nd
        induction nd with
        | nil => intro _; rfl
        | cons q nd ih =>
          intro h
          rw [List.cons_append, getL_cons]
          split
          · rename_i e
            exact (h q.2 (by rw [getL_cons, if_pos e])).symm
          · rename_i e
            exact ih (fun d hd => h d (by rw [getL_cons, if_neg e]; exact hd))
      exact this (nd b) (hneed t)
    have hDi : ∀ b, (D.map (fun r => r b))[i]? = some (r b) := fun b => by simp [h3]
    -- what is known of the slots behind the operation
    have hslots : ∀ b', (∀ k, k ≠ i → b' k = b k) → ∀ t d, getL (pickO (fun k => if k = i then true else L k) 0 (D.map (fun r => r b')) s) t = some d → getL ((r b').toList ++ (nd b ++ pickO L 0 (D.map (fun r => r b)) s)) t = some d := by
      intro b' hb' t d ht
      have hcase : (∃ p, r b' = some p ∧ p.1 = t) ∨ (∀ p, r b' = some p → p.1 ≠ t) := by
        cases hr : r b' with
        | none => exact .inr (fun p h => by cases h)
        | some p =>
          by_cases e : p.1 = t
          · exact .inl ⟨p, rfl, e⟩
          · exact .inr (fun q h => by cases h; exact e)
      rcases hcase with ⟨p, hp, e⟩ | hne
      · subst e
        rw [hp]
        simp only [Option.toList_some, List.singleton_append]
        rw [getL_cons, if_pos rfl]
        rw [pickO_some _ 0 i s p (hdB b') (by rw [hDi, hp]) (by simp)] at ht
        exact ht
      · have e1 : getL ((r b').toList ++ (nd b ++ pickO L 0 (D.map (fun r => r b)) s)) t = getL (nd b ++ pickO L 0 (D.map (fun r => r b)) s) t := by
          cases hr : r b' with
          | none => rfl
          | some p => simp only [Option.toList_some, List.singleton_append]; rw [getL_cons, if_neg (hne p hr)]
        rw [e1, hnl, ← ht]
        refine pickO_set _ _ 0 (by simp) (fun k hk hLk => ?_) (fun k p hk hki => ?_) (fun k p hk hki => ?_)
        · rw [Nat.zero_add] at hk hLk
          simp only [List.getElem?_map]
          cases hDk : D[k]? with
          | none => rfl
          | some rr =>
            simp only [Option.map_some]
            congr 1
            have hkl : k < l.length := by
              rcases Nat.lt_or_ge k l.length with h | h
              · exact h
              · exfalso
                have hlt := (List.getElem?_eq_some_iff.1 hDk).1
                omega
            have hSk := hSs (l[k], k) (by rw [List.mem_iff_getElem?]; exact ⟨k, by simp [List.getElem?_zipIdx, hkl]⟩)
            cases hS' : Ss[k]? with
            | none => rw [hS'] at hSk; cases hSk
            | some S =>
              rw [hS'] at hSk
              simp only [List.all_eq_true, Bool.or_eq_true] at hSk
              refine hS k rr S hDk hS' b' b (fun u hu => hb' u (fun e => ?_))
              subst e
              rcases hSk u hu with h7 | h7
              · exact hk (Nat.eq_of_beq_eq_true h7).symm
              · rw [hcl k _ u (List.getElem?_eq_getElem hkl) hLk h7] at hLi; cases hLi
        · have : k = i := by omega
          subst this
          rw [hDi] at hk
          exact hne p (Option.some.inj hk)
        · have : k = i := by omega
          subst this
          have hb1 := hts b
          have hb2 := hts b'
          have := congrArg (fun x => x[k]?) (hb1.trans hb2.symm)
          simp only [List.getElem?_map, h3, Option.map_some, Option.some.injEq] at this
          rw [hDi] at hk
          rw [Option.some.inj hk] at this
          simp only [Option.map_some] at this
          obtain ⟨q, hq, e⟩ := Option.map_eq_some_iff.1 this.symm
          rw [← e]
          exact hne q hq
    have hci := hcls i (List.mem_range.2 hil)
    rw [h2] at hci
    cases cl with
    | none =>
      simp only [List.all_eq_true] at hci
      have hsame : ∀ x ∈ xs, Chn.at (fun k => if k = i then true else L k) b x = Chn.at L b x := fun x hx => by
        unfold Chn.at
        rw [cnt_set hLi x.T (hT x hx).1]
        have := hci x.T (List.mem_map.2 ⟨x, hx, rfl⟩)
        rw [if_neg (fun hm => by rw [memB_iff.2 hm] at this; cases this), Nat.add_zero]
      refine SOps.weaken (st' := ⟨n, nd b ++ pickO L 0 (D.map (fun r => r b)) s, base ++ chnH L b xs⟩) ⟨rfl, fun t d ht => .inl ((hnl t).symm.trans ht), _, .refl _, .refl _⟩ ((h5 rfl b (pickO L 0 (D.map (fun r => r b)) s) (chnH L b xs)).mono ?_)
      rintro st2 rfl
      exact ⟨b, rfl, fun t d ht => .inl (hslots b (fun _ _ => rfl) t d ht), _, by rw [chnH_congr hsame], .refl _⟩
    | some mc =>
      obtain ⟨m, c⟩ := mc
      obtain ⟨x, hx, hc, hstep⟩ := h6 m c rfl
      simp only [List.length_nil, Nat.zero_add] at hc hstep
      simp only [List.all_eq_true] at hci
      have hxm := List.mem_of_getElem? hx
      obtain ⟨t1, t2, t3⟩ := hT x hxm
      have hpre := cnt_prefix (L := L) x.T (fun j u v hu hv hLv => reqF_spec hcl f v hLv u (t3 j u v hu hv))
      have hcnt : cntL L x.T = c := by
        have h7 := hpre c i hc
        have h8 : ¬ c < cntL L x.T := fun h => by rw [h7.2 h] at hLi; cases hLi
        rcases Nat.eq_zero_or_pos c with h0 | h0
        · omega
        · have hlt := (List.getElem?_eq_some_iff.1 hc).1
          have h9 := t3 (c - 1) _ i (List.getElem?_eq_getElem (by omega)) (by rw [show c - 1 + 1 = c by omega]; exact hc)
          have := (hpre (c - 1) _ (List.getElem?_eq_getElem (by omega))).1 (hreq _ h9)
          omega
      have hmem : i ∈ x.T := List.mem_of_getElem? hc
      have hnot : ∀ j y, j ≠ m → xs[j]? = some y → i ∉ y.T := fun j y hj hy hm => by
        have := hci (y.T, j) (by
          rw [List.mem_iff_getElem?]
          exact ⟨j, by rw [List.getElem?_zipIdx, List.getElem?_map, hy]; simp⟩)
        simp only [Bool.or_eq_true] at this
        rcases this with h | h
        · exact hj (Nat.eq_of_beq_eq_true h)
        · rw [memB_iff.2 hm] at h; cases h
      have hat : Chn.at L b x = x.X b c := by unfold Chn.at; rw [hcnt]
      have hp := chnH_out (L := L) (b := b) hx
      rw [hat] at hp
      refine SOps.weaken (st' := ⟨n, nd b ++ pickO L 0 (D.map (fun r => r b)) s, base ++ (x.X b c ++ chnH L b (xs.eraseIdx m))⟩) ⟨rfl, fun t d ht => .inl ((hnl t).symm.trans ht), _, List.Perm.append_left _ hp.symm, .refl _⟩ ((hstep b (pickO L 0 (D.map (fun r => r b)) s) (chnH L b (xs.eraseIdx m))).mono ?_)
      rintro st2 ⟨b', hb', hle2⟩
      refine ⟨b', hle2.n, fun t d ht => ?_, ?_⟩
      · exact hle2.slots t d (hslots b' hb' t d ht)
      · obtain ⟨l2, p1, p2⟩ := hle2.heap
        refine ⟨l2, ?_, p2⟩
        refine List.Perm.trans ?_ p1
        have hp' := chnH_out (L := fun k => if k = i then true else L k) (b := b') hx
        have hat' : Chn.at (fun k => if k = i then true else L k) b' x = x.X b' (c + 1) := by
          unfold Chn.at
          rw [cnt_set hLi x.T t1, if_pos hmem, hcnt]
        have hrest : chnH (fun k => if k = i then true else L k) b' (xs.eraseIdx m) = chnH L b (xs.eraseIdx m) := chnH_congr (fun y hy => by
          obtain ⟨j, hj, hyj⟩ := mem_eraseIdx_ne hy
          have hni := hnot j y hj hyj
          have hym := List.mem_of_getElem? hyj
          unfold Chn.at
          rw [cnt_set hLi y.T (hT y hym).1, if_neg hni, Nat.add_zero]
          exact hX y hym b' b (fun k hk => hb' k (fun e => hni (e ▸ hk))) _)
        rw [hat', hrest] at hp'
        exact List.Perm.append_left _ hp'
  · intro L st' hall hinv
    obtain ⟨b, hle⟩ := hinv
    have e : chnH L b xs = (xs.map (fun x => x.X b x.T.length)).flatten := by
      unfold chnH Chn.at
      congr 1
      refine List.map_congr_left (fun x hx => ?_)
      have : cntL L x.T = x.T.length := by
        unfold cntL
        rw [List.filter_eq_self.2 (fun y hy => hall y ((hT x hx).2.1 y hy))]
      rw [this]
    rw [pickO_all _ 0 (fun k _ hk => hall k (by simp at hk; omega)), e] at hle
    exact ⟨_, hle, hQ b⟩
theorem SCode.drawG {C : Ctx} {id : Nat} {l : List Oper} {n : Nat} {s : List (Nat × DV)} {H : DHeap} {Q : Exit → St → Prop} {D : List (Ids → ORes)} (f : Nat) (ts : List (Option Nat)) (srcs : List (List (Nat ⊕ Nat))) (Ts : List (List Nat)) (cls : List (Option (Nat × Nat))) (Ss : List (List Nat)) (base : DHeap) (xs : List Chn) (hm : C.P.follows .mixedOrders = true)
    (hB : genB l ts srcs Ts cls Ss f = true) (hT : xs.map (·.T) = Ts) (hH : ∀ b, (base ++ (xs.map (fun x => x.X b 0)).flatten).Perm H)
    (hops : GOk C l.toArray n base s xs [] l srcs cls Ss D) (hts : ∀ b, D.map (fun r => (r b).map (·.1)) = ts)
    (hQ : ∀ b, Q .normal ⟨n, resO (D.map (fun r => r b)) ++ s, base ++ (xs.map (fun x => x.X b x.T.length)).flatten⟩) : SCode C (.region id l.toArray true) ⟨n, s, H⟩ Q :=
  SCode.drawGen hm f ts srcs cls Ss base xs (by rw [hT]; exact hB) hH hops hts hQ
theorem GOk.rd {C : Ctx} {ops : Array Oper} {n : Nat} {base : DHeap} {s : List (Nat × DV)} {xs : List Chn} {D E : List (Ids → ORes)} {o : Oper} {os : List Oper} {ss : List (Nat ⊕ Nat)} {sss : List (List (Nat ⊕ Nat))} {cls : List (Option (Nat × Nat))} {Ss : List (List Nat)} (t : Nat) (d : DV) {nd : Ids → List (Nat × DV)} (hj : inlB D.length ss = true) (hn : ∀ b, NeedG D s b ss (nd b))
    (h : ∀ b rest ext, SOps C ops [o] ⟨n, nd b ++ rest, base ++ ext⟩ (fun st' => st' = ⟨n, (t, d) :: (nd b ++ rest), base ++ ext⟩)) (k : GOk C ops n base s xs ((fun _ => some (t, d)) :: D) os sss cls Ss E) :
    GOk C ops n base s xs D (o :: os) (ss :: sss) (none :: cls) ([] :: Ss) ((fun _ => some (t, d)) :: E) :=
  GOk.pure [] (fun _ => some (t, d)) hj hn h k
end Go.GH
namespace Go.GH
open Go Go.RowKit

section
variable {C : Ctx} {E : Env} {base : Base} {F : Nat → Prop} {st : St} {a : Act} {w : World} {ops : Array Oper} {rest : List Oper} {R : St → Prop}
  {t : Tmp} {ty : TypeId} {pos : String} {aft : Array Edge} {g : Option (Nat × Bool)}

end
end Go.GH
namespace Go.GH
open Go Go.RowKit
section
variable {C : Ctx} {E : Env} {base : Base} {F : Nat → Prop} {st : St} {a : Act} {w : World} {ops : Array Oper} {rest : List Oper} {R : St → Prop}
  {t : Tmp} {ty : TypeId} {pos : String} {aft : Array Edge} {g : Option (Nat × Bool)}
end
theorem SCode.drawAuto1 {C : Ctx} {id : Nat} {l : List Oper} {n : Nat} {s : List (Nat × DV)} {H : DHeap} {Q : Exit → St → Prop} {E : List (Nat × DV)} {o : Oper} (m f : Nat) (hm : C.P.follows .mixedOrders = true) (ts : List Nat) (srcs : List (List (Nat ⊕ Nat)))
    (hB : drawB (l.take m) ts srcs = true) (hd : distB ts = true) (hord : ordB l = true) (hseq : seqB l m f = true) (hml : (l.take m).length = m) (hl : l.drop m = [o]) (hops : DOk C l.toArray n H s [] (l.take m) srcs E) (hts : E.map (·.1) = ts)
    (hQ : SOps C l.toArray [o] ⟨n, E ++ s, H⟩ (fun st => Q .normal st)) : SCode C (.region id l.toArray true) ⟨n, s, H⟩ Q :=
  SCode.drawSeqAt m (fun st => Q .normal st) f hm E ts srcs _ hts hB hd hord hseq hml rfl hops.ops
    (by rw [hl]; exact .cons (fun st hle => SOps.weaken hle hQ) .nil) (fun st h => ⟨st, ⟨rfl, fun t d h => .inl h, _, .refl _, List.Sublist.refl _⟩, h⟩)
end Go.GH
namespace Go.GH
open Go Go.RowKit
section
variable {C : Ctx} {st : St} {ops : Array Oper} {R : St → Prop} {t : Tmp}
end
end Go.GH
namespace Go.GH
open Go Go.Proofs
variable {E : Env}
theorem elemB_28_2_8 : elemB Tryd.prog 28 2 8 = true := by kernel_rfl
theorem placesB_28 : placesB Tryd.prog 28 [(0, 1), (1, 1)] = true := by kernel_rfl
theorem aIndices (a : List Letter)  : GCall Tryd.prog E 57 [DLs a] [] (fun d H => d = DMap a ∧ H = []) := by
 refine GCall.body (C := ⟨Tryd.prog, E, true⟩) Tryd.func57 rfl (fun _ => rfl) (by kernel_rfl) rfl ?_
 refine SCode.seqR (SOps.assign rfl (SOps.nil (SCode.seqR (SOps.move rfl (SOps.lenM rfl sliceB_22_28_2 ?_)))))
 refine SOps.makeMapN mapB_89 rfl (fun b0 hb_0 => ?_)
 refine SOps.assign rfl (SOps.nil (SCode.seq (SCode.seqR (SOps.move rfl (SOps.lenM rfl sliceB_22_28_2 (SOps.move rfl (SOps.nil (SCode.block (SCode.loop3 (fun (i : Nat) (es : List (Int × Nat)) (b : Nat) => (⟨33, [(0, DLs a), (2, .v (.map none)), (3, .mp b), (11, DLs a), (12, .v (.int .i64 (a.length : Int))), (13, .v (.int .i64 (i : Int)))], [(b, .map (es.map encE))]⟩ : St)) (fun (i : Nat) (es : List (Int × Nat)) (b : Nat) => i ≤ a.length ∧ mapFrom (a.drop i) i es = mapOf a) (fun (i : Nat) (es : List (Int × Nat)) (b : Nat) => a.length - i) (0) ([]) (b0) (by exact ⟨by omega, by rw [List.drop_zero]; rfl⟩) (St.Le.of ⟨(by first | rfl | (show some _ = some _; simp)), (by first | rfl | (show some _ = some _; simp)), (by first | rfl | (show some _ = some _; simp)), (by first | rfl | (show some _ = some _; simp)), (by first | rfl | (show some _ = some _; simp)), (by first | rfl | (show some _ = some _; simp)), trivial⟩ rfl (by first | rfl | (simp))) ?_)))))))))
 rintro i es b ⟨hi, hm⟩
 refine SCode.fact (isl_len (t := 0) rfl) (fun hB => ?_)
 simp only [List.length_map, lenB] at hB
 refine SCode.seqR (SOps.bin rfl rfl rfl (SOps.nil (SCode.seq ?_)))
 refine SCode.cond rfl (fun hc1 => ?_) (fun hc1 => ?_)
 ·try simp only [nmL] at hc1
  refine SCode.skip ?_
  show SCode _ _ _ _
  refine SCode.seq (SCode.block (SCode.seqR (SOps.move rfl (SOps.indexM (i) rfl rfl sliceB_22_28_2 (by omega) (by omega) (SOps.loadPinA rfl aggB_28_2 (Nat.le_of_ble_eq_true rfl) ?_)))))
  refine SOps.alloc (sz := 2) zeroIs_28 (fun b1 hb_1 => ?_)
  refine SOps.assign rfl (SOps.storeAM 0 rfl rfl aggB_28_2 rfl (SOps.freezeRef (t := 5) 0 0 rfl rfl rfl rfl rfl (SOps.nil (SCode.seqR (SOps.move rfl (SOps.fieldPin rfl fieldB_28_0_0 (SOps.loadPin rfl flatB_21 ?_)))))))
  refine SOps.lookupOM 0 (findE es (a[i]).rune) (fun i => DV.v (.int .i64 ((i : Nat) : Int))) rfl rfl rfl mapB_89 (keys_enc _) zeroIs_3 (lookup_enc _ _) (fun y2 hy2 => ?_) (fun hy2 => ?_)
  ·have hfe : es.any (·.1 == (a[i]).rune) = true := by cases h : es.any (·.1 == (a[i]).rune) with | true => rfl | false => rw [findE_none.2 h] at hy2; cases hy2
   refine SOps.move rfl (SOps.extract rfl rfl (SOps.extract rfl rfl (SOps.assign rfl (SOps.assign rfl (SOps.nil (SCode.seqR (SOps.move rfl (SOps.un rfl rfl (SOps.nil ?_)))))))))
   refine SCode.cond rfl (fun h => by cases h) (fun _ => ?_)
   refine SCode.skip ?_
   show SCode _ _ _ _
   refine SCode.region (SOps.addI rfl rfl (by omega) (by omega) (SOps.move rfl (SOps.nil ?_)))
   first
    | exact ⟨i + 1, _, b, ⟨by omega, by rw [← hm, mapFrom_step (show i < a.length by omega)]⟩, by omega, St.Le.of ⟨rfl, rfl, rfl, rfl, rfl, rfl, trivial⟩ rfl (congrArg (fun x => [(b, DO.map x)]) (upd_enc _ _ _ hfe).symm)⟩
    | exact ⟨i + 1, es, b, ⟨by omega, by rw [← hm, mapFrom_step (show i < a.length by omega), mapAdd, if_pos hfe]⟩, by omega, St.Le.of ⟨rfl, rfl, rfl, rfl, rfl, rfl, trivial⟩⟩
  ·have hfe := hy2
   refine SOps.move rfl (SOps.extract rfl rfl (SOps.extract rfl rfl (SOps.assign rfl (SOps.assign rfl (SOps.nil (SCode.seqR (SOps.move rfl (SOps.un rfl rfl (SOps.nil ?_)))))))))
   refine SCode.cond rfl (fun _ => ?_) (fun h => by cases h)
   refine SCode.region (SOps.move rfl (SOps.fieldPin rfl fieldB_28_0_0 (SOps.loadPin rfl flatB_21 (SOps.move rfl (SOps.mapUpdate 0 rfl rfl rfl rfl mapB_89 rfl (keys_enc _) (SOps.nil ?_))))))
   show SCode _ _ _ _
   refine SCode.region (SOps.addI rfl rfl (by omega) (by omega) (SOps.move rfl (SOps.nil ?_)))
   first
    | exact ⟨i + 1, _, b, ⟨by omega, by rw [← hm, mapFrom_step (show i < a.length by omega)]⟩, by omega, St.Le.of ⟨rfl, rfl, rfl, rfl, rfl, rfl, trivial⟩ rfl (congrArg (fun x => [(b, DO.map x)]) (upd_enc _ _ _ hfe).symm)⟩
    | exact ⟨i + 1, es, b, ⟨by omega, by rw [← hm, mapFrom_step (show i < a.length by omega), mapAdd, if_pos hfe]⟩, by omega, St.Le.of ⟨rfl, rfl, rfl, rfl, rfl, rfl, trivial⟩⟩
 ·try simp only [nmL] at hc1
  refine SCode.exit ?_
  show SCode _ _ _ _
  refine SCode.seqR ?_
  obtain rfl : es = mapOf a := by rw [← hm, List.drop_eq_nil_of_le (by omega)]; rfl
  refine SOps.freezeMap (t := 3) 0 rfl rfl rfl (SOps.move rfl (SOps.assign rfl (SOps.nil (SCode.drop (SCode.ret ?_)))))
  exact ⟨_, Res.one (.tmp rfl), rfl, rfl⟩
theorem aIndex (a : List Letter) (r : Int)  : GCall Tryd.prog E 32 [DLs a, .v (.int .i32 r)] [] (fun d H => d = .v (.int .i64 (idxI a r)) ∧ H = []) := by
 refine GCall.body (C := ⟨Tryd.prog, E, true⟩) Tryd.func32 rfl (fun _ => rfl) (by kernel_rfl) rfl ?_
 refine SCode.seqR (SOps.assign rfl (SOps.nil (SCode.seq (SCode.seqR (SOps.move rfl (SOps.callP (aIndices _) rfl ?_))))))
 rintro _ rfl
 refine SOps.move rfl ?_
 refine SOps.lookupIM (idx a r) (fun i => DV.v (.int .i64 ((i : Nat) : Int))) rfl rfl mapB_89 (keys_enc _) zeroIs_3 (lookup_mapOf _ _) (fun y1 hy1 => ?_) (fun hy1 => ?_)
 ·refine SOps.move rfl (SOps.extract rfl rfl (SOps.extract rfl rfl (SOps.assign rfl (SOps.assign rfl (SOps.nil (SCode.seqR (SOps.move rfl (SOps.nil ?_))))))))
  refine SCode.cond rfl (fun _ => ?_) (fun h => by cases h)
  refine SCode.seqR (SOps.move rfl (SOps.assign rfl (SOps.nil (SCode.ret ?_))))
  exact ⟨_, Res.one (.tmp rfl), by rw [idxI_some hy1]; rfl, rfl⟩
 ·refine SOps.move rfl (SOps.extract rfl rfl (SOps.extract rfl rfl (SOps.assign rfl (SOps.assign rfl (SOps.nil (SCode.seqR (SOps.move rfl (SOps.nil ?_))))))))
  refine SCode.cond rfl (fun h => by cases h) (fun _ => ?_)
  refine SCode.skip ?_
  show SCode _ _ _ _
  refine SCode.seqR (SOps.assign rfl (SOps.nil (SCode.ret ?_)))
  exact ⟨_, Res.one (.tmp rfl), by rw [idxI_none hy1], rfl⟩
theorem aValid (a : List Letter)  : GCall Tryd.prog E 31 [DLs a] [] (fun d H => d = .v (.bool (validA a)) ∧ H = []) := by
 refine GCall.body (C := ⟨Tryd.prog, E, true⟩) Tryd.func31 rfl (fun _ => rfl) (by kernel_rfl) rfl ?_
 refine SCode.seqR (SOps.assign rfl (SOps.nil (SCode.seq (SCode.seqR (SOps.move rfl (SOps.lenM rfl sliceB_22_28_2 (SOps.bin rfl rfl rfl (SOps.move rfl ?_))))))))
 refine SOps.caseB 8 rfl (fun hb1 => ?_) (fun hb1 => ?_)
 ·try simp only [nmL] at hb1
  refine SOps.skip rfl (SOps.skip rfl (SOps.skip rfl (SOps.pick rfl rfl (SOps.nil ?_))))
  refine SCode.cond rfl (fun _ => ?_) (fun h => by cases h)
  refine SCode.seqR (SOps.assign rfl (SOps.nil (SCode.ret ?_)))
  exact ⟨_, Res.one (.tmp rfl), congrArg (fun b => DV.v (.bool b)) (Bool.eq_false_iff.2 (fun h => by have := (validA_iff.1 h).1; omega)).symm, rfl⟩
 ·try simp only [nmL] at hb1
  refine SOps.move rfl (SOps.lenM rfl sliceB_22_28_2 (SOps.bin rfl rfl rfl (SOps.pick rfl rfl (SOps.nil ?_))))
  refine SCode.cond rfl (fun hc2 => ?_) (fun hc2 => ?_)
  ·try simp only [nmL] at hc2
   refine SCode.seqR (SOps.assign rfl (SOps.nil (SCode.ret ?_)))
   exact ⟨_, Res.one (.tmp rfl), congrArg (fun b => DV.v (.bool b)) (Bool.eq_false_iff.2 (fun h => by have := (validA_iff.1 h).1; omega)).symm, rfl⟩
  ·try simp only [nmL] at hc2
   refine SCode.skip ?_
   show SCode _ _ _ _
   refine SCode.seq (SCode.seqR (SOps.move rfl (SOps.lenM rfl sliceB_22_28_2 (SOps.move rfl (SOps.nil (SCode.block (SCode.loop1 (fun (i : Nat) => (⟨35, [(0, DLs a), (2, .v (.bool false)), (13, DLs a), (14, .v (.int .i64 (a.length : Int))), (15, .v (.int .i64 (i : Int)))], []⟩ : St)) (fun (i : Nat) => i ≤ a.length ∧ ∀ l ∈ a.take i, goodR l.rune = true) (fun (i : Nat) => a.length - i) (0) (by simp) (St.Le.of ⟨(by first | rfl | (show some _ = some _; simp)), (by first | rfl | (show some _ = some _; simp)), (by first | rfl | (show some _ = some _; simp)), (by first | rfl | (show some _ = some _; simp)), (by first | rfl | (show some _ = some _; simp)), trivial⟩ rfl (by first | rfl | (simp))) ?_)))))))
   rintro i ⟨hi, hf⟩
   refine SCode.fact (isl_len (t := 0) rfl) (fun hB => ?_)
   simp only [List.length_map, lenB] at hB
   refine SCode.seqR (SOps.bin rfl rfl rfl (SOps.nil (SCode.seq ?_)))
   refine SCode.cond rfl (fun hc3 => ?_) (fun hc3 => ?_)
   ·try simp only [nmL] at hc3
    refine SCode.skip ?_
    show SCode _ _ _ _
    refine SCode.seq (SCode.block (SCode.seqR (SOps.indexM (i) rfl rfl sliceB_22_28_2 (by first | omega | (simp only [List.length_map, lenB]; exact Nat.le_trans (mapOf_len a) (by omega))) (by first | omega | (simp only [List.length_map, lenB]; exact Nat.le_trans (mapOf_len a) (by omega))) (SOps.loadPinA rfl aggB_28_2 (Nat.le_of_ble_eq_true rfl) ?_))))
    refine SOps.alloc (sz := 2) zeroIs_28 (fun b0 hb_0 => ?_)
    refine SOps.storeAM 0 rfl rfl aggB_28_2 rfl (SOps.freezeRef (t := 4) 0 0 rfl rfl rfl rfl rfl (SOps.nil (SCode.seqR (SOps.fieldPin rfl fieldB_28_0_0 (SOps.loadPin rfl flatB_21 (SOps.bin rfl rfl rfl (SOps.move rfl ?_)))))))
    refine SOps.caseB 22 rfl (fun hb4 => ?_) (fun hb4 => ?_)
    ·try simp only [nmL] at hb4
     refine SOps.skip rfl (SOps.skip rfl (SOps.skip rfl (SOps.skip rfl (SOps.pick rfl rfl (SOps.nil ?_)))))
     refine SCode.cond rfl (fun _ => ?_) (fun h => by cases h)
     refine SCode.seqR (SOps.assign rfl (SOps.nil (SCode.ret ?_)))
     exact ⟨_, Res.one (.tmp rfl), congrArg (fun b => DV.v (.bool b)) (Bool.eq_false_iff.2 (fun h => by have := goodR_split.1 ((validA_iff.1 h).2.1 _ (List.getElem_mem (show i < a.length by omega))); omega)).symm, rfl⟩
    ·try simp only [nmL] at hb4
     refine SOps.fieldPin rfl fieldB_28_0_0 (SOps.loadPin rfl flatB_21 (SOps.callP (uValidRune _) rfl ?_))
     rintro _ rfl
     refine SOps.un rfl rfl (SOps.pick rfl rfl (SOps.nil ?_))
     refine SCode.cond rfl (fun hc5 => ?_) (fun hc5 => ?_)
     ·try simp only [nmL] at hc5
      refine SCode.seqR (SOps.assign rfl (SOps.nil (SCode.ret ?_)))
      exact ⟨_, Res.one (.tmp rfl), congrArg (fun b => DV.v (.bool b)) (Bool.eq_false_iff.2 (fun h => by have := goodR_split.1 ((validA_iff.1 h).2.1 _ (List.getElem_mem (show i < a.length by omega))); rw [this.2] at hc5; cases hc5)).symm, rfl⟩
     ·try simp only [nmL] at hc5
      refine SCode.skip ?_
      show SCode _ _ _ _
      refine SCode.region (SOps.addI rfl rfl (by first | omega | (simp only [List.length_map, lenB]; exact Nat.le_trans (mapOf_len a) (by omega))) (by first | omega | (simp only [List.length_map, lenB]; exact Nat.le_trans (mapOf_len a) (by omega))) (SOps.move rfl (SOps.nil ?_)))
      exact ⟨i + 1, by exact ⟨by omega, take_more hf (by omega) (goodR_split.2 ⟨hb4, hc5⟩)⟩, by omega, (St.Le.of ⟨(by first | rfl | (show some _ = some _; simp)), (by first | rfl | (show some _ = some _; simp)), (by first | rfl | (show some _ = some _; simp)), (by first | rfl | (show some _ = some _; simp)), (by first | rfl | (show some _ = some _; simp)), trivial⟩ rfl (by first | rfl | (simp)))⟩
   ·try simp only [nmL] at hc3
    refine SCode.exit ?_
    show SCode _ _ _ _
    refine SCode.seqR (SOps.move rfl (SOps.callP (aIndices _) rfl ?_))
    rintro _ rfl
    refine SOps.lenMapI rfl mapB_89 (by first | omega | (simp only [List.length_map, lenB]; exact Nat.le_trans (mapOf_len a) (by omega))) (SOps.move rfl (SOps.lenM rfl sliceB_22_28_2 (SOps.bin rfl rfl rfl (SOps.assign rfl (SOps.nil (SCode.ret ?_))))))
    exact ⟨_, Res.one (.tmp rfl), congrArg (fun b => DV.v (.bool b)) (Eq.symm (by rw [Bool.eq_iff_iff, validA_iff']; simp only [beq_iff_eq, List.length_map]; exact ⟨fun h => by have := h.2.2; omega, fun h => ⟨⟨by omega, by omega⟩, all_of (by omega) hf, by omega⟩⟩)), rfl⟩
theorem aIsWord (hV : VS E) (a : List Letter) (s : ByteArray)  : GCall Tryd.prog E 67 [DLs a, .v (.string s)] [] (fun d H => d = .v (.bool (isWordA a s)) ∧ H = []) := by
 refine GCall.body (C := ⟨Tryd.prog, E, true⟩) Tryd.func67 rfl (fun _ => rfl) (by kernel_rfl) rfl ?_
 refine SCode.seqR (SOps.assign rfl (SOps.nil (SCode.seq (SCode.seqR (SOps.move rfl (SOps.callP (hV _) rfl ?_))))))
 rintro _ rfl
 refine SOps.un rfl rfl (SOps.nil ?_)
 refine SCode.cond rfl (fun hc1 => ?_) (fun hc1 => ?_)
 ·try simp only [nmL] at hc1
  refine SCode.seqR (SOps.assign rfl (SOps.nil (SCode.ret ?_)))
  exact ⟨_, Res.one (.tmp rfl), congrArg (fun b => DV.v (.bool b)) (Eq.symm (by rw [isWordA, overA, hc1]; rfl)), rfl⟩
 ·try simp only [nmL] at hc1
  refine SCode.skip ?_
  show SCode _ _ _ _
  refine SCode.seqR (SOps.move rfl (SOps.callP (aIndices _) rfl ?_))
  rintro _ rfl
  refine SOps.assign rfl (SOps.assign rfl (SOps.nil (SCode.seq (SCode.seqR (SOps.move rfl ?_)))))
  refine SOps.rangeStr rfl strB_9 (fun b0 hb_0 => ?_)
  refine SOps.nil (SCode.block (SCode.loop3 (fun (p : Nat) (n : Nat) (b : Nat) => (⟨33, [(1, .v (.string s)), (4, .v (.bool false)), (5, DMap a), (6, .v (.int .i64 (n : Int))), (17, .it b)], [(b, .iter s p)]⟩ : St)) (fun (p : Nat) (n : Nat) (b : Nat) => n ≤ p ∧ n + (runesAt s p).length = (runes s).length ∧ (runesAt s p).all (fun r => (idx a r).isSome) = (runes s).all (fun r => (idx a r).isSome)) (fun (p : Nat) (n : Nat) (b : Nat) => s.size - p) (0) (0) (b0) (by exact ⟨Nat.le_refl _, by rw [Nat.zero_add]; rfl, rfl⟩) (St.Le.of ⟨(by first | rfl | (show some _ = some _; simp)), (by first | rfl | (show some _ = some _; simp)), (by first | rfl | (show some _ = some _; simp)), (by first | rfl | (show some _ = some _; simp)), (by first | rfl | (show some _ = some _; simp)), trivial⟩ rfl (by first | rfl | (simp))) ?_))
  rintro p n b ⟨hn, hl, hf⟩
  refine SCode.fact (v_scal (t := 1) rfl) (fun hS => ?_)
  simp only [scal, lenB] at hS
  refine SCode.seqR ?_
  refine SOps.next 0 rfl rfl (fun hn2 => ?_) (fun hn2 => ?_) (by first | omega | (simp only [lenB]; omega))
  ·refine SOps.extract rfl rfl (SOps.nil (SCode.seq ?_))
   refine SCode.cond rfl (fun _ => ?_) (fun h => by cases h)
   refine SCode.skip ?_
   show SCode _ _ _ _
   refine SCode.block (SCode.seqR (SOps.extract rfl rfl (SOps.assign rfl (SOps.nil (SCode.seq (SCode.seqR (SOps.move rfl (SOps.move rfl ?_))))))))
   refine SOps.lookupIM (idx a ((Utf8.decode s p).1 : Int)) (fun i => DV.v (.int .i64 ((i : Nat) : Int))) rfl rfl mapB_89 (keys_enc _) zeroIs_3 (lookup_mapOf _ _) (fun y3 hy3 => ?_) (fun hy3 => ?_)
   ·refine SOps.move rfl (SOps.extract rfl rfl (SOps.extract rfl rfl (SOps.assign rfl (SOps.assign rfl (SOps.nil (SCode.seqR (SOps.move rfl (SOps.un rfl rfl (SOps.nil ?_)))))))))
    refine SCode.cond rfl (fun h => by cases h) (fun _ => ?_)
    refine SCode.skip ?_
    show SCode _ _ _ _
    refine SCode.region (SOps.move rfl (SOps.addI rfl rfl (by first | omega | (simp only [lenB]; omega)) (by first | omega | (simp only [lenB]; omega)) (SOps.assign rfl (SOps.nil ?_))))
    exact ⟨p + (Utf8.decode s p).2, n + 1, b, by refine ⟨by have := decode_w s p; omega, by rw [← hl, runes_len_step hn2]; omega, ?_⟩; rw [← hf, runes_step hn2, hy3]; rfl, by have := decode_w s p; omega, (St.Le.of ⟨(by first | rfl | (show some _ = some _; simp)), (by first | rfl | (show some _ = some _; simp)), (by first | rfl | (show some _ = some _; simp)), (by first | rfl | (show some _ = some _; simp)), (by first | rfl | (show some _ = some _; simp)), trivial⟩ rfl (by first | rfl | (simp)))⟩
   ·refine SOps.move rfl (SOps.extract rfl rfl (SOps.extract rfl rfl (SOps.assign rfl (SOps.assign rfl (SOps.nil (SCode.seqR (SOps.move rfl (SOps.un rfl rfl (SOps.nil ?_)))))))))
    refine SCode.cond rfl (fun _ => ?_) (fun h => by cases h)
    refine SCode.seqR (SOps.assign rfl (SOps.nil (SCode.drop (SCode.ret ?_))))
    exact ⟨_, Res.one (.tmp rfl), congrArg (fun b => DV.v (.bool b)) (Eq.symm (by rw [isWordA, overA, ← hf, runes_step hn2, hy3]; simp)), rfl⟩
  ·refine SOps.extract rfl rfl (SOps.nil (SCode.seq ?_))
   refine SCode.cond rfl (fun h => by cases h) (fun _ => ?_)
   refine SCode.exit ?_
   show SCode _ _ _ _
   refine SCode.seqR (SOps.move rfl (SOps.bin rfl rfl rfl (SOps.assign rfl (SOps.nil (SCode.drop (SCode.ret ?_))))))
   exact ⟨_, Res.one (.tmp rfl), congrArg (fun b => DV.v (.bool b)) (Eq.symm (by rw [isWordA, overA, hc1, ← hf, ← hl, runesAt_ge hn2]; rw [Bool.eq_iff_iff]; simp; omega)), rfl⟩
theorem indexByte_any : ∀ l : List UInt8, decide (0 ≤ Lib.indexByte l 61) = l.any (fun b => b == 61)
  | [] => rfl
  | b :: l => by
    have ih := indexByte_any l
    have hg := Lib.indexByte_ge l 61
    rw [Lib.indexByte, List.any_cons]
    cases hb : (b == 61) with
    | true => rfl
    | false =>
      rw [Bool.false_or, ← ih, if_neg (by simp)]
      split
      · rename_i h; rw [beq_iff_eq] at h; simp [h]
      · rename_i h
        have h2 : Lib.indexByte l 61 ≠ -1 := fun e => h (by rw [e]; rfl)
        rw [decide_eq_true (by omega), decide_eq_true (by omega)]
theorem indexByte_le : ∀ l : List UInt8, Lib.indexByte l 61 ≤ l.length
  | [] => by decide
  | b :: l => by
    have ih := indexByte_le l
    have hg := Lib.indexByte_ge l 61
    rw [Lib.indexByte, List.length_cons]
    split
    · omega
    · split <;> omega
theorem args2 {w : World} {F : Nat → Prop} {vs : Array Value} {x y : Value} (hl : vs.size = 2) (hr : ∀ (j : Nat) (v : Value) (d : DV), vs[j]? = some v → [DV.v x, DV.v y][j]? = some d → Rep w F v d) : vs = #[x, y] := by
  have h0 := hr 0 vs[0] (.v x) (Array.getElem?_eq_getElem (by omega)) rfl
  have h1 := hr 1 vs[1] (.v y) (Array.getElem?_eq_getElem (by omega)) rfl
  apply Array.ext
  · simpa using hl
  · intro i h2 h3
    rcases (show i = 0 ∨ i = 1 by omega) with rfl | rfl
    · exact h0.inv_v.1
    · exact h1.inv_v.1
theorem sByte (s : ByteArray) (hs : s.size ≤ 1048576) : GCall Tryd.prog E 33 [.v (.string s), .v (.int .u8 61)] [] (fun d H => (∃ n : Int, d = .v (.int .i64 n) ∧ decide (0 ≤ n) = hasEq s) ∧ H = []) :=
  GCall.mono (GCall.ofCalls (x := .int .i64 (Lib.indexByte s.data.toList 61)) (by kernel_rfl) (has_i64 (by have := Lib.indexByte_ge s.data.toList 61; omega) (by have := indexByte_le s.data.toList; have : s.data.toList.length = s.size := (by simp); omega)) (fun w F vs hE hl hr => by
    obtain rfl := args2 hl hr
    have := Any.strings_IndexByte (P := Tryd.prog) (ρ := Tryd.laysByte_ren) Tryd.laysByte s 61 w
    exact this.mono fun e w' ⟨h1, h2⟩ => ⟨h1, h2 ▸ RowKit.Below.refl _ _⟩)) (fun d H h => ⟨⟨_, h.1, indexByte_any _⟩, h.2⟩)
theorem zeroBld : zeroIs Tryd.prog 100 (.agg #[.pointer none, .slice none 0 0]) := by unfold zeroIs; kernel_rfl
theorem sLClone (a : List Letter) (ha : a.length ≤ 1000000) : GCall Tryd.prog E 30 [DLs a] [] (fun d H => (d = .v (.slice none 0 0) ∧ H = [] ∧ a = []) ∨ ∃ b, d = .sl b 2 0 a.length ∧ H = [(b, .row 28 2 (a.map encL))]) := by
 refine GCall.body (C := ⟨Tryd.prog, E, true⟩) Tryd.func30 rfl (fun _ => rfl) (by kernel_rfl) rfl ?_
 refine SCode.seqR (SOps.assign rfl (SOps.nil (SCode.seq (SCode.seqR (SOps.move rfl ?_)))))
 refine SOps.eqNilS Tryd.underlying22 rfl rfl (fun c0 hz0 => ?_)
 refine SOps.nil ?_
 refine SCode.cond rfl (fun hc1 => ?_) (fun hc1 => ?_)
 ·try simp only [nmL] at hc1
  have ha0 : a = [] := List.map_eq_nil_iff.1 (hz0 hc1)
  refine SCode.seqR (SOps.assign rfl (SOps.nil (SCode.ret ?_)))
  exact ⟨_, Res.one (.tmp rfl), .inl ⟨rfl, rfl, ha0⟩⟩
 ·try simp only [nmL] at hc1
  refine SCode.skip ?_
  show SCode _ _ _ _
  refine SCode.seqR ?_
  refine SOps.litO sliceB_22_28_2 zeroIs_28 rfl (fun b1 hb_1 => ?_)
  refine SOps.move rfl ?_
  refine SOps.appendOwnE 0 sliceB_22_28_2 elemB_28_2_8 rfl rfl rfl (by simp) SrcD.isl (by simp [lenB]; omega) (by simp; omega) (fun bC => ?_)
  refine SOps.assign rfl (SOps.nil (SCode.ret ?_))
  exact ⟨_, Res.one (.tmp rfl), .inr ⟨bC, by simp, rfl⟩⟩
theorem cExtended (a : List Letter) (ha : a.length ≤ 1000000) : GCall Tryd.prog E 12 [DLs a] [] (fun d H => d = DLs (extA a) ∧ H = []) := by
 refine GCall.body (C := ⟨Tryd.prog, E, true⟩) Tryd.func12 rfl (fun _ => rfl) (by kernel_rfl) rfl ?_
 refine SCode.seqR (SOps.assign rfl (SOps.nil (SCode.seqR (SOps.move rfl ?_))))
 refine SOps.callH [] [] [] (sLClone a ha) rfl rfl (fun d H hR => ?_)
 rcases hR with ⟨rfl, rfl, rfl⟩ | ⟨bk, rfl, rfl⟩
 ·refine SOps.buildM placesB_28 zeroIs_28 rfl rfl (SOps.litF rfl sliceB_22_28_2 zeroIs_28 rfl ?_)
  refine SOps.appendNil sliceB_22_28_2 elemB_28_2_8 rfl rfl SrcD.isl (by simp) (by simp [lenB]) (by simp) (fun bA _ => ?_)
  refine SOps.freezeS (t := 7) 0 rfl rfl rfl (by simp) (SOps.assign rfl (SOps.nil (SCode.ret ?_)))
  exact ⟨_, Res.one (.tmp rfl), by first | rfl | (show DV.isl false 2 (a.map encL ++ [encL eqL]) = DV.isl false 2 ((a ++ [eqL]).map encL); rw [List.map_append]; rfl), rfl⟩
 ·refine SOps.buildM placesB_28 zeroIs_28 rfl rfl (SOps.litF rfl sliceB_22_28_2 zeroIs_28 rfl ?_)
  refine SOps.appendOwn 0 sliceB_22_28_2 elemB_28_2_8 rfl rfl rfl (by simp) SrcD.isl (by simp) (by simp [lenB]; omega) (by simp; omega) (fun bA _ => ?_)
  refine SOps.freezeS (t := 7) 0 rfl rfl rfl (by simp) (SOps.assign rfl (SOps.nil (SCode.ret ?_)))
  exact ⟨_, Res.one (.tmp rfl), by first | rfl | (show DV.isl false 2 (a.map encL ++ [encL eqL]) = DV.isl false 2 ((a ++ [eqL]).map encL); rw [List.map_append]; rfl), rfl⟩
end Go.GH
