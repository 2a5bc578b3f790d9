/-
  utf8.ValidString: the specification's way and the decoder's way are one; what the library's two tables ask of the world. No conditions.
-/
import Derived.Test.YtjcihlpjlpackaaDoorHu
import Derived.Test.YtjcihlpjlpackaaDoorHl
import Derived.Test.YtjcihlpjlpackaaDoorGp
import Derived.Lib.MapLaws
import Derived.Lib.TrimUEq
import Derived.Lib.LaidU8T
import Derived.Shelf.Unicode.ValidAny
import Derived.KernelRfl
set_option linter.unusedVariables false
set_option linter.unusedSimpArgs false
namespace Go.GH
open Go Go.Lib Go.Proofs Go.RowKit

theorem extract_eq (s : ByteArray) (p : Nat) : (s.extract p (p + 3)).data.toList = (s.data.toList.drop p).take 3 := by
  simp [ByteArray.data_extract, List.take_drop]
theorem dec_fffd {l : List UInt8} (h : l.take 3 = [239, 191, 189]) : decodeL l = (65533, 3) := by
  match l, h with
  | [], h => simp at h
  | [_], h => simp at h
  | [_, _], h => simp at h
  | a :: b :: c :: t, h =>
    simp only [List.take_succ_cons, List.take_zero, List.cons.injEq, and_true] at h
    obtain ⟨rfl, rfl, rfl⟩ := h
    rw [decodeL_N]
    generalize hb : ((239 :: 191 :: 189 :: t : List UInt8).getD 3 0).toNat = b3
    have e0 : ((239 :: 191 :: 189 :: t : List UInt8).getD 0 0).toNat = 239 := rfl
    have e1 : ((239 :: 191 :: 189 :: t : List UInt8).getD 1 0).toNat = 191 := rfl
    have e2 : ((239 :: 191 :: 189 :: t : List UInt8).getD 2 0).toNat = 189 := rfl
    have hn : 2 < (239 :: 191 :: 189 :: t : List UInt8).length := by simp
    rw [e0, e1, e2]
    generalize (239 :: 191 :: 189 :: t : List UInt8).length = n at hn
    unfold decodeN
    rw [if_neg (by omega), if_neg (by omega), if_pos (by omega), if_pos (by omega)]
theorem enc_fffd : encodeRune ((65533 : Nat) : Int) = [239, 191, 189] := by decide
theorem step_valid (s : ByteArray) (p : Nat) (hp : p < s.size) : stepOK s (p, ((Utf8.decode s p).1 : Int)) = !(decide ((Utf8.decode s p).1 = 65533 ∧ (Utf8.decode s p).2 = 1)) := by
  have hd := decodeL_drop s p
  have hlen : (s.data.toList.drop p).length = s.size - p := by simp
  have hne : s.data.toList.drop p ≠ [] := by
    intro h; rw [h] at hlen; simp at hlen; omega
  by_cases hr : (Utf8.decode s p).1 = 65533
  · have hr' : (((Utf8.decode s p).1 : Nat) : Int) = 65533 := by omega
    by_cases h1 : (Utf8.decode s p).2 = 1
    · rw [decide_eq_true ⟨hr, h1⟩]
      simp only [Bool.not_true]
      unfold stepOK
      rw [hr']
      simp only [beq_self_eq_true, Bool.not_true, Bool.false_or, Bool.and_eq_false_iff, decide_eq_false_iff_not]
      refine .inr (fun h => ?_)
      have h2 : (s.data.toList.drop p).take 3 = [239, 191, 189] := by rw [← extract_eq, h]; rfl
      rw [dec_fffd h2] at hd
      rw [← hd] at h1
      cases h1
    · rw [decide_eq_false (fun h => h1 h.2)]
      simp only [Bool.not_false]
      have h3 := encode_decode _ hne (by rw [hd]; exact fun h => h1 h.2)
      rw [hd, hr, enc_fffd] at h3
      have hw : (Utf8.decode s p).2 ≤ 3 ∨ 3 ≤ (Utf8.decode s p).2 := by omega
      have hl3 := congrArg List.length h3
      simp only [List.length_cons, List.length_nil, List.length_take, hlen] at hl3
      have h4 : (s.data.toList.drop p).take 3 = [239, 191, 189] := by
        rw [h3]
        apply List.ext_getElem?
        intro j
        simp only [List.getElem?_take]
        by_cases hj : j < 3
        · rw [if_pos hj, if_pos (by omega)]
        · rw [if_neg hj]
          split
          · rw [List.getElem?_eq_none (by omega)]
          · rfl
      have h5 : s.extract p (p + 3) = efbfbd := by
        apply ByteArray.ext
        apply Array.toList_inj.1
        rw [extract_eq, h4]; rfl
      have : p + 3 ≤ s.size := by
        have := congrArg List.length h4
        simp only [List.length_take, hlen, List.length_cons, List.length_nil] at this
        omega
      unfold stepOK
      rw [hr', h5]
      simp [this]
  · rw [decide_eq_false (fun h => hr h.1), stepOK_no (by omega)]; rfl
theorem valid_at (s : ByteArray) : ∀ (f p : Nat), s.size - p ≤ f → validD (s.data.toList.drop p) = (steps s p).all (stepOK s)
  | 0, p, h => by
    rw [steps_ge (by omega), List.drop_eq_nil_of_le (by simp; omega)]; rfl
  | f + 1, p, h => by
    by_cases hp : p < s.size
    · have hw := decode_w s p
      have hlen : (s.data.toList.drop p).length = s.size - p := by simp
      rw [validD_step _ (by intro h; rw [h] at hlen; simp at hlen; omega), steps_lt hp, List.all_cons, step_valid s p hp, decodeL_drop, List.drop_drop, valid_at s f _ (by omega)]
      by_cases hb : (Utf8.decode s p).1 = 65533 ∧ (Utf8.decode s p).2 = 1
      · rw [if_pos hb, decide_eq_true hb]; rfl
      · rw [if_neg hb, decide_eq_false hb]; rfl
    · rw [steps_ge (by omega), List.drop_eq_nil_of_le (by simp; omega)]; rfl
theorem utf8R_valid (s : ByteArray) : utf8R s = validD s.data.toList := by
  have := valid_at s _ 0 (Nat.le_refl _)
  rw [List.drop_zero] at this
  exact this.symm

/-- The library's two tables, in blocks that never turn. -/
def tabE (g3 g4 : Nat) : Env where
  holds := fun w F => Lib.Utf8Tabs g3 g4 w ∧ F g3 ∧ F g4
  mono := fun {w w' F F'} hw hF h => by
    obtain ⟨⟨h1, h2⟩, h3, h4⟩ := h
    refine ⟨⟨fun c hc => ?_, fun i hi => ⟨?_, ?_⟩⟩, hF _ h3, hF _ h4⟩
    · rw [cell?_same (hw _ h3)]; exact h1 c hc
    · rw [cell?_same (hw _ h4)]; exact (h2 i hi).1
    · rw [cell?_same (hw _ h4)]; exact (h2 i hi).2
abbrev E0 : Env := tabE (Tryd.laysValid_ren.g 3) (Tryd.laysValid_ren.g 4)
theorem tabE_all {g3 g4 : Nat} {w : World} (h : Lib.Utf8Tabs g3 g4 w) : (tabE g3 g4).holds w (AllF w) :=
  ⟨h, (cell?_lt (h.1 0 (by decide))).1, (cell?_lt (h.2 0 (by decide)).1).1⟩

/-- A library's contract that only reads, as a contract over abstract states. -/
theorem GCall.ofCalls {P : Program} {E : Env} {f : FuncId} {ds : List DV} {x : Value} (hb : hasBody P f = true) (hx : scal x)
    (h : ∀ w F (vs : Array Value), E.holds w F → vs.size = ds.length → (∀ (j : Nat) (v : Value) (d : DV), vs[j]? = some v → ds[j]? = some d → Rep w F v d) → Calls P f vs w (fun e w' => e = .returned x ∧ Below w.heap.size w w')) :
    GCall P E f ds [] (fun d H => d = .v x ∧ H = []) :=
  ⟨hb, fun w F vs hE hF hl hr _ _ => (h w F vs hE hl hr).mono (fun e w' ⟨he, bel⟩ =>
    ⟨x, .v x, [], F, he, ⟨rfl, rfl⟩, fun _ h => h, fun b h => ⟨Nat.lt_of_lt_of_le (hF b h) (Step.of_below bel).size, .inl h⟩, .v hx, (fun p hp => by cases hp), List.nodup_nil, (Step.of_below bel).mono (fun _ _ h => h.elim)⟩)⟩
theorem arg1 {w : World} {F : Nat → Prop} {vs : Array Value} {x : Value} (hl : vs.size = 1) (hr : ∀ (j : Nat) (v : Value) (d : DV), vs[j]? = some v → [DV.v x][j]? = some d → Rep w F v d) : vs = #[x] ∧ scal x := by
  have h0 := hr 0 vs[0] (.v x) (Array.getElem?_eq_getElem (by omega)) rfl
  refine ⟨?_, h0.inv_v.2⟩
  apply Array.ext
  · simpa using hl
  · intro i h1 h2
    have : i = 0 := by omega
    subst this
    exact h0.inv_v.1
theorem vs_ok (s : ByteArray) : GCall Tryd.prog E0 46 [.v (.string s)] [] (fun d H => d = .v (.bool (utf8R s)) ∧ H = []) :=
  GCall.ofCalls (by kernel_rfl) trivial (fun w F vs hE hl hr => by
    obtain ⟨rfl, hs⟩ := arg1 hl hr
    rw [utf8R_valid]
    exact Any.utf8_ValidString Tryd.laysValid s w hs hE.1)
end Go.GH
