/-
  Part 4 of the texts behind the walks of this claim: an own layer over the kit's wp, plain laws, and walks. No conditions.
-/
import Derived.Test.YtkhohgmmgipfbaaDoorMb3
set_option linter.unusedVariables false
set_option linter.unusedSimpArgs false
set_option linter.deprecated false
namespace Go.GH
open Go Go.Proofs
variable {E : Env}
theorem sLines (hV : VS E) (l : List Bx) (w pen : Int) (hbx : ∀ x ∈ l, x.word.size ≤ 1048576) : GCall Tryd.prog E 14 [DBxs l, .v (.int .i64 w), .v (.int .i64 pen)] [] (fun d H => d = .tup [DLns (linesR l w pen).1, .v (.int .i64 (linesR l w pen).2.1), .v (.int .i64 (linesR l w pen).2.2)] ∧ H = []) :=
  (sLines0 hV l w pen hbx).clean (fun d H e => by
    subst e
    split
    · rename_i h1
      split
      · rename_i h2
        have e : linesR l w pen = ([], 0, 2) := by unfold linesR; rw [if_pos h1, if_pos h2]
        rw [e]
        exact ⟨_, fun _ _ _ h => rep_tup0 (fun _ _ _ h => nil_isl h) h, rfl⟩
      · rename_i h2
        have e : (linesR l w pen).2.2 = 0 := by unfold linesR; rw [if_pos h1, if_neg h2]
        rw [e]
        exact ⟨_, fun _ _ _ h => h, rfl⟩
    · rename_i h1
      have e : linesR l w pen = ([], 0, 1) := by unfold linesR; rw [if_neg h1]
      rw [e]
      exact ⟨_, fun _ _ _ h => rep_tup0 (fun _ _ _ h => nil_isl h) h, rfl⟩)
theorem small_aw1 : ∀ x ∈ aw1, x.word.size ≤ 1048576 := by
  intro x hx
  simp only [aw1, List.map_cons, List.map_nil, List.mem_cons, List.not_mem_nil, or_false] at hx
  rcases hx with rfl | rfl | rfl | rfl <;> exact Nat.le_of_ble_eq_true rfl

theorem small_aw2 : ∀ x ∈ aw2, x.word.size ≤ 1048576 := by
  intro x hx
  rw [aw2, List.mem_singleton] at hx
  subst hx; exact Nat.le_of_ble_eq_true rfl
theorem small_aw3 : ∀ x ∈ aw3, x.word.size ≤ 1048576 := by
  intro x hx
  simp only [aw3, List.map_cons, List.map_nil, List.mem_singleton] at hx
  subst hx; exact Nat.le_of_ble_eq_true rfl

theorem sAwake (hV : VS E)  : GCall Tryd.prog E 12 [] [] (fun d H => d = .v (.bool true) ∧ H = []) := by
  refine GCall.body (C := ⟨Tryd.prog, E, true⟩) Tryd.func12 rfl (fun _ => rfl) (by kernel_rfl) rfl ?_
  refine SCode.seqR ?_
  refine SOps.assign rfl ?_
  refine SOps.nil ?_
  refine SCode.seqR ?_
  refine SOps.litF rfl sliceB_46_9_1 zeroIs_9 rfl ?_
  refine SOps.callP (lBoxes [wA, wB, wC, wD] (Nat.le_of_ble_eq_true rfl)) rfl ?_
  rintro _ rfl
  refine SOps.assign rfl ?_
  refine SOps.nil ?_
  refine SCode.seqR ?_
  refine SOps.move rfl ?_
  refine SOps.callP (sLines hV aw1 6 10 small_aw1) rfl ?_
  rintro _ rfl
  refine SOps.reSlot (t := 23) rfl (show _ = DV.tup [DLns [⟨[wA], false⟩, ⟨[wB, wC], false⟩, ⟨[wD], false⟩], .v (.int .i64 10), .v (.int .i64 0)] by rw [aw_lines1]) ?_
  refine SOps.move rfl ?_
  refine SOps.extract rfl rfl ?_
  refine SOps.extract rfl rfl ?_
  refine SOps.extract rfl rfl ?_
  refine SOps.assign rfl ?_
  refine SOps.assign rfl ?_
  refine SOps.assign rfl ?_
  refine SOps.nil ?_
  refine SCode.seqR ?_
  refine SOps.move rfl ?_
  refine SOps.callP (sGreedy hV aw1 6 small_aw1) rfl ?_
  rintro _ rfl
  refine SOps.reSlot (t := 29) rfl (show _ = DV.tup [DLns [⟨[wA, wB], false⟩, ⟨[wC], false⟩, ⟨[wD], false⟩], .v (.int .i64 0)] by rw [aw_greedy]) ?_
  refine SOps.move rfl ?_
  refine SOps.extract rfl rfl ?_
  refine SOps.extract rfl rfl ?_
  refine SOps.assign rfl ?_
  refine SOps.assign rfl ?_
  refine SOps.nil ?_
  refine SCode.seqR ?_
  refine SOps.move rfl ?_
  refine SOps.callP (sBreaks hV aw1 6 small_aw1) rfl ?_
  rintro _ rfl
  refine SOps.reSlot (t := 34) rfl (show _ = tupC (3, 0) by rw [aw_breaks]) ?_
  refine SOps.move rfl ?_
  refine SOps.extract rfl rfl ?_
  refine SOps.extract rfl rfl ?_
  refine SOps.assign rfl ?_
  refine SOps.assign rfl ?_
  refine SOps.nil ?_
  refine SCode.seqR ?_
  refine SOps.litF rfl sliceB_41_3_1 zeroIs_3 rfl ?_
  refine SOps.buildM placesB_43 zeroIs_43 rfl rfl ?_
  refine SOps.litF rfl sliceB_22_43_2 zeroIs_43 rfl ?_
  refine SOps.assign rfl ?_
  refine SOps.nil ?_
  refine SCode.seqR ?_
  refine SOps.move rfl ?_
  refine SOps.callP (sLines hV aw2 6 10 small_aw2) rfl ?_
  rintro _ rfl
  refine SOps.reSlot (t := 42) rfl (show _ = DV.tup [DLns [⟨[wH1], true⟩, ⟨[wH2], false⟩], .v (.int .i64 10), .v (.int .i64 0)] by rw [aw_lines2]) ?_
  refine SOps.move rfl ?_
  refine SOps.extract rfl rfl ?_
  refine SOps.extract rfl rfl ?_
  refine SOps.extract rfl rfl ?_
  refine SOps.assign rfl ?_
  refine SOps.assign rfl ?_
  refine SOps.assign rfl ?_
  refine SOps.nil ?_
  refine SCode.seqR ?_
  refine SOps.litF rfl sliceB_46_9_1 zeroIs_9 rfl ?_
  refine SOps.callP (lBoxes [wH] (Nat.le_of_ble_eq_true rfl)) rfl ?_
  rintro _ rfl
  refine SOps.callP (sLines hV aw3 6 10 small_aw3) rfl ?_
  rintro _ rfl
  refine SOps.reSlot (t := 49) rfl (show _ = DV.tup [DLns [], .v (.int .i64 0), .v (.int .i64 2)] by rw [aw_lines3]) ?_
  refine SOps.move rfl ?_
  refine SOps.extract rfl rfl ?_
  refine SOps.extract rfl rfl ?_
  refine SOps.extract rfl rfl ?_
  refine SOps.assign rfl ?_
  refine SOps.assign rfl ?_
  refine SOps.assign rfl ?_
  refine SOps.nil ?_
  refine SCode.seqR ?_
  refine SOps.move rfl ?_
  refine SOps.callP (sLines hV aw1 0 10 small_aw1) rfl ?_
  rintro _ rfl
  refine SOps.reSlot (t := 55) rfl (show _ = DV.tup [DLns [], .v (.int .i64 0), .v (.int .i64 1)] by rw [aw_lines4]) ?_
  refine SOps.move rfl ?_
  refine SOps.extract rfl rfl ?_
  refine SOps.extract rfl rfl ?_
  refine SOps.extract rfl rfl ?_
  refine SOps.assign rfl ?_
  refine SOps.assign rfl ?_
  refine SOps.assign rfl ?_
  refine SOps.nil ?_
  refine SCode.seq ?_
  refine SCode.seqR ?_
  refine SOps.move rfl ?_
  refine SOps.bin rfl rfl rfl ?_
  refine SOps.reSlot (t := 60) rfl (show _ = DV.v (.bool false) from congrArg (fun b => DV.v (.bool b)) (rfl)) ?_
  refine SOps.move rfl ?_
  refine SOps.move rfl ?_
  refine SOps.bin rfl rfl rfl ?_
  refine SOps.reSlot (t := 63) rfl (show _ = DV.v (.bool false) from congrArg (fun b => DV.v (.bool b)) (rfl)) ?_
  refine SOps.pick rfl rfl ?_
  refine SOps.move rfl ?_
  refine SOps.move rfl ?_
  refine SOps.bin rfl rfl rfl ?_
  refine SOps.reSlot (t := 67) rfl (show _ = DV.v (.bool false) from congrArg (fun b => DV.v (.bool b)) (rfl)) ?_
  refine SOps.pick rfl rfl ?_
  refine SOps.move rfl ?_
  refine SOps.move rfl ?_
  refine SOps.bin rfl rfl rfl ?_
  refine SOps.reSlot (t := 71) rfl (show _ = DV.v (.bool false) from congrArg (fun b => DV.v (.bool b)) (rfl)) ?_
  refine SOps.pick rfl rfl ?_
  refine SOps.move rfl ?_
  refine SOps.move rfl ?_
  refine SOps.bin rfl rfl rfl ?_
  refine SOps.reSlot (t := 75) rfl (show _ = DV.v (.bool false) from congrArg (fun b => DV.v (.bool b)) (rfl)) ?_
  refine SOps.pick rfl rfl ?_
  refine SOps.move rfl ?_
  refine SOps.move rfl ?_
  refine SOps.bin rfl rfl rfl ?_
  refine SOps.reSlot (t := 79) rfl (show _ = DV.v (.bool false) from congrArg (fun b => DV.v (.bool b)) (rfl)) ?_
  refine SOps.pick rfl rfl ?_
  refine SOps.move rfl ?_
  refine SOps.move rfl ?_
  refine SOps.lenM rfl sliceB_25_48_2 ?_
  refine SOps.bin rfl rfl rfl ?_
  refine SOps.reSlot (t := 84) rfl (show _ = DV.v (.bool false) from congrArg (fun b => DV.v (.bool b)) (rfl)) ?_
  refine SOps.pick rfl rfl ?_
  refine SOps.move rfl ?_
  refine SOps.move rfl ?_
  refine SOps.lenM rfl sliceB_25_48_2 ?_
  refine SOps.bin rfl rfl rfl ?_
  refine SOps.reSlot (t := 89) rfl (show _ = DV.v (.bool false) from congrArg (fun b => DV.v (.bool b)) (rfl)) ?_
  refine SOps.pick rfl rfl ?_
  refine SOps.move rfl ?_
  refine SOps.move rfl ?_
  refine SOps.lenM rfl sliceB_25_48_2 ?_
  refine SOps.bin rfl rfl rfl ?_
  refine SOps.reSlot (t := 94) rfl (show _ = DV.v (.bool false) from congrArg (fun b => DV.v (.bool b)) (rfl)) ?_
  refine SOps.pick rfl rfl ?_
  refine SOps.nil ?_
  refine SCode.cond rfl (fun h => by cases h) (fun _ => ?_)
  refine SCode.skip ?_
  show SCode _ _ _ _
  refine SCode.seqR ?_
  refine SOps.move rfl ?_
  refine SOps.bin rfl rfl rfl ?_
  refine SOps.reSlot (t := 97) rfl (show _ = DV.v (.bool true) from congrArg (fun b => DV.v (.bool b)) (rfl)) ?_
  refine SOps.move rfl ?_
  refine SOps.move rfl ?_
  refine SOps.bin rfl rfl rfl ?_
  refine SOps.reSlot (t := 100) rfl (show _ = DV.v (.bool true) from congrArg (fun b => DV.v (.bool b)) (rfl)) ?_
  refine SOps.pick rfl rfl ?_
  refine SOps.move rfl ?_
  refine SOps.move rfl ?_
  refine SOps.bin rfl rfl rfl ?_
  refine SOps.reSlot (t := 104) rfl (show _ = DV.v (.bool true) from congrArg (fun b => DV.v (.bool b)) (rfl)) ?_
  refine SOps.pick rfl rfl ?_
  refine SOps.move rfl ?_
  refine SOps.move rfl ?_
  refine SOps.indexM (1) rfl rfl sliceB_25_48_2 (by first | exact Nat.le_of_ble_eq_true rfl | omega | (simp only [lenB] <;> omega)) (by first | exact Nat.le_of_ble_eq_true rfl | omega | (simp only [lenB] <;> omega)) ?_
  refine SOps.loadPinA rfl aggB_48_2 (Nat.le_of_ble_eq_true rfl) ?_
  refine SOps.callP (sText ⟨[wB, wC], false⟩ (fun w hw => by simp only [List.mem_cons, List.not_mem_nil, or_false] at hw; rcases hw with rfl | rfl <;> exact Nat.le_of_ble_eq_true rfl) (Nat.le_of_ble_eq_true rfl)) rfl ?_
  rintro _ rfl
  refine SOps.bin rfl rfl rfl ?_
  refine SOps.reSlot (t := 111) rfl (show _ = DV.v (.bool true) from congrArg (fun b => DV.v (.bool b)) (decide_eq_true aw_t1)) ?_
  refine SOps.pick rfl rfl ?_
  refine SOps.move rfl ?_
  refine SOps.move rfl ?_
  refine SOps.indexM (0) rfl rfl sliceB_25_48_2 (by first | exact Nat.le_of_ble_eq_true rfl | omega | (simp only [lenB] <;> omega)) (by first | exact Nat.le_of_ble_eq_true rfl | omega | (simp only [lenB] <;> omega)) ?_
  refine SOps.loadPinA rfl aggB_48_2 (Nat.le_of_ble_eq_true rfl) ?_
  refine SOps.callP (sText ⟨[wA, wB], false⟩ (fun w hw => by simp only [List.mem_cons, List.not_mem_nil, or_false] at hw; rcases hw with rfl | rfl <;> exact Nat.le_of_ble_eq_true rfl) (Nat.le_of_ble_eq_true rfl)) rfl ?_
  rintro _ rfl
  refine SOps.bin rfl rfl rfl ?_
  refine SOps.reSlot (t := 118) rfl (show _ = DV.v (.bool true) from congrArg (fun b => DV.v (.bool b)) (decide_eq_true aw_t2)) ?_
  refine SOps.pick rfl rfl ?_
  refine SOps.move rfl ?_
  refine SOps.move rfl ?_
  refine SOps.indexM (0) rfl rfl sliceB_25_48_2 (by first | exact Nat.le_of_ble_eq_true rfl | omega | (simp only [lenB] <;> omega)) (by first | exact Nat.le_of_ble_eq_true rfl | omega | (simp only [lenB] <;> omega)) ?_
  refine SOps.loadPinA rfl aggB_48_2 (Nat.le_of_ble_eq_true rfl) ?_
  refine SOps.callP (sText ⟨[wH1], true⟩ (fun w hw => by rw [List.mem_singleton] at hw; subst hw; exact Nat.le_of_ble_eq_true rfl) (Nat.le_of_ble_eq_true rfl)) rfl ?_
  rintro _ rfl
  refine SOps.bin rfl rfl rfl ?_
  refine SOps.reSlot (t := 125) rfl (show _ = DV.v (.bool true) from congrArg (fun b => DV.v (.bool b)) (decide_eq_true aw_t3)) ?_
  refine SOps.pick rfl rfl ?_
  refine SOps.move rfl ?_
  refine SOps.move rfl ?_
  refine SOps.callP (sValid hV aw2 6 small_aw2) rfl ?_
  rintro _ rfl
  refine SOps.reSlot (t := 129) rfl (show _ = DV.v (.bool true) by rw [aw_valid]) ?_
  refine SOps.pick rfl rfl ?_
  refine SOps.assign rfl ?_
  refine SOps.nil ?_
  refine SCode.ret ?_
  exact ⟨_, Res.one (.tmp rfl), rfl, rfl⟩
end Go.GH
namespace Go.GH
open Go Go.Lib
theorem wide_ok {l : List Ln} (h : wideLs l = false) : l.length ≤ 30 ∧ ∀ x ∈ l, x.words.length ≤ 30 ∧ ∀ w ∈ x.words, w.size ≤ 300 := by
  unfold wideLs at h
  rw [Bool.or_eq_false_iff, decide_eq_false_iff_not, List.any_eq_false] at h
  exact ⟨by omega, fun x hx => bigL_iff.1 (by have := h.2 x hx; simpa using this)⟩
theorem wide_ln {l : List Ln} (h : wideLs l = false) : ∀ x ∈ l, LnOK x := fun x hx => by
  have h1 := (wide_ok h).2 x hx
  exact ⟨by omega, fun w hw => by have := h1.2 w hw; omega⟩
theorem many_ok {l : List Bx} (h : manyB l = false) : l.length ≤ 40 ∧ ∀ x ∈ l, x.word.size ≤ 100 ∧ x.pts.length ≤ 20 := by
  unfold manyB at h
  rw [Bool.or_eq_false_iff, decide_eq_false_iff_not, List.any_eq_false] at h
  exact ⟨by omega, fun x hx => by
    have h1 := h.1 x hx
    rw [Bool.not_eq_true] at h1
    have h2 : ¬ bigB 100 20 x = true := by rw [h1]; simp
    rw [bigB_iff] at h2; omega⟩
end Go.GH
namespace Go.GH
open Go Go.Lib
def addW (out : List ByteArray) (j : Bool) (w : ByteArray) : List ByteArray := if j = true ∧ 0 < out.length then out.set (out.length - 1) (out.getD (out.length - 1) .empty ++ w) else out ++ [w]
def joinK (out : List ByteArray) (h : Bool) (ws : List ByteArray) : Nat → List ByteArray
  | 0 => out
  | k + 1 => addW (joinK out h ws k) (decide (k = 0) && h) (ws.getD k .empty)
def prevH (l : List Ln) (i : Nat) : Bool := decide (0 < i) && (lnAt l (i - 1)).hyph
def joinI (l : List Ln) : Nat → List ByteArray
  | 0 => []
  | i + 1 => joinK (joinI l i) (prevH l i) (lnAt l i).words (lnAt l i).words.length
def joinL (l : List Ln) : List ByteArray := joinI l l.length
theorem addW_app {out : List ByteArray} {j : Bool} {w : ByteArray} (h : j = false ∨ out.length = 0) : addW out j w = out ++ [w] := by
  unfold addW
  rw [if_neg (by rcases h with h | h <;> intro h2 <;> simp_all)]
theorem addW_set {out : List ByteArray} {w : ByteArray} (h : 0 < out.length) : addW out true w = out.set (out.length - 1) (out.getD (out.length - 1) .empty ++ w) := by
  unfold addW
  rw [if_pos ⟨rfl, h⟩]
theorem addW_len (out : List ByteArray) (j : Bool) (w : ByteArray) : (addW out j w).length ≤ out.length + 1 := by
  unfold addW
  split
  · rw [List.length_set]; omega
  · simp
theorem addW_size {out : List ByteArray} {j : Bool} {w : ByteArray} {A B : Nat} (h : ∀ x ∈ out, x.size ≤ A) (hw : w.size ≤ B) : ∀ x ∈ addW out j w, x.size ≤ A + B := by
  intro x hx
  unfold addW at hx
  split at hx
  · rename_i h2
    rcases List.mem_or_eq_of_mem_set hx with h3 | h3
    · have := h x h3; omega
    · rw [h3, ByteArray.size_append, getD_lt (by omega)]
      have := h _ (List.getElem_mem (show out.length - 1 < out.length by omega))
      omega
  · rcases List.mem_append.1 hx with h3 | h3
    · have := h x h3; omega
    · rw [List.mem_singleton.1 h3]; omega
theorem joinK_bound {out : List ByteArray} {h : Bool} {ws : List ByteArray} {A : Nat} (h1 : ∀ x ∈ out, x.size ≤ A) (h2 : ∀ w ∈ ws, w.size ≤ 1000) : ∀ k, (joinK out h ws k).length ≤ out.length + k ∧ ∀ x ∈ joinK out h ws k, x.size ≤ A + 1000 * k
  | 0 => ⟨by show out.length ≤ _; omega, fun x hx => by have := h1 x hx; omega⟩
  | k + 1 => by
    obtain ⟨ih1, ih2⟩ := joinK_bound (h := h) h1 h2 k
    rw [joinK]
    refine ⟨by have := addW_len (joinK out h ws k) (decide (k = 0) && h) (ws.getD k .empty); omega, fun x hx => ?_⟩
    have hw : (ws.getD k .empty).size ≤ 1000 := by
      rw [List.getD_eq_getElem?_getD]
      rcases Nat.lt_or_ge k ws.length with h3 | h3
      · rw [List.getElem?_eq_getElem h3]; exact h2 _ (List.getElem_mem h3)
      · rw [List.getElem?_eq_none h3]; exact Nat.zero_le _
    rw [Nat.mul_add, Nat.mul_one, ← Nat.add_assoc]
    exact addW_size ih2 hw x hx
theorem joinI_bound0 {l : List Ln} {M N : Nat} (hM : M = 1000) (hN : N = 1000000) (h : ∀ x ∈ l, LnOK x) (i : Nat) (hi : i ≤ l.length) : (joinI l i).length ≤ M * i ∧ ∀ x ∈ joinI l i, x.size ≤ N * i := by
  induction i with
  | zero => exact ⟨by simp [joinI], fun x hx => by simp [joinI] at hx⟩
  | succ i ih =>
    obtain ⟨ih1, ih2⟩ := ih (by omega)
    have hil : i < l.length := by omega
    have hk := h _ (List.getElem_mem hil)
    have e : joinI l (i + 1) = joinK (joinI l i) (prevH l i) (l[i]).words (l[i]).words.length := by
      rw [← lnAt_lt hil]; rfl
    rw [e]
    obtain ⟨h1, h2⟩ := joinK_bound (h := prevH l i) ih2 hk.2 (l[i]).words.length
    have h3 := hk.1
    rw [Nat.mul_add, Nat.mul_add, Nat.mul_one, Nat.mul_one]
    exact ⟨by omega, fun x hx => by have := h2 x hx; omega⟩
theorem joinI_bound {l : List Ln} (h : ∀ x ∈ l, LnOK x) (i : Nat) (hi : i ≤ l.length) : (joinI l i).length ≤ 1000 * i ∧ ∀ x ∈ joinI l i, x.size ≤ 1000000 * i := joinI_bound0 rfl rfl h i hi
theorem accD_ne {sz b : Nat} {es : List (List DV)} (h : 0 < es.length) : accD sz b es = .sl b sz 0 es.length := by
  cases es with
  | nil => simp at h
  | cons x l => rfl
theorem accH_ne {e sz b : Nat} {es : List (List DV)} (h : 0 < es.length) : accH e sz b es = [(b, .row e sz es)] := by
  cases es with
  | nil => simp at h
  | cons x l => rfl
end Go.GH
namespace Go.GH
open Go Go.Proofs
variable {E : Env}
theorem sJoin (l : List Ln) (hk : ∀ x ∈ l, LnOK x) (hl : l.length ≤ 1000) : GCall Tryd.prog E 32 [DLns l] [] (fun d H => d = DStrs (joinL l) ∧ H = []) := by
  refine GCall.body (C := ⟨Tryd.prog, E, true⟩) Tryd.func32 rfl (fun _ => rfl) (by kernel_rfl) rfl ?_
  refine SCode.seqR ?_
  refine SOps.assign rfl ?_
  refine SOps.nil ?_
  refine SCode.seqR ?_
  refine SOps.assign rfl ?_
  refine SOps.nil ?_
  refine SCode.seq ?_
  refine SCode.seqR ?_
  refine SOps.move rfl ?_
  refine SOps.lenM rfl sliceB_25_48_2 ?_
  refine SOps.move rfl ?_
  refine SOps.nil ?_
  refine SCode.block ?_
  refine SCode.loop2 (fun (i : Nat) (b : Nat) => (⟨58, [(0, DLns l), (3, accD 1 b ((joinI l i).map encS)), (8, DLns l), (9, .v (.int .i64 (l.length : Int))), (10, .v (.int .i64 (i : Int)))], accH 9 1 b ((joinI l i).map encS) ++ []⟩ : St)) (fun (i : Nat) (b : Nat) => i ≤ l.length) (fun (i : Nat) (b : Nat) => l.length - i) (0) (0) (by exact Nat.zero_le _) (St.Le.of ⟨(by first | rfl | (show some _ = some _; simp)), (by first | rfl | (show some _ = some _; simp)), (by first | rfl | (show some _ = some _; simp)), (by first | rfl | (show some _ = some _; simp)), (by first | rfl | (show some _ = some _; simp)), trivial⟩ rfl (by first | rfl | (simp))) ?_
  rintro i b hin
  refine SCode.seqR ?_
  refine SOps.bin rfl rfl rfl ?_
  refine SOps.nil ?_
  refine SCode.seq ?_
  refine SCode.cond rfl (fun hc1 => ?_) (fun hc1 => ?_)
  · try simp only [decide_eq_true_eq, decide_eq_false_iff_not, Bool.not_eq_true', Bool.not_eq_false', beq_iff_eq, bne_iff_ne, ne_eq, beq_eq_false_iff_ne, bne_eq_false_iff_eq, Int.not_lt, Int.not_le, Nat.not_lt, Nat.not_le, Int.ofNat_lt, Int.ofNat_le, Bool.not_eq_eq_eq_not, Bool.not_true, Bool.not_false] at hc1
    refine SCode.skip ?_
    show SCode _ _ _ _
    refine SCode.seq ?_
    refine SCode.block ?_
    refine SCode.seqR ?_
    refine SOps.move rfl ?_
    refine SOps.indexM (i) rfl rfl sliceB_25_48_2 (by first | omega | (simp only [lenB] <;> omega)) (by first | omega | (simp only [lenB] <;> omega)) ?_
    refine SOps.loadPinA rfl aggB_48_2 (Nat.le_of_ble_eq_true rfl) ?_
    refine SOps.alloc (sz := 2) zeroIs_48 (fun b0 hb_0 => ?_)
    refine SOps.assign rfl ?_
    refine SOps.storeAM 0 rfl rfl aggB_48_2 rfl ?_
    refine SOps.freezeRef (t := 5) 0 0 rfl rfl rfl rfl rfl ?_
    refine SOps.nil ?_
    refine SCode.seqR ?_
    have hil : i < l.length := by omega
    have hki := hk _ (List.getElem_mem hil)
    have hjb := joinI_bound hk i (by omega)
    have hli := lnAt_lt hil
    refine SOps.fieldPin rfl fieldB_48_0_0 ?_
    refine SOps.loadPin rfl flatB_46 ?_
    refine SOps.lenM rfl sliceB_46_9_1 ?_
    refine SOps.move rfl ?_
    refine SOps.nil ?_
    refine SCode.block ?_
    refine SCode.loop2 (fun (k : Nat) (c : Nat) => (⟨58, [(0, DLns l), (3, accD 1 c ((joinK (joinI l i) (prevH l i) (l[i]).words k).map encS)), (4, .v (.int .i64 (i : Int))), (5, .ipin (encLn (l[i]))), (8, DLns l), (9, .v (.int .i64 (l.length : Int))), (10, .v (.int .i64 (i : Int))), (16, DStrs (l[i]).words), (17, .v (.int .i64 ((l[i]).words.length : Int))), (18, .v (.int .i64 (k : Int)))], accH 9 1 c ((joinK (joinI l i) (prevH l i) (l[i]).words k).map encS) ++ []⟩ : St)) (fun (k : Nat) (c : Nat) => k ≤ (l[i]).words.length) (fun (k : Nat) (c : Nat) => (l[i]).words.length - k) (0) (b) (by exact Nat.zero_le _) (St.Le.of ⟨(by first | rfl | (show some _ = some _; simp)), (by first | rfl | (show some _ = some _; simp)), (by first | rfl | (show some _ = some _; simp)), (by first | rfl | (show some _ = some _; simp)), (by first | rfl | (show some _ = some _; simp)), (by first | rfl | (show some _ = some _; simp)), (by first | rfl | (show some _ = some _; simp)), (by first | rfl | (show some _ = some _; simp)), (by first | rfl | (show some _ = some _; simp)), (by first | rfl | (show some _ = some _; simp)), trivial⟩ rfl (by first | rfl | (simp))) ?_
    rintro k c hkn
    refine SCode.seqR ?_
    refine SOps.bin rfl rfl rfl ?_
    refine SOps.nil ?_
    refine SCode.seq ?_
    refine SCode.cond rfl (fun hc2 => ?_) (fun hc2 => ?_)
    · try simp only [decide_eq_true_eq, decide_eq_false_iff_not, Bool.not_eq_true', Bool.not_eq_false', beq_iff_eq, bne_iff_ne, ne_eq, beq_eq_false_iff_ne, bne_eq_false_iff_eq, Int.not_lt, Int.not_le, Nat.not_lt, Nat.not_le, Int.ofNat_lt, Int.ofNat_le, Bool.not_eq_eq_eq_not, Bool.not_true, Bool.not_false] at hc2
      refine SCode.skip ?_
      show SCode _ _ _ _
      refine SCode.seq ?_
      refine SCode.block ?_
      refine SCode.seqR ?_
      refine SOps.move rfl ?_
      refine SOps.indexM (k) rfl rfl sliceB_46_9_1 (by first | omega | (simp only [lenB] <;> omega)) (by first | omega | (simp only [lenB] <;> omega)) ?_
      refine SOps.loadPin rfl flatB_9 ?_
      refine SOps.assign rfl ?_
      refine SOps.assign rfl ?_
      refine SOps.nil ?_
      refine SCode.seqR ?_
      have hkw : k < (l[i]).words.length := by omega
      have hww := hki.2 _ (List.getElem_mem hkw)
      have hkb := joinK_bound (h := prevH l i) hjb.2 hki.2 k
      have hki1 := hki.1
      have hml : (List.map encS (joinK (joinI l i) (prevH l i) (l[i]).words k)).length = (joinK (joinI l i) (prevH l i) (l[i]).words k).length := List.length_map ..
      have hJs : (joinK (joinI l i) (prevH l i) (l[i]).words (k + 1)) = addW (joinK (joinI l i) (prevH l i) (l[i]).words k) (decide (k = 0) && prevH l i) ((l[i]).words[k]) := by rw [joinK, getD_lt hkw]
      refine SOps.move rfl ?_
      refine SOps.bin rfl rfl rfl ?_
      refine SOps.move rfl ?_
      refine SOps.caseB 25 rfl (fun hb3 => ?_) (fun hb3 => ?_)
      · try simp only [decide_eq_true_eq, decide_eq_false_iff_not, Bool.not_eq_true', Bool.not_eq_false', beq_iff_eq, bne_iff_ne, ne_eq, beq_eq_false_iff_ne, bne_eq_false_iff_eq, Int.not_lt, Int.not_le, Nat.not_lt, Nat.not_le, Int.ofNat_lt, Int.ofNat_le, Bool.not_eq_eq_eq_not, Bool.not_true, Bool.not_false] at hb3
        refine SOps.move rfl ?_
        refine SOps.bin rfl rfl rfl ?_
        refine SOps.pick rfl rfl ?_
        refine SOps.move rfl ?_
        refine SOps.caseB 29 rfl (fun hb4 => ?_) (fun hb4 => ?_)
        · try simp only [decide_eq_true_eq, decide_eq_false_iff_not, Bool.not_eq_true', Bool.not_eq_false', beq_iff_eq, bne_iff_ne, ne_eq, beq_eq_false_iff_ne, bne_eq_false_iff_eq, Int.not_lt, Int.not_le, Nat.not_lt, Nat.not_le, Int.ofNat_lt, Int.ofNat_le, Bool.not_eq_eq_eq_not, Bool.not_true, Bool.not_false] at hb4
          refine SOps.move rfl ?_
          refine SOps.move rfl ?_
          refine SOps.subI rfl rfl (by first | omega | (simp only [lenB] <;> omega)) (by first | omega | (simp only [lenB] <;> omega)) ?_
          refine SOps.indexM ((i - 1)) rfl rfl sliceB_25_48_2 (by first | omega | (simp only [lenB] <;> omega)) (by first | omega | (simp only [lenB] <;> omega)) ?_
          refine SOps.fieldPin rfl fieldB_48_1_1 ?_
          refine SOps.loadPin rfl flatB_4 ?_
          refine SOps.pick rfl rfl ?_
          refine SOps.move rfl ?_
          refine SOps.caseB 37 rfl (fun hb5 => ?_) (fun hb5 => ?_)
          · try simp only [decide_eq_true_eq, decide_eq_false_iff_not, Bool.not_eq_true', Bool.not_eq_false', beq_iff_eq, bne_iff_ne, ne_eq, beq_eq_false_iff_ne, bne_eq_false_iff_eq, Int.not_lt, Int.not_le, Nat.not_lt, Nat.not_le, Int.ofNat_lt, Int.ofNat_le, Bool.not_eq_eq_eq_not, Bool.not_true, Bool.not_false] at hb5
            refine SOps.move rfl ?_
            refine SOps.lenAcc rfl sliceB_46_9_1 ?_
            refine SOps.bin rfl rfl rfl ?_
            refine SOps.pick rfl rfl ?_
            refine SOps.nil ?_
            refine SCode.cond rfl (fun hc6 => ?_) (fun hc6 => ?_)
            · try simp only [decide_eq_true_eq, decide_eq_false_iff_not, Bool.not_eq_true', Bool.not_eq_false', beq_iff_eq, bne_iff_ne, ne_eq, beq_eq_false_iff_ne, bne_eq_false_iff_eq, Int.not_lt, Int.not_le, Nat.not_lt, Nat.not_le, Int.ofNat_lt, Int.ofNat_le, Bool.not_eq_eq_eq_not, Bool.not_true, Bool.not_false] at hc6
              have hJp : 0 < (joinK (joinI l i) (prevH l i) (l[i]).words k).length := by omega
              have hJl : ((joinK (joinI l i) (prevH l i) (l[i]).words k).length - 1) < (joinK (joinI l i) (prevH l i) (l[i]).words k).length := by omega
              have hJb := hkb.2 _ (List.getElem_mem hJl)
              have hJa : (joinK (joinI l i) (prevH l i) (l[i]).words (k + 1)) = (joinK (joinI l i) (prevH l i) (l[i]).words k).set ((joinK (joinI l i) (prevH l i) (l[i]).words k).length - 1) ((joinK (joinI l i) (prevH l i) (l[i]).words k)[((joinK (joinI l i) (prevH l i) (l[i]).words k).length - 1)] ++ (l[i]).words[k]) := by rw [hJs, show (decide (k = 0) && prevH l i) = true from by rw [decide_eq_true (show k = 0 by omega), prevH, decide_eq_true (show 0 < i by omega), lnAt_lt (show i - 1 < l.length by omega)]; simp_all, addW_set hJp, getD_lt hJl]
              refine SCode.region ?_
              refine SOps.reSlot (t := 3) rfl (show _ = DV.sl c 1 0 (((joinK (joinI l i) (prevH l i) (l[i]).words k).map encS)).length from accD_ne (by rw [List.length_map]; omega)) ?_
              refine SOps.reHeap (H' := [(c, DO.row 9 1 ((joinK (joinI l i) (prevH l i) (l[i]).words k).map encS))]) (by rw [accH_ne (by rw [List.length_map]; omega)] <;> rfl) ?_
              refine SOps.move rfl ?_
              refine SOps.move rfl ?_
              refine SOps.lenSl rfl sliceB_46_9_1 ?_
              refine SOps.subI rfl rfl (by first | omega | (simp only [lenB] <;> omega)) (by first | omega | (simp only [lenB] <;> omega)) ?_
              refine SOps.indexS (((joinK (joinI l i) (prevH l i) (l[i]).words k).length - 1)) rfl rfl sliceB_46_9_1 (by first | omega | (simp only [lenB] <;> omega)) (by first | omega | (simp only [lenB] <;> omega)) ?_
              refine SOps.loadK 0 (((joinK (joinI l i) (prevH l i) (l[i]).words k).length - 1)) rfl flatB_9 rfl (by first | omega | (simp only [lenB] <;> omega)) (by first | omega | (simp; done) | (simp; omega)) rfl ?_
              refine SOps.move rfl ?_
              refine SOps.concat rfl rfl (by simp only [lenB]; omega) ?_
              refine SOps.indexS (((joinK (joinI l i) (prevH l i) (l[i]).words k).length - 1)) rfl rfl sliceB_46_9_1 (by first | omega | (simp only [lenB] <;> omega)) (by first | omega | (simp only [lenB] <;> omega)) ?_
              refine SOps.storeK 0 (((joinK (joinI l i) (prevH l i) (l[i]).words k).length - 1)) (v := ((joinK (joinI l i) (prevH l i) (l[i]).words k)[((joinK (joinI l i) (prevH l i) (l[i]).words k).length - 1)] ++ (l[i]).words[k])) rfl rfl oneB_9 rfl (by first | omega | (simp only [lenB] <;> omega)) (by first | omega | (simp; done) | (simp; omega)) rfl (fun _ => rfl) ?_
              refine SOps.nil ?_
              show SCode _ _ _ _
              refine SCode.region ?_
              refine SOps.addI rfl rfl (by first | omega | (simp only [lenB] <;> omega)) (by first | omega | (simp only [lenB] <;> omega)) ?_
              refine SOps.move rfl ?_
              refine SOps.nil ?_
              exact ⟨k + 1, c, by omega, by omega, St.Le.of ⟨rfl, (by show some _ = some _; rw [hJa, accD_ne (by rw [List.length_map, List.length_set]; omega)]; simp only [List.length_map, List.length_set]), rfl, rfl, rfl, rfl, rfl, rfl, rfl, rfl, trivial⟩ rfl (by rw [hJa, accH_ne (by rw [List.length_map, List.length_set]; omega)] <;> rfl)⟩
            · try simp only [decide_eq_true_eq, decide_eq_false_iff_not, Bool.not_eq_true', Bool.not_eq_false', beq_iff_eq, bne_iff_ne, ne_eq, beq_eq_false_iff_ne, bne_eq_false_iff_eq, Int.not_lt, Int.not_le, Nat.not_lt, Nat.not_le, Int.ofNat_lt, Int.ofNat_le, Bool.not_eq_eq_eq_not, Bool.not_true, Bool.not_false] at hc6
              have hJa : (joinK (joinI l i) (prevH l i) (l[i]).words (k + 1)) = (joinK (joinI l i) (prevH l i) (l[i]).words k) ++ [(l[i]).words[k]] := by rw [hJs]; exact addW_app (.inr (by omega))
              refine SCode.region ?_
              refine SOps.move rfl ?_
              refine SOps.move rfl ?_
              refine SOps.litF rfl sliceB_46_9_1 zeroIs_9 rfl ?_
              refine SOps.appendAcc [] [] sliceB_46_9_1 elemB_9_1_16 rfl rfl rfl SrcD.isl (by simp) (by first | (simp [lenB] <;> (first | omega | (simp only [lenB] <;> omega))) | (simp only [lenB]; (first | omega | (simp only [lenB] <;> omega)))) (by first | (simp <;> (first | omega | (simp only [lenB] <;> omega))) | (first | omega | (simp only [lenB] <;> omega))) (fun b1 => ?_)
              refine SOps.assign rfl ?_
              refine SOps.nil ?_
              show SCode _ _ _ _
              refine SCode.region ?_
              refine SOps.addI rfl rfl (by first | omega | (simp only [lenB] <;> omega)) (by first | omega | (simp only [lenB] <;> omega)) ?_
              refine SOps.move rfl ?_
              refine SOps.nil ?_
              exact ⟨k + 1, b1, by omega, by omega, St.Le.of ⟨rfl, (by show some _ = some _; rw [hJa, List.map_append] <;> rfl), rfl, rfl, rfl, rfl, rfl, rfl, rfl, rfl, trivial⟩ rfl (by rw [hJa, List.map_append] <;> rfl)⟩
          · try simp only [decide_eq_true_eq, decide_eq_false_iff_not, Bool.not_eq_true', Bool.not_eq_false', beq_iff_eq, bne_iff_ne, ne_eq, beq_eq_false_iff_ne, bne_eq_false_iff_eq, Int.not_lt, Int.not_le, Nat.not_lt, Nat.not_le, Int.ofNat_lt, Int.ofNat_le, Bool.not_eq_eq_eq_not, Bool.not_true, Bool.not_false] at hb5
            have hJa : (joinK (joinI l i) (prevH l i) (l[i]).words (k + 1)) = (joinK (joinI l i) (prevH l i) (l[i]).words k) ++ [(l[i]).words[k]] := by rw [hJs]; exact addW_app (.inl (by rw [prevH, lnAt_lt (show i - 1 < l.length by omega)]; simp_all))
            refine SOps.skip rfl ?_
            refine SOps.skip rfl ?_
            refine SOps.skip rfl ?_
            refine SOps.pick rfl rfl ?_
            refine SOps.nil ?_
            refine SCode.cond rfl (fun h => by cases h) (fun _ => ?_)
            refine SCode.region ?_
            refine SOps.move rfl ?_
            refine SOps.move rfl ?_
            refine SOps.litF rfl sliceB_46_9_1 zeroIs_9 rfl ?_
            refine SOps.appendAcc [] [] sliceB_46_9_1 elemB_9_1_16 rfl rfl rfl SrcD.isl (by simp) (by first | (simp [lenB] <;> (first | omega | (simp only [lenB] <;> omega))) | (simp only [lenB]; (first | omega | (simp only [lenB] <;> omega)))) (by first | (simp <;> (first | omega | (simp only [lenB] <;> omega))) | (first | omega | (simp only [lenB] <;> omega))) (fun b2 => ?_)
            refine SOps.assign rfl ?_
            refine SOps.nil ?_
            show SCode _ _ _ _
            refine SCode.region ?_
            refine SOps.addI rfl rfl (by first | omega | (simp only [lenB] <;> omega)) (by first | omega | (simp only [lenB] <;> omega)) ?_
            refine SOps.move rfl ?_
            refine SOps.nil ?_
            exact ⟨k + 1, b2, by omega, by omega, St.Le.of ⟨rfl, (by show some _ = some _; rw [hJa, List.map_append] <;> rfl), rfl, rfl, rfl, rfl, rfl, rfl, rfl, rfl, trivial⟩ rfl (by rw [hJa, List.map_append] <;> rfl)⟩
        · try simp only [decide_eq_true_eq, decide_eq_false_iff_not, Bool.not_eq_true', Bool.not_eq_false', beq_iff_eq, bne_iff_ne, ne_eq, beq_eq_false_iff_ne, bne_eq_false_iff_eq, Int.not_lt, Int.not_le, Nat.not_lt, Nat.not_le, Int.ofNat_lt, Int.ofNat_le, Bool.not_eq_eq_eq_not, Bool.not_true, Bool.not_false] at hb4
          have hJa : (joinK (joinI l i) (prevH l i) (l[i]).words (k + 1)) = (joinK (joinI l i) (prevH l i) (l[i]).words k) ++ [(l[i]).words[k]] := by rw [hJs]; exact addW_app (.inl (by rw [prevH, decide_eq_false (show ¬ 0 < i by omega), Bool.false_and, Bool.and_false]))
          refine SOps.skip rfl ?_
          refine SOps.skip rfl ?_
          refine SOps.skip rfl ?_
          refine SOps.skip rfl ?_
          refine SOps.skip rfl ?_
          refine SOps.skip rfl ?_
          refine SOps.pick rfl rfl ?_
          refine SOps.move rfl ?_
          refine SOps.skip rfl ?_
          refine SOps.skip rfl ?_
          refine SOps.skip rfl ?_
          refine SOps.pick rfl rfl ?_
          refine SOps.nil ?_
          refine SCode.cond rfl (fun h => by cases h) (fun _ => ?_)
          refine SCode.region ?_
          refine SOps.move rfl ?_
          refine SOps.move rfl ?_
          refine SOps.litF rfl sliceB_46_9_1 zeroIs_9 rfl ?_
          refine SOps.appendAcc [] [] sliceB_46_9_1 elemB_9_1_16 rfl rfl rfl SrcD.isl (by simp) (by first | (simp [lenB] <;> (first | omega | (simp only [lenB] <;> omega))) | (simp only [lenB]; (first | omega | (simp only [lenB] <;> omega)))) (by first | (simp <;> (first | omega | (simp only [lenB] <;> omega))) | (first | omega | (simp only [lenB] <;> omega))) (fun b3 => ?_)
          refine SOps.assign rfl ?_
          refine SOps.nil ?_
          show SCode _ _ _ _
          refine SCode.region ?_
          refine SOps.addI rfl rfl (by first | omega | (simp only [lenB] <;> omega)) (by first | omega | (simp only [lenB] <;> omega)) ?_
          refine SOps.move rfl ?_
          refine SOps.nil ?_
          exact ⟨k + 1, b3, by omega, by omega, St.Le.of ⟨rfl, (by show some _ = some _; rw [hJa, List.map_append] <;> rfl), rfl, rfl, rfl, rfl, rfl, rfl, rfl, rfl, trivial⟩ rfl (by rw [hJa, List.map_append] <;> rfl)⟩
      · try simp only [decide_eq_true_eq, decide_eq_false_iff_not, Bool.not_eq_true', Bool.not_eq_false', beq_iff_eq, bne_iff_ne, ne_eq, beq_eq_false_iff_ne, bne_eq_false_iff_eq, Int.not_lt, Int.not_le, Nat.not_lt, Nat.not_le, Int.ofNat_lt, Int.ofNat_le, Bool.not_eq_eq_eq_not, Bool.not_true, Bool.not_false] at hb3
        have hJa : (joinK (joinI l i) (prevH l i) (l[i]).words (k + 1)) = (joinK (joinI l i) (prevH l i) (l[i]).words k) ++ [(l[i]).words[k]] := by rw [hJs]; exact addW_app (.inl (by rw [decide_eq_false (by omega), Bool.false_and]))
        refine SOps.skip rfl ?_
        refine SOps.skip rfl ?_
        refine SOps.pick rfl rfl ?_
        refine SOps.move rfl ?_
        refine SOps.skip rfl ?_
        refine SOps.skip rfl ?_
        refine SOps.skip rfl ?_
        refine SOps.skip rfl ?_
        refine SOps.skip rfl ?_
        refine SOps.skip rfl ?_
        refine SOps.pick rfl rfl ?_
        refine SOps.move rfl ?_
        refine SOps.skip rfl ?_
        refine SOps.skip rfl ?_
        refine SOps.skip rfl ?_
        refine SOps.pick rfl rfl ?_
        refine SOps.nil ?_
        refine SCode.cond rfl (fun h => by cases h) (fun _ => ?_)
        refine SCode.region ?_
        refine SOps.move rfl ?_
        refine SOps.move rfl ?_
        refine SOps.litF rfl sliceB_46_9_1 zeroIs_9 rfl ?_
        refine SOps.appendAcc [] [] sliceB_46_9_1 elemB_9_1_16 rfl rfl rfl SrcD.isl (by simp) (by first | (simp [lenB] <;> (first | omega | (simp only [lenB] <;> omega))) | (simp only [lenB]; (first | omega | (simp only [lenB] <;> omega)))) (by first | (simp <;> (first | omega | (simp only [lenB] <;> omega))) | (first | omega | (simp only [lenB] <;> omega))) (fun b4 => ?_)
        refine SOps.assign rfl ?_
        refine SOps.nil ?_
        show SCode _ _ _ _
        refine SCode.region ?_
        refine SOps.addI rfl rfl (by first | omega | (simp only [lenB] <;> omega)) (by first | omega | (simp only [lenB] <;> omega)) ?_
        refine SOps.move rfl ?_
        refine SOps.nil ?_
        exact ⟨k + 1, b4, by omega, by omega, St.Le.of ⟨rfl, (by show some _ = some _; rw [hJa, List.map_append] <;> rfl), rfl, rfl, rfl, rfl, rfl, rfl, rfl, rfl, trivial⟩ rfl (by rw [hJa, List.map_append] <;> rfl)⟩
    · try simp only [decide_eq_true_eq, decide_eq_false_iff_not, Bool.not_eq_true', Bool.not_eq_false', beq_iff_eq, bne_iff_ne, ne_eq, beq_eq_false_iff_ne, bne_eq_false_iff_eq, Int.not_lt, Int.not_le, Nat.not_lt, Nat.not_le, Int.ofNat_lt, Int.ofNat_le, Bool.not_eq_eq_eq_not, Bool.not_true, Bool.not_false] at hc2
      refine SCode.exit ?_
      show SCode _ _ _ _
      refine SCode.region ?_
      refine SOps.addI rfl rfl (by first | omega | (simp only [lenB] <;> omega)) (by first | omega | (simp only [lenB] <;> omega)) ?_
      refine SOps.move rfl ?_
      refine SOps.nil ?_
      have hJe : (joinI l (i + 1)) = (joinK (joinI l i) (prevH l i) (l[i]).words k) := by rw [joinI, hli, show k = (l[i]).words.length by omega]
      exact ⟨i + 1, c, by omega, by omega, St.Le.of ⟨rfl, (by show some _ = some _; rw [hJe] <;> rfl), rfl, rfl, rfl, trivial⟩ rfl (by rw [hJe] <;> rfl)⟩
  · try simp only [decide_eq_true_eq, decide_eq_false_iff_not, Bool.not_eq_true', Bool.not_eq_false', beq_iff_eq, bne_iff_ne, ne_eq, beq_eq_false_iff_ne, bne_eq_false_iff_eq, Int.not_lt, Int.not_le, Nat.not_lt, Nat.not_le, Int.ofNat_lt, Int.ofNat_le, Bool.not_eq_eq_eq_not, Bool.not_true, Bool.not_false] at hc1
    refine SCode.exit ?_
    show SCode _ _ _ _
    refine SCode.seqR ?_
    refine SOps.freezeAcc (t := 3) [] [] rfl rfl rfl ?_
    refine SOps.move rfl ?_
    refine SOps.assign rfl ?_
    refine SOps.nil ?_
    refine SCode.ret ?_
    exact ⟨_, Res.one (.tmp rfl), by rw [joinL, show l.length = i by omega], rfl⟩
end Go.GH
namespace Go.GH
open Go Go.Lib
def colP (l : List Bx) (i : Nat) : Int := (pt3 l i).2.2
def hyP (l : List Bx) (i : Nat) : Bool := decide (0 < (pt3 l i).2.1)
def endP (l : List Bx) (i : Nat) : Int := colP l i + if hyP l i then 1 else -1
theorem lenP_eq (l : List Bx) (i k : Nat) : lenP l i k = endP l k - colP l i := by
  unfold lenP endP colP hyP
  by_cases h : 0 < (pt3 l k).2.1
  · rw [if_pos h, if_pos (by simpa using h)]; omega
  · rw [if_neg h, if_neg (by simpa using h)]; omega
theorem colP_eq {l : List Bx} {i : Nat} (h : i < ptN l) : colP l i = (stB l (ptQ l i).1 : Int) + (ptQ l i).2 ∧ hyP l i = decide (0 < (ptQ l i).2) := by
  unfold colP hyP
  rw [pt3_eq h]
  exact ⟨rfl, rfl⟩
theorem pts_step2 {l : List Bx} {i k : Nat} (h : boxesB l = true) (hik : i < k) (hk : k < ptN l) : colP l i < colP l k ∧ endP l i ≤ endP l k ∧ colP l i + 1 ≤ endP l k := by
  obtain ⟨c1, y1⟩ := colP_eq (show i < ptN l by omega)
  obtain ⟨c2, y2⟩ := colP_eq hk
  have h1 := ptQ_ltP h hik hk
  have h2 := ptQ_small h (show i < ptN l - 1 by omega)
  have h3 := ptQ_ok h hk
  unfold endP
  rw [c1, c2, y1, y2]
  generalize ptQ l i = a at *
  generalize ptQ l k = b at *
  obtain ⟨h21, h22, h23⟩ := h2
  rw [wAt_lt h21] at h23
  have hb0 : 0 ≤ b.2 := by
    rcases h3 with h3 | h3
    · exact h3.2.1
    · rw [h3]; exact Int.le_refl _
  have hb1 : b.1 ≤ l.length := by
    rcases h3 with h3 | h3
    · exact Nat.le_of_lt h3.1
    · rw [h3]; exact Nat.le_refl _
  simp only [decide_eq_true_eq]
  rcases h1 with h1 | ⟨h1, h4⟩
  · have h5 := stB_succ h21
    have h6 := stB_mono (l := l) (i := a.1 + 1) (k := b.1) (by omega) hb1
    unfold wlen at h5
    split <;> split <;> omega
  · rw [h1]
    split <;> split <;> omega
theorem lenP_mono {l : List Bx} {i j k n : Nat} (h : boxesB l = true) (h1 : i ≤ j) (h2 : k ≤ n) (hj : j < ptN l) (hn : n < ptN l) : lenP l j k ≤ lenP l i n := by
  rw [lenP_eq, lenP_eq]
  have h3 : colP l i ≤ colP l j := by
    rcases Nat.lt_or_ge i j with h4 | h4
    · have := (pts_step2 h h4 hj).1; omega
    · obtain rfl : i = j := by omega
      exact Int.le_refl _
  have h5 : endP l k ≤ endP l n := by
    rcases Nat.lt_or_ge k n with h4 | h4
    · exact (pts_step2 h h4 hn).2.1
    · obtain rfl : k = n := by omega
      exact Int.le_refl _
  omega
theorem stop_iff {l : List Bx} {w : Int} {i n : Nat} (h : boxesB l = true) (h1 : i < n) (hn : n < ptN l) : n < stopP l w i ↔ lenP l i n ≤ w := by
  refine ⟨stopP_fit h1, fun h2 => ?_⟩
  rcases Nat.lt_or_ge n (stopP l w i) with h3 | h3
  · exact h3
  · rcases stopP_stop (l := l) (w := w) (i := i) (by omega) with h4 | ⟨h4, h5⟩
    · omega
    · have := lenP_mono h (Nat.le_refl i) h3 (by omega) hn
      omega
/-- From a to z by lines that fit. -/
def Fit (l : List Bx) (w : Int) : Nat → List Nat → Nat → Prop
  | a, [], z => a = z
  | a, k :: ks, z => a < k ∧ k < ptN l ∧ lenP l a k ≤ w ∧ Fit l w k ks z
theorem Fit.le {l : List Bx} {w : Int} : ∀ {a z : Nat} {ks : List Nat}, Fit l w a ks z → a ≤ z
  | _, _, [], h => Nat.le_of_eq h
  | _, _, k :: ks, ⟨h1, _, _, h2⟩ => by have := h2.le; omega
theorem Fit.piece {l : List Bx} {w : Int} (h : boxesB l = true) {z : Nat} (hz : z < ptN l) : ∀ {a : Nat} {ks : List Nat}, Fit l w a ks z → ∀ i, a ≤ i → i < z → lenP l i (i + 1) ≤ w
  | a, [], hf, i, h1, h2 => by have : a = z := hf; omega
  | a, k :: ks, ⟨f1, f2, f3, f4⟩, i, h1, h2 => by
    rcases Nat.lt_or_ge i k with h3 | h3
    · have := lenP_mono h (i := a) (j := i) (k := i + 1) (n := k) h1 (by omega) (by omega) f2
      omega
    · exact f4.piece h hz i h3 h2
def AllFit (l : List Bx) (w : Int) : Prop := ∀ i, i < ptN l - 1 → lenP l i (i + 1) ≤ w
theorem Fit.steps {l : List Bx} {w : Int} {z : Nat} (hz : z < ptN l) : ∀ (d a : Nat), a + d = z → (∀ i, a ≤ i → i < z → lenP l i (i + 1) ≤ w) → ∃ ks, Fit l w a ks z
  | 0, a, h, _ => ⟨[], by show a = z; omega⟩
  | d + 1, a, h, hf => by
    obtain ⟨ks, hks⟩ := Fit.steps hz d (a + 1) (by omega) (fun i h1 h2 => hf i (by omega) h2)
    exact ⟨(a + 1) :: ks, by omega, by omega, hf a (Nat.le_refl _) (by omega), hks⟩
theorem fit_iff {l : List Bx} {w : Int} (h : boxesB l = true) : (∃ ks, Fit l w 0 ks (ptN l - 1)) ↔ AllFit l w := by
  have := ptN_pos l
  refine ⟨fun ⟨ks, hk⟩ i hi => hk.piece h (by omega) i (Nat.zero_le _) hi, fun hf => ?_⟩
  exact Fit.steps (by omega) (ptN l - 1) 0 (by omega) (fun i _ hi => hf i hi)
/-- What a line costs. -/
def stepC (l : List Bx) (w pen : Int) (a k : Nat) : Int := (if k < ptN l - 1 then (w - lenP l a k) * (w - lenP l a k) else 0) + (if hyP l k then pen else 0)
def costP (l : List Bx) (w pen : Int) : Nat → List Nat → Int
  | _, [] => 0
  | a, k :: ks => stepC l w pen a k + costP l w pen k ks
theorem lineC_eq (l : List Bx) (w pen : Int) (i n : Nat) (b : Int) : lineC l w pen i n b = b + stepC l w pen i n := by
  unfold lineC stepC hyP
  simp only [decide_eq_true_eq]
  omega
theorem sq_nonneg (x : Int) : 0 ≤ x * x := by
  rcases Int.le_total 0 x with h | h
  · exact Int.mul_nonneg h h
  · exact Int.mul_nonneg_of_nonpos_of_nonpos h h
theorem stepC_nonneg {l : List Bx} {w pen : Int} {a k : Nat} (hp : 0 ≤ pen) : 0 ≤ stepC l w pen a k := by
  have := sq_nonneg (w - lenP l a k)
  unfold stepC
  split <;> split <;> omega
/-! the search, one point at a time -/
theorem bstV_spec {l : List Bx} {w pen : Int} {i : Nat} {t : List (Int × Int)} (hp : 0 ≤ pen) (ht : ∀ d, -1 ≤ (t.getD d (0, 0)).1) : ∀ d,
    -1 ≤ (bstV l w pen i t d).1 ∧
    (∀ e, e < d → 0 ≤ (t.getD e (0, 0)).1 → 0 ≤ (bstV l w pen i t d).1 ∧ (bstV l w pen i t d).1 ≤ (t.getD e (0, 0)).1 + stepC l w pen i (i + 1 + e)) ∧
    (0 ≤ (bstV l w pen i t d).1 → ∃ e, e < d ∧ (bstV l w pen i t d).2 = ((i + 1 + e : Nat) : Int) ∧ 0 ≤ (t.getD e (0, 0)).1 ∧ (bstV l w pen i t d).1 = (t.getD e (0, 0)).1 + stepC l w pen i (i + 1 + e) ∧
      ∀ e2, e < e2 → e2 < d → 0 ≤ (t.getD e2 (0, 0)).1 → (bstV l w pen i t d).1 < (t.getD e2 (0, 0)).1 + stepC l w pen i (i + 1 + e2))
  | 0 => ⟨Int.le_refl _, fun e he => by omega, fun h => by have : (0 : Int) ≤ -1 := h; omega⟩
  | d + 1 => by
    obtain ⟨ih0, ih1, ih2⟩ := bstV_spec hp ht (l := l) (w := w) (i := i) d
    have hst := stepC_nonneg (l := l) (w := w) (a := i) (k := i + 1 + d) hp
    rw [bstV]
    unfold stepB
    rw [lineC_eq]
    generalize bstV l w pen i t d = x at *
    generalize hq : (t.getD d (0, 0)).1 = q at *
    by_cases h1 : q < 0
    · rw [if_pos h1]
      refine ⟨ih0, fun e he h0 => ?_, fun h => ?_⟩
      · rcases Nat.lt_or_ge e d with h2 | h2
        · exact ih1 e h2 h0
        · obtain rfl : e = d := by omega
          omega
      · obtain ⟨e, e1, e2, e3, e4, e5⟩ := ih2 h
        refine ⟨e, by omega, e2, e3, e4, fun k k1 k2 k3 => ?_⟩
        rcases Nat.lt_or_ge k d with h2 | h2
        · exact e5 k k1 h2 k3
        · obtain rfl : k = d := by omega
          omega
    · rw [if_neg h1]
      by_cases h2 : x.1 < 0 ∨ q + stepC l w pen i (i + 1 + d) ≤ x.1
      · rw [if_pos h2]
        dsimp only
        refine ⟨by omega, fun e he h0 => ?_, fun h => ⟨d, by omega, rfl, by omega, by omega, fun k k1 k2 => by omega⟩⟩
        rcases Nat.lt_or_ge e d with h3 | h3
        · have := ih1 e h3 h0; omega
        · obtain rfl : e = d := by omega
          omega
      · rw [if_neg h2]
        refine ⟨ih0, fun e he h0 => ?_, fun h => ?_⟩
        · rcases Nat.lt_or_ge e d with h3 | h3
          · exact ih1 e h3 h0
          · obtain rfl : e = d := by omega
            omega
        · obtain ⟨e, e1, e2, e3, e4, e5⟩ := ih2 h
          refine ⟨e, by omega, e2, e3, e4, fun k k1 k2 k3 => ?_⟩
          rcases Nat.lt_or_ge k d with h3 | h3
          · exact e5 k k1 h3 k3
          · obtain rfl : k = d := by omega
            omega
/-- The cheapest from a point on, and the next point. -/
def bestP (l : List Bx) (w pen : Int) (i : Nat) : Int × Int := (bstL l w pen (ptN l - 1)).getD i (0, 0)
theorem bstL_shift (l : List Bx) (w pen : Int) : ∀ (j d i : Nat), (bstL l w pen (j + d)).getD (d + i) (0, 0) = (bstL l w pen j).getD i (0, 0)
  | j, 0, i => by rw [Nat.zero_add]; rfl
  | j, d + 1, i => by
    rw [← Nat.add_assoc, bstL, show d + 1 + i = (d + i) + 1 by omega, List.getD_cons_succ]
    exact bstL_shift l w pen j d i
theorem bestP_last (l : List Bx) (w pen : Int) : bestP l w pen (ptN l - 1) = (0, 0) := by
  unfold bestP
  have := bstL_shift l w pen 0 (ptN l - 1) 0
  rw [Nat.zero_add, Nat.add_zero] at this
  rw [this]; rfl
theorem bestP_step {l : List Bx} (w pen : Int) {i : Nat} (hi : i < ptN l - 1) : bestP l w pen i = bstV l w pen i (bstL l w pen (ptN l - 2 - i)) (stopP l w i - (i + 1)) ∧ ∀ d, i + 1 + d ≤ ptN l - 1 → (bstL l w pen (ptN l - 2 - i)).getD d (0, 0) = bestP l w pen (i + 1 + d) := by
  unfold bestP
  refine ⟨?_, fun d hd => ?_⟩
  · have := bstL_shift l w pen (ptN l - 1 - i) i 0
    rw [show ptN l - 1 - i + i = ptN l - 1 by omega, Nat.add_zero] at this
    rw [this, show ptN l - 1 - i = (ptN l - 2 - i) + 1 by omega, bstL, List.getD_cons_zero, show ptN l - 2 - (ptN l - 2 - i) = i by omega, show ptN l - 1 - (ptN l - 2 - i) = i + 1 by omega]
  · have := bstL_shift l w pen (ptN l - 2 - i) (i + 1) d
    rw [show ptN l - 2 - i + (i + 1) = ptN l - 1 by omega] at this
    rw [this]
theorem bstL_ge {l : List Bx} {w pen : Int} (hp : 0 ≤ pen) : ∀ j d, -1 ≤ ((bstL l w pen j).getD d (0, 0)).1
  | 0, d => by
    cases d with
    | zero => show (-1 : Int) ≤ 0; omega
    | succ d => show (-1 : Int) ≤ 0; omega
  | j + 1, d => by
    rw [bstL]
    cases d with
    | zero => rw [List.getD_cons_zero]; exact (bstV_spec hp (bstL_ge hp j) _).1
    | succ d => rw [List.getD_cons_succ]; exact bstL_ge hp j d
theorem bestP_spec {l : List Bx} {w pen : Int} (hb : boxesB l = true) (hp : 0 ≤ pen) {i : Nat} (hi : i < ptN l - 1) :
    (∀ n, i < n → n < ptN l → lenP l i n ≤ w → 0 ≤ (bestP l w pen n).1 → 0 ≤ (bestP l w pen i).1 ∧ (bestP l w pen i).1 ≤ (bestP l w pen n).1 + stepC l w pen i n) ∧
    (0 ≤ (bestP l w pen i).1 → ∃ n, i < n ∧ n < ptN l ∧ lenP l i n ≤ w ∧ (bestP l w pen i).2 = (n : Int) ∧ 0 ≤ (bestP l w pen n).1 ∧ (bestP l w pen i).1 = (bestP l w pen n).1 + stepC l w pen i n ∧
      ∀ m, n < m → m < ptN l → lenP l i m ≤ w → 0 ≤ (bestP l w pen m).1 → (bestP l w pen i).1 < (bestP l w pen m).1 + stepC l w pen i m) := by
  obtain ⟨h1, h2⟩ := bestP_step w pen hi
  obtain ⟨_, h3, h4⟩ := bstV_spec (l := l) (w := w) (i := i) hp (bstL_ge hp (ptN l - 2 - i)) (stopP l w i - (i + 1))
  have hsl := stopP_le (l := l) (w := w) (i := i) (by omega)
  rw [← h1] at h3 h4
  refine ⟨fun n n1 n2 n3 n4 => ?_, fun h0 => ?_⟩
  · have h5 := (stop_iff hb n1 n2).2 n3
    have h6 := h2 (n - (i + 1)) (by omega)
    rw [show i + 1 + (n - (i + 1)) = n by omega] at h6
    have h7 := h3 (n - (i + 1)) (by omega) (by rw [h6]; exact n4)
    rw [h6, show i + 1 + (n - (i + 1)) = n by omega] at h7
    exact h7
  · obtain ⟨e, e1, e2, e3, e4, e5⟩ := h4 h0
    have h6 := h2 e (by omega)
    rw [h6] at e3 e4
    refine ⟨i + 1 + e, by omega, by omega, stopP_fit (by omega) (by omega), e2, e3, e4, fun m m1 m2 m3 m4 => ?_⟩
    have h5 := (stop_iff hb (show i < m by omega) m2).2 m3
    have h7 := h2 (m - (i + 1)) (by omega)
    rw [show i + 1 + (m - (i + 1)) = m by omega] at h7
    have h8 := e5 (m - (i + 1)) (by omega) (by omega) (by rw [h7]; exact m4)
    rw [h7, show i + 1 + (m - (i + 1)) = m by omega] at h8
    exact h8
end Go.GH
namespace Go.GH
open Go Go.Lib
def Prp (s : ByteArray) : Prop := encs (runes s) = s
theorem prp_encs {rs : List Int} (h : ∀ r ∈ rs, Utf8.valid r = true) : Prp (encs rs) := by unfold Prp; rw [runes_encs h]
theorem prp_app {x y : ByteArray} (hx : Prp x) (hy : Prp y) : runes (x ++ y) = runes x ++ runes y ∧ Prp (x ++ y) := by
  have e : x ++ y = encs (runes x ++ runes y) := by rw [encs_append, hx, hy]
  have h : runes (x ++ y) = runes x ++ runes y := by
    rw [e]
    exact runes_encs (fun r hr => (List.mem_append.1 hr).elim runes_valid runes_valid)
  exact ⟨h, by unfold Prp; rw [h]; exact e.symm⟩
theorem wlen_app {x y : ByteArray} (hx : Prp x) (hy : Prp y) : wlen (x ++ y) = wlen x + wlen y := by
  unfold wlen; rw [(prp_app hx hy).1, List.length_append]
theorem prp_sp1 : Prp sp1 ∧ wlen sp1 = 1 := ⟨by unfold Prp; decide +kernel, by decide +kernel⟩
theorem prp_hy1 : Prp hy1 ∧ wlen hy1 = 1 := ⟨by unfold Prp; decide +kernel, by decide +kernel⟩
def sumW (ws : List ByteArray) : Nat := (ws.map (fun w => wlen w + 1)).sum
theorem sumW_app (x y : List ByteArray) : sumW (x ++ y) = sumW x + sumW y := by unfold sumW; rw [List.map_append, List.sum_append]
theorem sumW_one (x : ByteArray) : sumW [x] = wlen x + 1 := by unfold sumW; simp
theorem foldl_len : ∀ (ws : List ByteArray) (w : ByteArray), Prp w → (∀ x ∈ ws, Prp x) → wlen (ws.foldl (fun a x => a ++ sp1 ++ x) w) = wlen w + sumW ws ∧ Prp (ws.foldl (fun a x => a ++ sp1 ++ x) w)
  | [], w, hw, _ => ⟨rfl, hw⟩
  | x :: ws, w, hw, h => by
    have hx := h x (List.mem_cons_self ..)
    have h1 := (prp_app hw prp_sp1.1).2
    have h2 := (prp_app h1 hx).2
    have ih := foldl_len ws (w ++ sp1 ++ x) h2 (fun y hy => h y (List.mem_cons_of_mem _ hy))
    rw [List.foldl_cons]
    refine ⟨?_, ih.2⟩
    rw [ih.1, wlen_app h1 hx, wlen_app hw prp_sp1.1, prp_sp1.2]
    unfold sumW
    rw [List.map_cons, List.sum_cons]
    omega
theorem catW_len {ws : List ByteArray} (hne : ws ≠ []) (h : ∀ x ∈ ws, Prp x) : wlen (catW ws) + 1 = sumW ws ∧ Prp (catW ws) := by
  cases ws with
  | nil => exact absurd rfl hne
  | cons w ws =>
    have := foldl_len ws w (h w (List.mem_cons_self ..)) (fun y hy => h y (List.mem_cons_of_mem _ hy))
    refine ⟨?_, this.2⟩
    show wlen (ws.foldl _ w) + 1 = _
    rw [this.1]
    unfold sumW
    rw [List.map_cons, List.sum_cons]
    omega
theorem textL_len {ln : Ln} (hne : ln.words ≠ []) (h : ∀ x ∈ ln.words, Prp x) : wlen (textL ln) + 1 = sumW ln.words + if ln.hyph then 1 else 0 := by
  have h1 := catW_len hne h
  unfold textL
  split
  · rw [wlen_app h1.2 prp_hy1.1, prp_hy1.2]; omega
  · omega
theorem sumW_wsA {l : List Bx} {a : Nat} : ∀ {b : Nat}, a ≤ b → b ≤ l.length → sumW (wsA l a b) + stB l a = stB l b
  | 0, h, _ => by
    obtain rfl : a = 0 := by omega
    rw [wsA_zero]; rfl
  | b + 1, h, hb => by
    rcases Nat.lt_or_ge b a with h1 | h1
    · obtain rfl : a = b + 1 := by omega
      rw [wsA_zero]; exact Nat.zero_add _
    · have ih := sumW_wsA (l := l) (a := a) (b := b) h1 (by omega)
      have e : wlen (encs (runes (l[b]).word)) = wlen (l[b]).word := by unfold wlen; rw [runes_encs (fun r hr => runes_valid hr)]
      rw [wsA_succ h1 (by omega), sumW_app, sumW_one, stB_succ (show b < l.length by omega), e]
      omega
theorem wsA_cons {l : List Bx} {a b : Nat} (h : a < b) (hb : b ≤ l.length) : wsA l a b = encs (wAt l a) :: wsA l (a + 1) b := by
  unfold wsA
  rw [List.drop_eq_getElem_cons (show a < (l.take b).length by simp; omega), List.map_cons, wAt_lt (show a < l.length by omega)]
  simp
theorem wAt_valid {l : List Bx} {j : Nat} {r : Int} (h : r ∈ wAt l j) : Utf8.valid r = true := by
  unfold wAt at h
  split at h
  · exact runes_valid h
  · cases h
theorem runes_wAt (l : List Bx) (j : Nat) : runes (encs (wAt l j)) = wAt l j := runes_encs (fun r hr => wAt_valid hr)
/-- The words between two break points. -/
def pcW (l : List Bx) (a b : Nat × Int) : List ByteArray :=
  if a.1 = b.1 then [encs (((wAt l a.1).take b.2.toNat).drop a.2.toNat)] else encs ((wAt l a.1).drop a.2.toNat) :: (wsA l (a.1 + 1) b.1 ++ if 0 < b.2 then [encs ((wAt l b.1).take b.2.toNat)] else [])
theorem wsC_eq {l : List Bx} {a b : Nat × Int} (ha : PtOK l a) (hb : b.1 ≤ l.length) (hab : ltP a b) : wsC l (up3 l a) (up3 l b) = pcW l a b := by
  obtain ⟨a1, a2, a3⟩ := ha
  show (if 0 < a.2 then ((if 0 < b.2 then wsA l a.1 b.1 ++ [encs ((wAt l b.1).take b.2.toNat)] else wsA l a.1 b.1)).set 0 (encs ((runes (((if 0 < b.2 then wsA l a.1 b.1 ++ [encs ((wAt l b.1).take b.2.toNat)] else wsA l a.1 b.1)).getD 0 .empty)).drop a.2.toNat)) else (if 0 < b.2 then wsA l a.1 b.1 ++ [encs ((wAt l b.1).take b.2.toNat)] else wsA l a.1 b.1)) = _
  unfold pcW
  rcases hab with h | ⟨h, h2⟩
  · rw [if_neg (show ¬ a.1 = b.1 by omega), wsA_cons h hb]
    by_cases h0 : 0 < a.2
    · rw [if_pos h0]
      split
      · rw [List.cons_append, List.getD_cons_zero, runes_wAt, List.set_cons_zero]
      · rw [List.getD_cons_zero, runes_wAt, List.set_cons_zero, List.append_nil]
    · rw [if_neg h0, show a.2.toNat = 0 by omega, List.drop_zero]
      split
      · rfl
      · rw [List.append_nil]
  · rw [if_pos h, if_pos (show 0 < b.2 by omega), ← h, wsA_zero, List.nil_append]
    have e : runes (encs ((wAt l a.1).take b.2.toNat)) = (wAt l a.1).take b.2.toNat := runes_encs (fun r hr => wAt_valid (List.mem_of_mem_take hr))
    by_cases h0 : 0 < a.2
    · rw [if_pos h0, List.getD_cons_zero, e, List.set_cons_zero]
    · rw [if_neg h0, show a.2.toNat = 0 by omega, List.drop_zero]
theorem line_words {l : List Bx} {i k : Nat} (hb : boxesB l = true) (hik : i < k) (hk : k < ptN l) : (lineP l i k).words = pcW l (ptQ l i) (ptQ l k) ∧ (lineP l i k).hyph = hyP l k := by
  refine ⟨?_, rfl⟩
  show wsC l (pt3 l i) (pt3 l k) = _
  rw [pt3_eq (show i < ptN l by omega), pt3_eq hk]
  refine wsC_eq (ptQ_small hb (by omega)) ?_ (ptQ_ltP hb hik hk)
  rcases ptQ_ok hb hk with h | h
  · exact Nat.le_of_lt h.1
  · rw [h]; exact Nat.le_refl _
/-- A piece of a box's word. -/
def Gd (l : List Bx) (s : ByteArray) : Prop := ∃ (rs : List Int) (j : Nat), s = encs rs ∧ rs ≠ [] ∧ j < l.length ∧ (∀ r ∈ rs, r ∈ wAt l j) ∧ rs.length ≤ (wAt l j).length
theorem Gd.prp {l : List Bx} {s : ByteArray} (h : Gd l s) : Prp s := by
  obtain ⟨rs, j, rfl, _, _, h, _⟩ := h
  exact prp_encs (fun r hr => wAt_valid (h r hr))
theorem Gd.word {l : List Bx} {s : ByteArray} (hb : boxesB l = true) (h : Gd l s) : wordB s = true ∧ wlen s ≠ 0 := by
  have hp := h.prp
  obtain ⟨rs, j, rfl, hne, hj, h, _⟩ := h
  have hv : ∀ r ∈ rs, Utf8.valid r = true := fun r hr => wAt_valid (h r hr)
  have hl : wlen (encs rs) = rs.length := by unfold wlen; rw [runes_encs hv]
  have hpos : rs.length ≠ 0 := fun e => hne (List.length_eq_zero_iff.1 e)
  refine ⟨wordB_iff.2 ⟨fun e => ?_, (utf8R_iff _).2 hp, ?_⟩, by rw [hl]; exact hpos⟩
  · have e2 : wlen (encs rs) = 0 := by rw [e]; rfl
    omega
  · unfold anySp
    rw [runes_encs hv, List.any_eq_false]
    intro r hr
    have h1 := (wordB_iff.1 (boxB_iff.1 ((boxesB_iff.1 hb).2 _ (List.getElem_mem hj))).1).2.2
    have h2 := h r hr
    rw [wAt_lt hj] at h2
    unfold anySp at h1
    rw [List.any_eq_false] at h1
    exact h1 r h2
theorem Gd.size {l : List Bx} {s : ByteArray} (hb : boxesB l = true) (h : Gd l s) : s.size ≤ 800 := by
  obtain ⟨rs, j, rfl, _, hj, _, h⟩ := h
  have h1 := encs_size4 rs
  have h2 := (bnds_of hb).wlen _ (List.getElem_mem hj)
  rw [wAt_lt hj] at h
  unfold wlen at h2
  omega
theorem wAt_ne {l : List Bx} (hb : boxesB l = true) {j : Nat} (hj : j < l.length) : wAt l j ≠ [] := by
  intro e
  have h3 := (bnds_of hb).cor _ (List.getElem_mem hj)
  rw [wAt_lt hj] at e
  rw [e] at h3
  exact (wordB_iff.1 (boxB_iff.1 ((boxesB_iff.1 hb).2 _ (List.getElem_mem hj))).1).1 h3.symm
theorem wsA_gd {l : List Bx} (hb : boxesB l = true) {a b : Nat} (hbl : b ≤ l.length) : ∀ s ∈ wsA l a b, Gd l s := by
  intro s hs
  unfold wsA at hs
  obtain ⟨x, hx, rfl⟩ := List.mem_map.1 hs
  obtain ⟨j, hj, rfl⟩ := List.mem_iff_getElem.1 (List.mem_of_mem_take (List.mem_of_mem_drop hx))
  exact ⟨runes (l[j]).word, j, rfl, by have := wAt_ne hb hj; rw [wAt_lt hj] at this; exact this, hj, fun r hr => by rw [wAt_lt hj]; exact hr, by rw [wAt_lt hj]; exact Nat.le_refl _⟩
theorem pcW_gd {l : List Bx} (hb : boxesB l = true) {a b : Nat × Int} (ha : PtOK l a) (hbo : PtOK l b ∨ b = (l.length, 0)) (hab : ltP a b) : pcW l a b ≠ [] ∧ ∀ s ∈ pcW l a b, Gd l s := by
  obtain ⟨a1, a2, a3⟩ := ha
  unfold pcW
  rcases hab with h | ⟨h, h2⟩
  · rw [if_neg (show ¬ a.1 = b.1 by omega)]
    refine ⟨by simp, fun s hs => ?_⟩
    rcases List.mem_cons.1 hs with rfl | hs
    · refine ⟨_, a.1, rfl, ?_, a1, fun r hr => List.mem_of_mem_drop hr, by rw [List.length_drop]; omega⟩
      intro e
      have := congrArg List.length e
      rw [List.length_drop, List.length_nil] at this
      omega
    · rcases List.mem_append.1 hs with hs | hs
      · exact wsA_gd hb (by rcases hbo with h3 | h3; exact Nat.le_of_lt h3.1; rw [h3]; exact Nat.le_refl _) s hs
      · split at hs
        · rename_i h4
          rw [List.mem_singleton] at hs
          subst hs
          have hbl : b.1 < l.length := by
            rcases hbo with h5 | h5
            · exact h5.1
            · rw [h5] at h4; simp at h4
          refine ⟨_, b.1, rfl, ?_, hbl, fun r hr => List.mem_of_mem_take hr, by rw [List.length_take]; omega⟩
          intro e
          have := congrArg List.length e
          have hne := wAt_ne hb hbl
          have : (wAt l b.1).length ≠ 0 := fun e => hne (List.length_eq_zero_iff.1 e)
          rw [List.length_take, List.length_nil] at *
          omega
        · cases hs
  · rw [if_pos h]
    refine ⟨by simp, fun s hs => ?_⟩
    rw [List.mem_singleton] at hs
    subst hs
    have hb3 : b.2 < ((wAt l b.1).length : Int) := by
      rcases hbo with h5 | h5
      · exact h5.2.2
      · rw [h5] at h2; dsimp only at h2; omega
    refine ⟨_, a.1, rfl, ?_, a1, fun r hr => List.mem_of_mem_take (List.mem_of_mem_drop hr), by rw [List.length_drop, List.length_take]; omega⟩
    intro e
    have := congrArg List.length e
    rw [List.length_drop, List.length_take, List.length_nil] at this
    rw [h] at this
    omega
theorem line_gd {l : List Bx} {i k : Nat} (hb : boxesB l = true) (hik : i < k) (hk : k < ptN l) : (lineP l i k).words ≠ [] ∧ ∀ s ∈ (lineP l i k).words, Gd l s := by
  rw [(line_words hb hik hk).1]
  exact pcW_gd hb (ptQ_small hb (by omega)) (ptQ_ok hb hk) (ptQ_ltP hb hik hk)
theorem wlen_encs {rs : List Int} (h : ∀ r ∈ rs, Utf8.valid r = true) : wlen (encs rs) = rs.length := by unfold wlen; rw [runes_encs h]
theorem pcW_sum {l : List Bx} {a b : Nat × Int} (ha : PtOK l a) (hbo : PtOK l b ∨ b = (l.length, 0)) (hab : ltP a b) : (sumW (pcW l a b) : Int) = (stB l b.1 : Int) + b.2 - ((stB l a.1 : Int) + a.2) + if 0 < b.2 then 1 else 0 := by
  obtain ⟨a1, a2, a3⟩ := ha
  have hs := stB_succ a1
  have hw : wlen (l[a.1]).word = (wAt l a.1).length := by rw [wAt_lt a1]; rfl
  unfold pcW
  rcases hab with h | ⟨h, h2⟩
  · have hbl : b.1 ≤ l.length := by
      rcases hbo with h3 | h3
      · exact Nat.le_of_lt h3.1
      · rw [h3]; exact Nat.le_refl _
    have hA := sumW_wsA (l := l) (a := a.1 + 1) (b := b.1) (by omega) hbl
    rw [if_neg (show ¬ a.1 = b.1 by omega), ← List.singleton_append, sumW_app, sumW_app, sumW_one, wlen_encs (fun r hr => wAt_valid (List.mem_of_mem_drop hr)), List.length_drop]
    by_cases h0 : 0 < b.2
    · have hb3 : b.2 < ((wAt l b.1).length : Int) := by
        rcases hbo with h5 | h5
        · exact h5.2.2
        · rw [h5] at h0; simp at h0
      rw [if_pos h0, if_pos h0, sumW_one, wlen_encs (fun r hr => wAt_valid (List.mem_of_mem_take hr)), List.length_take]
      omega
    · have hb0 : b.2 = 0 := by
        rcases hbo with h5 | h5
        · have := h5.2.1; omega
        · rw [h5]
      have e0 : sumW [] = 0 := rfl
      rw [if_neg h0, if_neg h0, e0]
      omega
  · have hb3 : b.2 < ((wAt l b.1).length : Int) := by
      rcases hbo with h5 | h5
      · exact h5.2.2
      · rw [h5] at h2; dsimp only at h2; omega
    rw [if_pos h, if_pos (show 0 < b.2 by omega), sumW_one, wlen_encs (fun r hr => wAt_valid (List.mem_of_mem_take (List.mem_of_mem_drop hr))), List.length_drop, List.length_take, ← h]
    rw [← h] at hb3
    omega
/-- The text of a line is as long as the columns between its points say. -/
theorem line_len {l : List Bx} {i k : Nat} (hb : boxesB l = true) (hik : i < k) (hk : k < ptN l) : (wlen (textL (lineP l i k)) : Int) = lenP l i k := by
  have h1 := line_gd hb hik hk
  have h2 := textL_len h1.1 (fun x hx => (h1.2 x hx).prp)
  rw [(line_words hb hik hk).2, (line_words hb hik hk).1] at h2
  have h3 := pcW_sum (ptQ_small hb (show i < ptN l - 1 by omega)) (ptQ_ok hb hk) (ptQ_ltP hb hik hk)
  obtain ⟨c1, _⟩ := colP_eq (show i < ptN l by omega)
  obtain ⟨c2, y2⟩ := colP_eq hk
  rw [lenP_eq]
  unfold endP
  rw [c1, c2, y2]
  rw [y2] at h2
  simp only [decide_eq_true_eq] at h2 ⊢
  by_cases h0 : 0 < (ptQ l k).2
  · rw [if_pos h0] at h2 h3 ⊢; omega
  · rw [if_neg h0] at h2 h3 ⊢; omega
theorem free_line {l : List Bx} {w : Int} {i k : Nat} (hb : boxesB l = true) (hik : i < k) (hk : k < ptN l) : freeL w (lineP l i k) = w - lenP l i k := by
  unfold freeL; rw [line_len hb hik hk]
/-! what the reference builds -/
end Go.GH
namespace Go.GH
open Go Go.Lib
theorem best_le {l : List Bx} {w pen : Int} (hb : boxesB l = true) (hp : 0 ≤ pen) : ∀ {i : Nat} {ks : List Nat}, Fit l w i ks (ptN l - 1) → 0 ≤ (bestP l w pen i).1 ∧ (bestP l w pen i).1 ≤ costP l w pen i ks
  | i, [], h => by
    have h1 : i = ptN l - 1 := h
    rw [h1, bestP_last]
    exact ⟨Int.le_refl _, Int.le_refl _⟩
  | i, k :: ks, ⟨h1, h2, h3, h4⟩ => by
    have ih := best_le hb hp h4
    have h5 := (bestP_spec (w := w) hb hp (show i < ptN l - 1 by have := h4.le; omega)).1 k h1 h2 h3 ih.1
    refine ⟨h5.1, ?_⟩
    show _ ≤ stepC l w pen i k + costP l w pen k ks
    omega
def nextL (l : List Bx) (w pen : Int) : List Int := (bstL l w pen (ptN l - 1)).map (·.2)
theorem nextL_at (l : List Bx) (w pen : Int) (i : Nat) : (nextL l w pen).getD i 0 = (bestP l w pen i).2 := by
  unfold nextL bestP
  rw [List.getD_eq_getElem?_getD, List.getD_eq_getElem?_getD, List.getElem?_map]
  cases (bstL l w pen (ptN l - 1))[i]? <;> rfl
theorem best_way {l : List Bx} {w pen : Int} (hb : boxesB l = true) (hp : 0 ≤ pen) : ∀ (f i : Nat), i ≤ ptN l - 1 → ptN l - 1 < f + i → 0 ≤ (bestP l w pen i).1 →
    Fit l w i (pathF (ptN l - 1) (nextL l w pen) f i) (ptN l - 1) ∧ costP l w pen i (pathF (ptN l - 1) (nextL l w pen) f i) = (bestP l w pen i).1
  | 0, i, h1, h2, _ => by omega
  | f + 1, i, h1, h2, h0 => by
    rw [pathF]
    by_cases hi : i < ptN l - 1
    · rw [if_pos hi]
      obtain ⟨n, n1, n2, n3, n4, n5, n6, _⟩ := (bestP_spec (w := w) hb hp hi).2 h0
      have ih := best_way hb hp f n (by omega) (by omega) n5
      rw [nextL_at, n4, Int.toNat_natCast]
      refine ⟨⟨n1, n2, n3, ih.1⟩, ?_⟩
      show stepC l w pen i n + costP l w pen n _ = _
      rw [ih.2, n6]; omega
    · rw [if_neg hi]
      have h3 : i = ptN l - 1 := by omega
      refine ⟨h3, ?_⟩
      rw [h3, bestP_last]; rfl
theorem best_iff {l : List Bx} {w pen : Int} (hb : boxesB l = true) (hp : 0 ≤ pen) : 0 ≤ (bestP l w pen 0).1 ↔ AllFit l w := by
  have h1 := ptN_pos l
  refine ⟨fun h => (fit_iff hb).1 ⟨_, (best_way hb hp (ptN l) 0 (Nat.zero_le _) (by omega) h).1⟩, fun h => ?_⟩
  obtain ⟨ks, hk⟩ := (fit_iff hb).2 h
  exact (best_le hb hp hk).1
/-! greedy -/
theorem greedy_fit {l : List Bx} {w : Int} (hb : boxesB l = true) : ∀ (f i : Nat) (ks : List Nat), i ≤ ptN l - 1 → ptN l - 1 < f + i → greedyF l w f i = some ks → Fit l w i ks (ptN l - 1)
  | 0, i, ks, h1, h2, _ => by omega
  | f + 1, i, ks, h1, h2, h => by
    have hsg := stopP_gt l w i
    by_cases hi : i < ptN l - 1
    · have hsl := stopP_le (l := l) (w := w) (i := i) (by omega)
      by_cases hs : stopP l w i - 1 = i
      · rw [greedyF_none hi hs (by omega)] at h; cases h
      · rw [greedyF_go hi hs (by omega)] at h
        obtain ⟨ks2, h3, rfl⟩ := Option.map_eq_some_iff.1 h
        exact ⟨by omega, by omega, stopP_fit (by omega) (by omega), greedy_fit hb f _ ks2 (by omega) (by omega) h3⟩
    · rw [greedyF_end hi] at h
      obtain rfl := Option.some.inj h
      show i = _
      omega
theorem greedy_ex {l : List Bx} {w : Int} (hb : boxesB l = true) (hf : AllFit l w) : ∀ (f i : Nat), ∃ ks, greedyF l w f i = some ks
  | 0, i => ⟨[], rfl⟩
  | f + 1, i => by
    have hsg := stopP_gt l w i
    by_cases hi : i < ptN l - 1
    · have h1 := (stop_iff hb (show i < i + 1 by omega) (by omega)).2 (hf i hi)
      obtain ⟨ks, hk⟩ := greedy_ex hb hf f (stopP l w i - 1)
      rw [greedyF_go hi (by omega) (by omega)]
      exact ⟨_, by rw [show f + 1 - 1 = f from rfl, hk]; rfl⟩
    · exact ⟨[], greedyF_end hi⟩
theorem greedy_min {l : List Bx} {w : Int} (hb : boxesB l = true) : ∀ (f i j : Nat) (ks qs : List Nat), i ≤ ptN l - 1 → j ≤ i → greedyF l w f i = some ks → Fit l w j qs (ptN l - 1) → ks.length ≤ qs.length
  | 0, i, j, ks, qs, h1, h2, h, _ => by
    obtain rfl := Option.some.inj (show some [] = some ks from h)
    exact Nat.zero_le _
  | f + 1, i, j, ks, qs, h1, h2, h, hq => by
    have hsg := stopP_gt l w i
    by_cases hi : i < ptN l - 1
    · have hsl := stopP_le (l := l) (w := w) (i := i) (by omega)
      by_cases hs : stopP l w i - 1 = i
      · rw [greedyF_none hi hs (by omega)] at h; cases h
      · rw [greedyF_go hi hs (by omega)] at h
        obtain ⟨ks2, h3, rfl⟩ := Option.map_eq_some_iff.1 h
        cases qs with
        | nil => have h4 : j = ptN l - 1 := hq; omega
        | cons k qs =>
          obtain ⟨q1, q2, q3, q4⟩ := hq
          have h5 : k ≤ stopP l w i - 1 := by
            rcases Nat.lt_or_ge k (stopP l w i) with h6 | h6
            · omega
            · have h7 := lenP_mono hb (i := j) (j := i) (k := k) (n := k) h2 (Nat.le_refl _) (by omega) q2
              have h8 := (stop_iff (w := w) hb (show i < k by omega) q2).2 (by omega)
              omega
          have := greedy_min hb f _ k ks2 qs (by omega) h5 h3 q4
          rw [List.length_cons, List.length_cons]; omega
    · rw [greedyF_end hi] at h
      obtain rfl := Option.some.inj h
      exact Nat.zero_le _
theorem greedy_some {l : List Bx} {w : Int} (hb : boxesB l = true) : (∃ ks, greedyF l w (ptN l) 0 = some ks) ↔ AllFit l w := by
  have h1 := ptN_pos l
  exact ⟨fun ⟨ks, h⟩ => (fit_iff hb).1 ⟨ks, greedy_fit hb _ _ _ (Nat.zero_le _) (by omega) h⟩, fun h => greedy_ex hb h _ _⟩
/-! counting -/
end Go.GH
namespace Go.GH
open Go Go.Lib
theorem linesOf_len (l : List Bx) : ∀ (a : Nat) (ks : List Nat), (linesOf l a ks).length = ks.length
  | _, [] => rfl
  | a, k :: ks => by rw [linesOf, List.length_cons, List.length_cons, linesOf_len l k ks]
theorem valid_of {l : List Bx} {w : Int} (h : validL l w = true) : (1 ≤ w ∧ w ≤ 200) ∧ boxesB l = true := by
  unfold validL at h
  rw [Bool.and_eq_true, wideB_iff] at h
  exact h
theorem greedyR_ok {l : List Bx} {w : Int} (hv : validL l w = true) :
    ((greedyR l w).2 = 0 ∧ AllFit l w ∧ ∃ ks, Fit l w 0 ks (ptN l - 1) ∧ (greedyR l w).1 = linesOf l 0 ks ∧ ∀ qs, Fit l w 0 qs (ptN l - 1) → ks.length ≤ qs.length) ∨ ((greedyR l w).2 = 2 ∧ ¬ AllFit l w ∧ (greedyR l w).1 = []) := by
  have hb := (valid_of hv).2
  have hpos := ptN_pos l
  unfold greedyR
  rw [if_pos hv]
  cases h : greedyF l w (ptN l) 0 with
  | none =>
    have hn : ¬ AllFit l w := fun h2 => by
      obtain ⟨ks, h3⟩ := (greedy_some hb).2 h2
      rw [h] at h3; cases h3
    exact .inr ⟨rfl, hn, rfl⟩
  | some ks => exact .inl ⟨rfl, (greedy_some hb).1 ⟨ks, h⟩, ks, greedy_fit hb _ _ _ (Nat.zero_le _) (by omega) h, rfl, fun qs hq => greedy_min hb _ _ _ _ _ (Nat.zero_le _) (Nat.le_refl _) h hq⟩
theorem linesR_ok {l : List Bx} {w pen : Int} (hv : validL l w = true) (hp : penB pen = true) :
    ((linesR l w pen).2.2 = 0 ∧ AllFit l w ∧ ∃ ks, Fit l w 0 ks (ptN l - 1) ∧ (linesR l w pen).1 = linesOf l 0 ks ∧ costP l w pen 0 ks = (linesR l w pen).2.1 ∧ ∀ qs, Fit l w 0 qs (ptN l - 1) → (linesR l w pen).2.1 ≤ costP l w pen 0 qs) ∨ ((linesR l w pen).2.2 = 2 ∧ ¬ AllFit l w ∧ (linesR l w pen).2.1 = 0 ∧ (linesR l w pen).1 = []) := by
  have hb := (valid_of hv).2
  have hp0 := (penB_iff.1 hp).1
  have hpos := ptN_pos l
  have hbi := best_iff (w := w) hb hp0
  have hbp : ((bstL l w pen (ptN l - 1)).getD 0 (0, 0)).1 = (bestP l w pen 0).1 := rfl
  unfold linesR
  rw [if_pos (by rw [hv, hp]; rfl), hbp]
  by_cases h : (bestP l w pen 0).1 < 0
  · rw [if_pos h]
    exact .inr ⟨rfl, fun h2 => by have := hbi.2 h2; omega, rfl, rfl⟩
  · rw [if_neg h]
    have hw := best_way hb hp0 (ptN l) 0 (Nat.zero_le _) (by omega) (show 0 ≤ (bestP l w pen 0).1 by omega)
    exact .inl ⟨rfl, hbi.1 (by omega), _, hw.1, rfl, hw.2, fun qs hq => (best_le hb hp0 hq).2⟩
theorem linesR_bad {l : List Bx} {w pen : Int} (hv : validL l w = false ∨ penB pen = false) : linesR l w pen = ([], 0, 1) := by
  unfold linesR
  rw [if_neg (by rcases hv with h | h <;> rw [h] <;> simp)]
/-! penalties -/
theorem Fit.len {l : List Bx} {w : Int} : ∀ {a z : Nat} {ks : List Nat}, Fit l w a ks z → ks.length ≤ z - a
  | _, _, [], _ => Nat.zero_le _
  | a, z, k :: ks, ⟨h1, _, _, h2⟩ => by
    have := h2.len
    have := h2.le
    rw [List.length_cons]; omega
/-! smallest pieces -/
end Go.GH
namespace Go.GH
open Go Go.Lib
theorem many_sz {l : List Bx} (h : manyB l = false) : ∀ x ∈ l, x.word.size ≤ 1048576 := fun x hx => by have := ((many_ok h).2 x hx).1; omega
end Go.GH
namespace Go.GH
open Go Go.Proofs
variable {E : Env}
end Go.GH
namespace Go.GH
open Go Go.Lib
/-! how many -/
/-! the first cheapest -/
end Go.GH
namespace Go.GH
open Go Go.Lib
theorem costAt_succ (ln : Ln) (l : List Ln) (w p : Int) (k : Nat) : costAt (ln :: l) w p (k + 1) = costAt l w p k := by
  unfold costAt lnAt
  rw [List.length_cons, List.getD_cons_succ]
  congr 1
  by_cases h : k + 1 < l.length
  · rw [if_pos h, if_pos (by omega)]
  · rw [if_neg h, if_neg (by omega)]
theorem sumK_succ (ln : Ln) (l : List Ln) (w p : Int) : ∀ k, sumK (ln :: l) w p (k + 1) = costAt (ln :: l) w p 0 + sumK l w p k
  | 0 => by show 0 + costAt _ _ _ 0 = costAt _ _ _ 0 + 0; omega
  | k + 1 => by
    have ih := sumK_succ ln l w p k
    rw [sumK, ih, costAt_succ, sumK]; omega
theorem sumL_cons (ln : Ln) (l : List Ln) (w p : Int) : sumL (ln :: l) w p = ((if 0 < l.length then freeL w ln * freeL w ln else 0) + if ln.hyph then p else 0) + sumL l w p := by
  unfold sumL
  rw [List.length_cons, sumK_succ]
  congr 1
  unfold costAt lnAt
  rw [List.length_cons, List.getD_cons_zero]
  congr 1
  by_cases h : 0 < l.length
  · rw [if_pos h, if_pos (by omega)]
  · rw [if_neg h, if_neg (by omega)]
theorem way_sum {l : List Bx} {w pen : Int} (hb : boxesB l = true) : ∀ {i : Nat} {ks : List Nat}, Fit l w i ks (ptN l - 1) → sumL (linesOf l i ks) w pen = costP l w pen i ks
  | _, [], _ => rfl
  | i, k :: ks, ⟨h1, h2, h3, h4⟩ => by
    have ih := way_sum hb (pen := pen) h4
    show sumL (lineP l i k :: linesOf l k ks) w pen = stepC l w pen i k + costP l w pen k ks
    rw [sumL_cons, ih, linesOf_len, free_line hb h1 h2]
    have e : (lineP l i k).hyph = hyP l k := rfl
    rw [e]
    unfold stepC
    have hk : 0 < ks.length ↔ k < ptN l - 1 := by
      cases ks with
      | nil => have h5 : k = ptN l - 1 := h4; simp; omega
      | cons q qs => have h5 := h4.2.2.2.le; have h6 := h4.1; simp; omega
    by_cases h5 : 0 < ks.length
    · rw [if_pos h5, if_pos (hk.1 h5)]
    · rw [if_neg h5, if_neg (fun h => h5 (hk.2 h))]
theorem cnt_pts {l : List Bx} : ∀ k, k ≤ l.length → (ptsF (l.take k)).length + 1 = cntB (l.take k)
  | 0, _ => by rw [List.take_zero]; rfl
  | k + 1, hk => by
    have ih := cnt_pts k (by omega) (l := l)
    rw [ptsF_take (by omega), cntB_take (by omega), List.length_append, List.length_cons, List.length_map]
    omega
theorem ptN_cnt (l : List Bx) : ptN l = cntB l := by
  have h := cnt_pts l.length (Nat.le_refl _) (l := l)
  rw [List.take_length] at h
  rw [ptN_eq, pointsL, List.length_append, List.length_singleton, h]
def endK : Nat → List Nat → Nat
  | a, [] => a
  | _, k :: ks => endK k ks
theorem endK_snoc (a : Nat) (ks : List Nat) (n : Nat) : endK a (ks ++ [n]) = n := by
  induction ks generalizing a with
  | nil => rfl
  | cons k ks ih => exact ih k
theorem linesOf_snoc (l : List Bx) (n : Nat) : ∀ (a : Nat) (ks : List Nat), linesOf l a (ks ++ [n]) = linesOf l a ks ++ [lineP l (endK a ks) n]
  | _, [] => rfl
  | a, k :: ks => by
    show lineP l a k :: linesOf l k (ks ++ [n]) = _
    rw [linesOf_snoc l n k ks]; rfl
end Go.GH
namespace Go.GH
open Go Go.Proofs
variable {E : Env}
end Go.GH
namespace Go.GH
open Go Go.Proofs
variable {E : Env}
end Go.GH
namespace Go.GH
open Go Go.Proofs
variable {E : Env}
end Go.GH
namespace Go.GH
open Go Go.Lib
def newC (ln : List Ln) (i : Nat) : Bool := decide (0 < i) && !(lnAt ln (i - 1)).hyph
/-- The word and the column after so many words of a line. -/
def dvK (c : Bool) (ws : List ByteArray) (s : Nat × Nat) : Nat → Nat × Nat
  | 0 => s
  | k + 1 => if decide (0 < k) || c then ((dvK c ws s k).1 + 1, wlen (ws.getD k .empty)) else ((dvK c ws s k).1, (dvK c ws s k).2 + wlen (ws.getD k .empty))
def dvS (ln : List Ln) : Nat → Nat × Nat
  | 0 => (0, 0)
  | i + 1 => dvK (newC ln i) (lnAt ln i).words (dvS ln i) (lnAt ln i).words.length
def okWd (s : ByteArray) : Bool := !(decide (s = ⟨#[]⟩) || decide (¬ encs (runes s) = s))
def ptsAt (l : List Bx) (j : Nat) : List Int := (l.getD j ⟨.empty, []⟩).pts
def dlineA (ln : List Ln) (w : Int) (i : Nat) : Bool := !(decide (w < (wlen (textL (lnAt ln i)) : Int)) || decide ((lnAt ln i).words.length = 0) || ((lnAt ln i).hyph && decide (i + 1 = ln.length)))
def dline (l : List Bx) (ln : List Ln) (w : Int) (i : Nat) : Bool :=
  dlineA ln w i && (lnAt ln i).words.all okWd && (!(lnAt ln i).hyph || (ptsAt l (dvS ln (i + 1)).1).any (fun h => decide (h = ((dvS ln (i + 1)).2 : Int))))
def divB (l : List Bx) (ln : List Ln) (w : Int) : Bool := decide (joinL ln = l.map (·.word)) && (List.range ln.length).all (dline l ln w)
theorem divB_iff {l : List Bx} {ln : List Ln} {w : Int} : divB l ln w = true ↔ joinL ln = l.map (·.word) ∧ ∀ i, i < ln.length → dline l ln w i = true := by
  unfold divB
  rw [Bool.and_eq_true, decide_eq_true_eq, List.all_eq_true]
  exact ⟨fun h => ⟨h.1, fun i hi => h.2 i (List.mem_range.2 hi)⟩, fun h => ⟨h.1, fun i hi => h.2 i (List.mem_range.1 hi)⟩⟩
theorem divB_bad {l : List Bx} {ln : List Ln} {w : Int} {i : Nat} (hi : i < ln.length) (h : dline l ln w i = false) : divB l ln w = false := by
  rw [← Bool.not_eq_true, divB_iff]
  exact fun h2 => by have := h2.2 i hi; rw [h] at this; cases this
theorem okWd_iff {s : ByteArray} : okWd s = true ↔ s ≠ ⟨#[]⟩ ∧ Prp s := by
  unfold okWd Prp
  simp [not_or]
theorem dline_iff {l : List Bx} {ln : List Ln} {w : Int} {i : Nat} : dline l ln w i = true ↔ (wlen (textL (lnAt ln i)) : Int) ≤ w ∧ (lnAt ln i).words.length ≠ 0 ∧ ((lnAt ln i).hyph = true → i + 1 ≠ ln.length) ∧ (∀ s ∈ (lnAt ln i).words, s ≠ ⟨#[]⟩ ∧ Prp s) ∧ ((lnAt ln i).hyph = true → ((dvS ln (i + 1)).2 : Int) ∈ ptsAt l (dvS ln (i + 1)).1) := by
  unfold dline dlineA
  rw [Bool.and_eq_true, Bool.and_eq_true, Bool.not_eq_true', Bool.or_eq_false_iff, Bool.or_eq_false_iff, decide_eq_false_iff_not, decide_eq_false_iff_not, List.all_eq_true]
  constructor
  · rintro ⟨⟨⟨⟨h1, h2⟩, h3⟩, h4⟩, h5⟩
    refine ⟨by omega, h2, fun h => ?_, fun s hs => okWd_iff.1 (h4 s hs), fun h => ?_⟩
    · rw [h, Bool.true_and, decide_eq_false_iff_not] at h3; exact h3
    · rw [h, Bool.not_true, Bool.false_or, List.any_eq_true] at h5
      obtain ⟨x, hx, hx2⟩ := h5
      rw [← of_decide_eq_true hx2]; exact hx
  · rintro ⟨h1, h2, h3, h4, h5⟩
    refine ⟨⟨⟨⟨by omega, h2⟩, ?_⟩, fun s hs => okWd_iff.2 (h4 s hs)⟩, ?_⟩
    · cases h : (lnAt ln i).hyph
      · rfl
      · rw [Bool.true_and]; exact decide_eq_false (h3 h)
    · cases h : (lnAt ln i).hyph
      · rfl
      · rw [Bool.not_true, Bool.false_or, List.any_eq_true]
        exact ⟨_, h5 h, decide_eq_true rfl⟩
theorem lt_step {P : Nat → Prop} {i : Nat} (h : ∀ j, j < i → P j) (hi : P i) : ∀ j, j < i + 1 → P j := fun j hj => by
  rcases Nat.lt_or_ge j i with h1 | h1
  · exact h j h1
  · obtain rfl : j = i := by omega
    exact hi
theorem any_take_step {α : Type} {f : α → Bool} {l : List α} {q : Nat} (h : q < l.length) : (l.take (q + 1)).any f = ((l.take q).any f || f l[q]) := by
  rw [List.take_add_one, List.getElem?_eq_getElem h, List.any_append]; simp
def lastW (J : List ByteArray) : ByteArray := J.getD (J.length - 1) .empty
/-- What is joined, beside the word and the column. -/
def Beside (J : List ByteArray) (s : Nat × Nat) : Prop := J.length = s.1 + 1 ∧ wlen (lastW J) = s.2 ∧ Prp (lastW J)
theorem lastW_app (J : List ByteArray) (w : ByteArray) : lastW (J ++ [w]) = w := by
  unfold lastW
  rw [List.length_append, List.length_singleton, Nat.add_sub_cancel, List.getD_eq_getElem?_getD, List.getElem?_append_right (Nat.le_refl _), Nat.sub_self]; rfl
theorem lastW_set {J : List ByteArray} {w : ByteArray} (h : 0 < J.length) : lastW (J.set (J.length - 1) w) = w := by
  unfold lastW
  rw [List.length_set, getD_lt (by rw [List.length_set]; omega), List.getElem_set_self]
theorem beside_step {J : List ByteArray} {s : Nat × Nat} {j c : Bool} {k : Nat} {w : ByteArray} (h : (J = [] ∧ s = (0, 0) ∧ j = false ∧ (decide (0 < k) || c) = false) ∨ (Beside J s ∧ j = !(decide (0 < k) || c))) (hw : Prp w) :
    Beside (addW J j w) (if decide (0 < k) || c then (s.1 + 1, wlen w) else (s.1, s.2 + wlen w)) := by
  rcases h with ⟨rfl, rfl, rfl, h⟩ | ⟨⟨h1, h2, h3⟩, rfl⟩
  · rw [h, addW_app (.inl rfl)]
    exact ⟨rfl, by rw [lastW_app]; exact (Nat.zero_add _).symm, by rw [lastW_app]; exact hw⟩
  · cases hc : (decide (0 < k) || c)
    · rw [Bool.not_false, addW_set (by omega)]
      have e := prp_app h3 hw
      have h0 : 0 < J.length := by omega
      exact ⟨by rw [List.length_set]; exact h1, by rw [lastW_set h0]; show wlen (lastW J ++ w) = _; rw [wlen_app h3 hw, h2]; rfl, by rw [lastW_set h0]; exact e.2⟩
    · rw [Bool.not_true, addW_app (.inl rfl)]
      exact ⟨by rw [List.length_append, List.length_singleton, h1]; rfl, by rw [lastW_app]; rfl, by rw [lastW_app]; exact hw⟩
theorem beside_line {J : List ByteArray} {s : Nat × Nat} {h c : Bool} {ws : List ByteArray} (h0 : (J = [] ∧ s = (0, 0) ∧ h = false ∧ c = false) ∨ (Beside J s ∧ h = !c)) (hw : ∀ x ∈ ws, Prp x) : ∀ k, k < ws.length → Beside (joinK J h ws (k + 1)) (dvK c ws s (k + 1))
  | 0, hk => by
    rw [joinK, dvK]
    have hg := hw _ (List.getElem_mem hk)
    rw [← getD_lt (d := .empty) hk] at hg
    refine beside_step (k := 0) ?_ hg
    rcases h0 with ⟨h1, h2, h3, h4⟩ | ⟨h1, h2⟩
    · exact .inl ⟨h1, h2, by rw [h3, Bool.and_false], by rw [h4]; rfl⟩
    · exact .inr ⟨h1, by rw [h2]; cases c <;> rfl⟩
  | k + 1, hk => by
    have ih := beside_line h0 hw k (by omega)
    rw [joinK, dvK]
    have hg := hw _ (List.getElem_mem hk)
    rw [← getD_lt (d := .empty) hk] at hg
    refine beside_step (k := k + 1) (.inr ⟨ih, ?_⟩) hg
    rw [decide_eq_false (by omega), decide_eq_true (show 0 < k + 1 by omega)]; rfl
theorem beside_all {ln : List Ln} (hw : ∀ i, i < ln.length → (lnAt ln i).words.length ≠ 0 ∧ ∀ x ∈ (lnAt ln i).words, Prp x) : ∀ i, i < ln.length → Beside (joinI ln (i + 1)) (dvS ln (i + 1))
  | 0, hi => by
    obtain ⟨h1, h2⟩ := hw 0 hi
    rw [joinI, dvS]
    obtain ⟨k, hk⟩ : ∃ k, (lnAt ln 0).words.length = k + 1 := ⟨(lnAt ln 0).words.length - 1, by omega⟩
    rw [hk]
    exact beside_line (.inl ⟨rfl, rfl, rfl, rfl⟩) h2 k (by omega)
  | i + 1, hi => by
    obtain ⟨h1, h2⟩ := hw (i + 1) hi
    have ih := beside_all hw i (by omega)
    rw [joinI, dvS]
    obtain ⟨k, hk⟩ : ∃ k, (lnAt ln (i + 1)).words.length = k + 1 := ⟨(lnAt ln (i + 1)).words.length - 1, by omega⟩
    rw [hk]
    refine beside_line (.inr ⟨ih, ?_⟩) h2 k (by omega)
    unfold prevH newC
    rw [decide_eq_true (show 0 < i + 1 by omega), Bool.true_and, Bool.true_and, Bool.not_not]
/-! nothing runs over -/
theorem dvK_bound {c : Bool} {ws : List ByteArray} {s : Nat × Nat} (h2 : ∀ w ∈ ws, w.size ≤ 1000) : ∀ k, (dvK c ws s k).1 ≤ s.1 + k ∧ (dvK c ws s k).2 ≤ s.2 + 1000 * k
  | 0 => ⟨Nat.le_refl _, Nat.le_refl _⟩
  | k + 1 => by
    obtain ⟨ih1, ih2⟩ := dvK_bound (c := c) (s := s) h2 k
    have hw : wlen (ws.getD k .empty) ≤ 1000 := by
      have h4 := runes_len (ws.getD k .empty)
      have h5 : (ws.getD k .empty).size ≤ 1000 := by
        rw [List.getD_eq_getElem?_getD]
        rcases Nat.lt_or_ge k ws.length with h3 | h3
        · rw [List.getElem?_eq_getElem h3]; exact h2 _ (List.getElem_mem h3)
        · rw [List.getElem?_eq_none h3]; exact Nat.zero_le _
      unfold wlen; omega
    rw [dvK, Nat.mul_add, Nat.mul_one]
    split
    · exact ⟨Nat.succ_le_succ ih1, Nat.le_trans hw (by omega)⟩
    · exact ⟨Nat.le_succ_of_le ih1, by rw [← Nat.add_assoc]; exact Nat.add_le_add ih2 hw⟩
theorem dvS_bound {ln : List Ln} {M N : Nat} (hM : M = 1000) (hN : N = 1000000) (h : ∀ x ∈ ln, LnOK x) (i : Nat) (hi : i ≤ ln.length) : (dvS ln i).1 ≤ M * i ∧ (dvS ln i).2 ≤ N * i := by
  induction i with
  | zero => exact ⟨Nat.le_refl _, Nat.le_refl _⟩
  | succ i ih =>
    obtain ⟨ih1, ih2⟩ := ih (by omega)
    have hil : i < ln.length := by omega
    have hk := h _ (List.getElem_mem hil)
    rw [← lnAt_lt hil] at hk
    obtain ⟨h1, h2⟩ := dvK_bound (c := newC ln i) (s := dvS ln i) hk.2 (lnAt ln i).words.length
    have h3 := hk.1
    rw [dvS, Nat.mul_add, Nat.mul_add, Nat.mul_one, Nat.mul_one]
    exact ⟨by omega, by omega⟩
theorem joinK_len_mono (J : List ByteArray) (h : Bool) (ws : List ByteArray) : ∀ k, J.length ≤ (joinK J h ws k).length
  | 0 => Nat.le_refl _
  | k + 1 => by
    have ih := joinK_len_mono J h ws k
    rw [joinK]
    unfold addW
    split
    · rw [List.length_set]; exact ih
    · rw [List.length_append]; omega
theorem joinI_len_mono (ln : List Ln) {i : Nat} : ∀ {k}, i ≤ k → (joinI ln i).length ≤ (joinI ln k).length
  | 0, h => by obtain rfl : i = 0 := by omega
               exact Nat.le_refl _
  | k + 1, h => by
    rcases Nat.lt_or_ge k i with h1 | h1
    · obtain rfl : i = k + 1 := by omega
      exact Nat.le_refl _
    · exact Nat.le_trans (joinI_len_mono ln h1) (by rw [joinI]; exact joinK_len_mono _ _ _ _)
/-- The word that is looked up is one of the boxes'. -/
theorem dv_in {l : List Bx} {ln : List Ln} (hj : joinL ln = l.map (·.word)) {i : Nat} (hi : i < ln.length) (hw : ∀ j, j < i + 1 → (lnAt ln j).words.length ≠ 0 ∧ ∀ x ∈ (lnAt ln j).words, Prp x) : (dvS ln (i + 1)).1 < l.length := by
  have key : ∀ j, j < i + 1 → Beside (joinI ln (j + 1)) (dvS ln (j + 1)) := fun j => by
    induction j with
    | zero =>
      intro hj0
      obtain ⟨h1, h2⟩ := hw 0 hj0
      rw [joinI, dvS]
      obtain ⟨k, hk⟩ : ∃ k, (lnAt ln 0).words.length = k + 1 := ⟨(lnAt ln 0).words.length - 1, by omega⟩
      rw [hk]
      exact beside_line (.inl ⟨rfl, rfl, rfl, rfl⟩) h2 k (by omega)
    | succ j ih =>
      intro hj1
      obtain ⟨h1, h2⟩ := hw (j + 1) hj1
      have ih := ih (by omega)
      rw [joinI, dvS]
      obtain ⟨k, hk⟩ : ∃ k, (lnAt ln (j + 1)).words.length = k + 1 := ⟨(lnAt ln (j + 1)).words.length - 1, by omega⟩
      rw [hk]
      refine beside_line (.inr ⟨ih, ?_⟩) h2 k (by omega)
      unfold prevH newC
      rw [decide_eq_true (show 0 < j + 1 by omega), Bool.true_and, Bool.true_and, Bool.not_not]
  have h1 := (key i (Nat.lt_succ_self i)).1
  have h2 := joinI_len_mono ln (i := i + 1) (k := ln.length) hi
  have h3 := congrArg List.length hj
  rw [List.length_map] at h3
  unfold joinL at h3
  omega
end Go.GH
namespace Go.GH
open Go Go.Proofs
variable {E : Env}
theorem lDivision (l : List Bx) (ln : List Ln) (w : Int) (hk : ∀ x ∈ ln, LnOK x) (hl : ln.length ≤ 1000) : GCall Tryd.prog E 36 [DBxs l, DLns ln, .v (.int .i64 w)] [] (fun d H => d = .v (.bool (divB l ln w)) ∧ H = []) := by
  refine GCall.body (C := ⟨Tryd.prog, E, true⟩) Tryd.func36 rfl (fun _ => rfl) (by kernel_rfl) rfl ?_
  refine SCode.seqR ?_
  refine SOps.assign rfl ?_
  refine SOps.nil ?_
  refine SCode.seq ?_
  refine SCode.seqR ?_
  refine SOps.move rfl ?_
  refine SOps.callP (sJoin ln hk hl) rfl ?_
  rintro _ rfl
  refine SOps.move rfl ?_
  refine SOps.callP (lTexts _ _) rfl ?_
  rintro _ rfl
  refine SOps.un rfl rfl ?_
  refine SOps.nil ?_
  refine SCode.cond rfl (fun hc1 => ?_) (fun hc1 => ?_)
  · try simp only [decide_eq_true_eq, decide_eq_false_iff_not, Bool.not_eq_true', Bool.not_eq_false', beq_iff_eq, bne_iff_ne, ne_eq, beq_eq_false_iff_ne, bne_eq_false_iff_eq, Int.not_lt, Int.not_le, Nat.not_lt, Nat.not_le, Int.ofNat_lt, Int.ofNat_le, Bool.not_eq_eq_eq_not, Bool.not_true, Bool.not_false] at hc1
    refine SCode.seqR ?_
    refine SOps.assign rfl ?_
    refine SOps.nil ?_
    refine SCode.ret ?_
    exact ⟨_, Res.one (.tmp rfl), congrArg (fun b => DV.v (.bool b)) (show _ = divB l ln w from Eq.symm (by unfold divB; rw [decide_eq_false (by assumption)]; rfl)), rfl⟩
  · try simp only [decide_eq_true_eq, decide_eq_false_iff_not, Bool.not_eq_true', Bool.not_eq_false', beq_iff_eq, bne_iff_ne, ne_eq, beq_eq_false_iff_ne, bne_eq_false_iff_eq, Int.not_lt, Int.not_le, Nat.not_lt, Nat.not_le, Int.ofNat_lt, Int.ofNat_le, Bool.not_eq_eq_eq_not, Bool.not_true, Bool.not_false] at hc1
    refine SCode.skip ?_
    show SCode _ _ _ _
    refine SCode.seqR ?_
    have hjn : joinL ln = l.map (·.word) := by simp_all
    refine SOps.assign rfl ?_
    refine SOps.assign rfl ?_
    refine SOps.nil ?_
    refine SCode.seq ?_
    refine SCode.seqR ?_
    refine SOps.move rfl ?_
    refine SOps.lenM rfl sliceB_25_48_2 ?_
    refine SOps.move rfl ?_
    refine SOps.nil ?_
    refine SCode.block ?_
    refine SCode.loop1 (fun (i : Nat) => (⟨112, [(0, DBxs l), (1, DLns ln), (2, .v (.int .i64 w)), (7, .v (.int .i64 (((dvS ln i).1 : Nat) : Int))), (8, .v (.int .i64 (((dvS ln i).2 : Nat) : Int))), (21, DLns ln), (22, .v (.int .i64 (ln.length : Int))), (23, .v (.int .i64 (i : Int)))], []⟩ : St)) (fun (i : Nat) => i ≤ ln.length ∧ ∀ j, j < i → dline l ln w j = true) (fun (i : Nat) => ln.length - i) (0) (by exact ⟨Nat.zero_le _, fun j hj => absurd hj (Nat.not_lt_zero _)⟩) (St.Le.of ⟨(by first | rfl | (show some _ = some _; simp)), (by first | rfl | (show some _ = some _; simp)), (by first | rfl | (show some _ = some _; simp)), (by first | rfl | (show some _ = some _; simp)), (by first | rfl | (show some _ = some _; simp)), (by first | rfl | (show some _ = some _; simp)), (by first | rfl | (show some _ = some _; simp)), (by first | rfl | (show some _ = some _; simp)), trivial⟩ rfl (by first | rfl | (simp))) ?_
    rintro i ⟨hin, hg⟩
    refine SCode.seqR ?_
    refine SOps.bin rfl rfl rfl ?_
    refine SOps.nil ?_
    refine SCode.seq ?_
    refine SCode.cond rfl (fun hc2 => ?_) (fun hc2 => ?_)
    · try simp only [decide_eq_true_eq, decide_eq_false_iff_not, Bool.not_eq_true', Bool.not_eq_false', beq_iff_eq, bne_iff_ne, ne_eq, beq_eq_false_iff_ne, bne_eq_false_iff_eq, Int.not_lt, Int.not_le, Nat.not_lt, Nat.not_le, Int.ofNat_lt, Int.ofNat_le, Bool.not_eq_eq_eq_not, Bool.not_true, Bool.not_false] at hc2
      refine SCode.skip ?_
      show SCode _ _ _ _
      refine SCode.seq ?_
      refine SCode.block ?_
      refine SCode.seqR ?_
      have hil : i < ln.length := by omega
      have hki := hk _ (List.getElem_mem hil)
      have hli := lnAt_lt hil
      have hts := hki.size
      have hki1 := hki.1
      refine SOps.move rfl ?_
      refine SOps.indexM (i) rfl rfl sliceB_25_48_2 (by first | omega | (simp only [lenB] <;> omega)) (by first | omega | (simp only [lenB] <;> omega)) ?_
      refine SOps.loadPinA rfl aggB_48_2 (Nat.le_of_ble_eq_true rfl) ?_
      refine SOps.alloc (sz := 2) zeroIs_48 (fun b0 hb_0 => ?_)
      refine SOps.assign rfl ?_
      refine SOps.storeAM 0 rfl rfl aggB_48_2 rfl ?_
      refine SOps.freezeRef (t := 10) 0 0 rfl rfl rfl rfl rfl ?_
      refine SOps.nil ?_
      refine SCode.seqJ (fun (_ : PLift ((wlen (textL (ln[i])) : Int) ≤ w ∧ (ln[i]).words.length ≠ 0 ∧ ((ln[i]).hyph = true → i + 1 ≠ ln.length))) => (⟨112, [(0, DBxs l), (1, DLns ln), (2, .v (.int .i64 w)), (7, .v (.int .i64 (((dvS ln i).1 : Nat) : Int))), (8, .v (.int .i64 (((dvS ln i).2 : Nat) : Int))), (9, .v (.int .i64 (i : Int))), (10, .ipin (encLn (ln[i]))), (21, DLns ln), (22, .v (.int .i64 (ln.length : Int))), (23, .v (.int .i64 (i : Int)))], []⟩ : St)) ?_ ?_
      · refine SCode.seqR ?_
        refine SOps.loadPinA rfl aggB_48_2 (Nat.le_of_ble_eq_true rfl) ?_
        refine SOps.callP (sText _ hki.words.1 hki.words.2) rfl ?_
        rintro _ rfl
        refine SOps.callP (lRunes _) rfl ?_
        rintro _ rfl
        refine SOps.move rfl ?_
        refine SOps.bin rfl rfl rfl ?_
        refine SOps.move rfl ?_
        refine SOps.caseB 33 rfl (fun hb3 => ?_) (fun hb3 => ?_)
        · try simp only [decide_eq_true_eq, decide_eq_false_iff_not, Bool.not_eq_true', Bool.not_eq_false', beq_iff_eq, bne_iff_ne, ne_eq, beq_eq_false_iff_ne, bne_eq_false_iff_eq, Int.not_lt, Int.not_le, Nat.not_lt, Nat.not_le, Int.ofNat_lt, Int.ofNat_le, Bool.not_eq_eq_eq_not, Bool.not_true, Bool.not_false] at hb3
          refine SOps.skip rfl ?_
          refine SOps.skip rfl ?_
          refine SOps.skip rfl ?_
          refine SOps.skip rfl ?_
          refine SOps.pick rfl rfl ?_
          refine SOps.move rfl ?_
          refine SOps.skip rfl ?_
          refine SOps.skip rfl ?_
          refine SOps.skip rfl ?_
          refine SOps.skip rfl ?_
          refine SOps.skip rfl ?_
          refine SOps.skip rfl ?_
          refine SOps.skip rfl ?_
          refine SOps.skip rfl ?_
          refine SOps.skip rfl ?_
          refine SOps.pick rfl rfl ?_
          refine SOps.nil ?_
          refine SCode.cond rfl (fun _ => ?_) (fun h => by cases h)
          refine SCode.seqR ?_
          refine SOps.assign rfl ?_
          refine SOps.nil ?_
          refine SCode.ret ?_
          exact ⟨_, Res.one (.tmp rfl), congrArg (fun b => DV.v (.bool b)) (show _ = divB l ln w from Eq.symm (by refine divB_bad hil (Bool.eq_false_iff.2 (fun h => ?_)); have h9 := dline_iff.1 h; rw [hli] at h9; obtain ⟨q1, q2, q3, q4, q5⟩ := h9; first | omega | (exact q3 (by assumption) (by omega)))), rfl⟩
        · try simp only [decide_eq_true_eq, decide_eq_false_iff_not, Bool.not_eq_true', Bool.not_eq_false', beq_iff_eq, bne_iff_ne, ne_eq, beq_eq_false_iff_ne, bne_eq_false_iff_eq, Int.not_lt, Int.not_le, Nat.not_lt, Nat.not_le, Int.ofNat_lt, Int.ofNat_le, Bool.not_eq_eq_eq_not, Bool.not_true, Bool.not_false] at hb3
          refine SOps.fieldPin rfl fieldB_48_0_0 ?_
          refine SOps.loadPin rfl flatB_46 ?_
          refine SOps.lenM rfl sliceB_46_9_1 ?_
          refine SOps.bin rfl rfl rfl ?_
          refine SOps.pick rfl rfl ?_
          refine SOps.move rfl ?_
          refine SOps.caseB 39 rfl (fun hb4 => ?_) (fun hb4 => ?_)
          · try simp only [decide_eq_true_eq, decide_eq_false_iff_not, Bool.not_eq_true', Bool.not_eq_false', beq_iff_eq, bne_iff_ne, ne_eq, beq_eq_false_iff_ne, bne_eq_false_iff_eq, Int.not_lt, Int.not_le, Nat.not_lt, Nat.not_le, Int.ofNat_lt, Int.ofNat_le, Bool.not_eq_eq_eq_not, Bool.not_true, Bool.not_false] at hb4
            refine SOps.skip rfl ?_
            refine SOps.skip rfl ?_
            refine SOps.skip rfl ?_
            refine SOps.skip rfl ?_
            refine SOps.skip rfl ?_
            refine SOps.skip rfl ?_
            refine SOps.skip rfl ?_
            refine SOps.skip rfl ?_
            refine SOps.skip rfl ?_
            refine SOps.pick rfl rfl ?_
            refine SOps.nil ?_
            refine SCode.cond rfl (fun _ => ?_) (fun h => by cases h)
            refine SCode.seqR ?_
            refine SOps.assign rfl ?_
            refine SOps.nil ?_
            refine SCode.ret ?_
            exact ⟨_, Res.one (.tmp rfl), congrArg (fun b => DV.v (.bool b)) (show _ = divB l ln w from Eq.symm (by refine divB_bad hil (Bool.eq_false_iff.2 (fun h => ?_)); have h9 := dline_iff.1 h; rw [hli] at h9; obtain ⟨q1, q2, q3, q4, q5⟩ := h9; first | omega | (exact q3 (by assumption) (by omega)))), rfl⟩
          · try simp only [decide_eq_true_eq, decide_eq_false_iff_not, Bool.not_eq_true', Bool.not_eq_false', beq_iff_eq, bne_iff_ne, ne_eq, beq_eq_false_iff_ne, bne_eq_false_iff_eq, Int.not_lt, Int.not_le, Nat.not_lt, Nat.not_le, Int.ofNat_lt, Int.ofNat_le, Bool.not_eq_eq_eq_not, Bool.not_true, Bool.not_false] at hb4
            refine SOps.fieldPin rfl fieldB_48_1_1 ?_
            refine SOps.loadPin rfl flatB_4 ?_
            refine SOps.move rfl ?_
            refine SOps.caseB 42 rfl (fun hb5 => ?_) (fun hb5 => ?_)
            · try simp only [decide_eq_true_eq, decide_eq_false_iff_not, Bool.not_eq_true', Bool.not_eq_false', beq_iff_eq, bne_iff_ne, ne_eq, beq_eq_false_iff_ne, bne_eq_false_iff_eq, Int.not_lt, Int.not_le, Nat.not_lt, Nat.not_le, Int.ofNat_lt, Int.ofNat_le, Bool.not_eq_eq_eq_not, Bool.not_true, Bool.not_false] at hb5
              refine SOps.move rfl ?_
              refine SOps.move rfl ?_
              refine SOps.lenM rfl sliceB_25_48_2 ?_
              refine SOps.subI rfl rfl (by first | omega | (simp only [lenB] <;> omega)) (by first | omega | (simp only [lenB] <;> omega)) ?_
              refine SOps.bin rfl rfl rfl ?_
              refine SOps.pick rfl rfl ?_
              refine SOps.pick rfl rfl ?_
              refine SOps.nil ?_
              refine SCode.cond rfl (fun hc6 => ?_) (fun hc6 => ?_)
              · try simp only [decide_eq_true_eq, decide_eq_false_iff_not, Bool.not_eq_true', Bool.not_eq_false', beq_iff_eq, bne_iff_ne, ne_eq, beq_eq_false_iff_ne, bne_eq_false_iff_eq, Int.not_lt, Int.not_le, Nat.not_lt, Nat.not_le, Int.ofNat_lt, Int.ofNat_le, Bool.not_eq_eq_eq_not, Bool.not_true, Bool.not_false] at hc6
                refine SCode.seqR ?_
                refine SOps.assign rfl ?_
                refine SOps.nil ?_
                refine SCode.ret ?_
                exact ⟨_, Res.one (.tmp rfl), congrArg (fun b => DV.v (.bool b)) (show _ = divB l ln w from Eq.symm (by refine divB_bad hil (Bool.eq_false_iff.2 (fun h => ?_)); have h9 := dline_iff.1 h; rw [hli] at h9; obtain ⟨q1, q2, q3, q4, q5⟩ := h9; first | omega | (exact q3 (by assumption) (by omega)))), rfl⟩
              · try simp only [decide_eq_true_eq, decide_eq_false_iff_not, Bool.not_eq_true', Bool.not_eq_false', beq_iff_eq, bne_iff_ne, ne_eq, beq_eq_false_iff_ne, bne_eq_false_iff_eq, Int.not_lt, Int.not_le, Nat.not_lt, Nat.not_le, Int.ofNat_lt, Int.ofNat_le, Bool.not_eq_eq_eq_not, Bool.not_true, Bool.not_false] at hc6
                refine SCode.skip ?_
                exact ⟨⟨⟨by omega, by omega, fun h => by first | omega | simp_all⟩⟩, St.Le.of ⟨rfl, rfl, rfl, rfl, rfl, rfl, rfl, rfl, rfl, rfl, trivial⟩⟩
            · try simp only [decide_eq_true_eq, decide_eq_false_iff_not, Bool.not_eq_true', Bool.not_eq_false', beq_iff_eq, bne_iff_ne, ne_eq, beq_eq_false_iff_ne, bne_eq_false_iff_eq, Int.not_lt, Int.not_le, Nat.not_lt, Nat.not_le, Int.ofNat_lt, Int.ofNat_le, Bool.not_eq_eq_eq_not, Bool.not_true, Bool.not_false] at hb5
              refine SOps.skip rfl ?_
              refine SOps.skip rfl ?_
              refine SOps.skip rfl ?_
              refine SOps.skip rfl ?_
              refine SOps.skip rfl ?_
              refine SOps.pick rfl rfl ?_
              refine SOps.pick rfl rfl ?_
              refine SOps.nil ?_
              refine SCode.cond rfl (fun h => by cases h) (fun _ => ?_)
              refine SCode.skip ?_
              exact ⟨⟨⟨by omega, by omega, fun h => by first | omega | simp_all⟩⟩, St.Le.of ⟨rfl, rfl, rfl, rfl, rfl, rfl, rfl, rfl, rfl, rfl, trivial⟩⟩
      · intro ⟨hA1, hA2, hA3⟩
        refine SCode.seq ?_
        refine SCode.seqR ?_
        refine SOps.fieldPin rfl fieldB_48_0_0 ?_
        refine SOps.loadPin rfl flatB_46 ?_
        refine SOps.lenM rfl sliceB_46_9_1 ?_
        refine SOps.move rfl ?_
        refine SOps.nil ?_
        refine SCode.block ?_
        refine SCode.loop1 (fun (k : Nat) => (⟨112, [(0, DBxs l), (1, DLns ln), (2, .v (.int .i64 w)), (7, .v (.int .i64 (((dvK (newC ln i) (ln[i]).words (dvS ln i) k).1 : Nat) : Int))), (8, .v (.int .i64 (((dvK (newC ln i) (ln[i]).words (dvS ln i) k).2 : Nat) : Int))), (9, .v (.int .i64 (i : Int))), (10, .ipin (encLn (ln[i]))), (21, DLns ln), (22, .v (.int .i64 (ln.length : Int))), (23, .v (.int .i64 (i : Int))), (51, DStrs (ln[i]).words), (52, .v (.int .i64 ((ln[i]).words.length : Int))), (53, .v (.int .i64 (k : Int)))], []⟩ : St)) (fun (k : Nat) => k ≤ (ln[i]).words.length ∧ ∀ s ∈ (ln[i]).words.take k, okWd s = true) (fun (k : Nat) => (ln[i]).words.length - k) (0) (by exact ⟨Nat.zero_le _, by simp⟩) (St.Le.of ⟨(by first | rfl | (show some _ = some _; simp)), (by first | rfl | (show some _ = some _; simp)), (by first | rfl | (show some _ = some _; simp)), (by first | rfl | (show some _ = some _; simp)), (by first | rfl | (show some _ = some _; simp)), (by first | rfl | (show some _ = some _; simp)), (by first | rfl | (show some _ = some _; simp)), (by first | rfl | (show some _ = some _; simp)), (by first | rfl | (show some _ = some _; simp)), (by first | rfl | (show some _ = some _; simp)), (by first | rfl | (show some _ = some _; simp)), (by first | rfl | (show some _ = some _; simp)), (by first | rfl | (show some _ = some _; simp)), trivial⟩ rfl (by first | rfl | (simp))) ?_
        rintro k ⟨hkn, hq⟩
        refine SCode.seqR ?_
        refine SOps.bin rfl rfl rfl ?_
        refine SOps.nil ?_
        refine SCode.seq ?_
        refine SCode.cond rfl (fun hc7 => ?_) (fun hc7 => ?_)
        · try simp only [decide_eq_true_eq, decide_eq_false_iff_not, Bool.not_eq_true', Bool.not_eq_false', beq_iff_eq, bne_iff_ne, ne_eq, beq_eq_false_iff_ne, bne_eq_false_iff_eq, Int.not_lt, Int.not_le, Nat.not_lt, Nat.not_le, Int.ofNat_lt, Int.ofNat_le, Bool.not_eq_eq_eq_not, Bool.not_true, Bool.not_false] at hc7
          refine SCode.skip ?_
          show SCode _ _ _ _
          refine SCode.seq ?_
          refine SCode.block ?_
          refine SCode.seqR ?_
          refine SOps.move rfl ?_
          refine SOps.indexM (k) rfl rfl sliceB_46_9_1 (by first | omega | (simp only [lenB] <;> omega)) (by first | omega | (simp only [lenB] <;> omega)) ?_
          refine SOps.loadPin rfl flatB_9 ?_
          refine SOps.assign rfl ?_
          refine SOps.assign rfl ?_
          refine SOps.nil ?_
          refine SCode.seq ?_
          refine SCode.seqR ?_
          have hkw : k < (ln[i]).words.length := by omega
          have hwk := hki.2 _ (List.getElem_mem hkw)
          have hrk := runes_len ((ln[i]).words[k])
          refine SOps.move rfl ?_
          refine SOps.bin rfl rfl rfl ?_
          refine SOps.move rfl ?_
          refine SOps.caseB 60 rfl (fun hb8 => ?_) (fun hb8 => ?_)
          · try simp only [decide_eq_true_eq, decide_eq_false_iff_not, Bool.not_eq_true', Bool.not_eq_false', beq_iff_eq, bne_iff_ne, ne_eq, beq_eq_false_iff_ne, bne_eq_false_iff_eq, Int.not_lt, Int.not_le, Nat.not_lt, Nat.not_le, Int.ofNat_lt, Int.ofNat_le, Bool.not_eq_eq_eq_not, Bool.not_true, Bool.not_false] at hb8
            refine SOps.skip rfl ?_
            refine SOps.skip rfl ?_
            refine SOps.skip rfl ?_
            refine SOps.skip rfl ?_
            refine SOps.skip rfl ?_
            refine SOps.pick rfl rfl ?_
            refine SOps.nil ?_
            refine SCode.cond rfl (fun _ => ?_) (fun h => by cases h)
            refine SCode.seqR ?_
            refine SOps.assign rfl ?_
            refine SOps.nil ?_
            refine SCode.ret ?_
            exact ⟨_, Res.one (.tmp rfl), congrArg (fun b => DV.v (.bool b)) (show _ = divB l ln w from Eq.symm (by refine divB_bad hil (Bool.eq_false_iff.2 (fun h => ?_)); have h9 := dline_iff.1 h; rw [hli] at h9; obtain ⟨q1, q2, q3, q4, q5⟩ := h9; have q6 := q4 _ (List.getElem_mem hkw); unfold Prp at q6; simp_all)), rfl⟩
          · try simp only [decide_eq_true_eq, decide_eq_false_iff_not, Bool.not_eq_true', Bool.not_eq_false', beq_iff_eq, bne_iff_ne, ne_eq, beq_eq_false_iff_ne, bne_eq_false_iff_eq, Int.not_lt, Int.not_le, Nat.not_lt, Nat.not_le, Int.ofNat_lt, Int.ofNat_le, Bool.not_eq_eq_eq_not, Bool.not_true, Bool.not_false] at hb8
            refine SOps.move rfl ?_
            refine SOps.runesF rfl rfl strB_9 sliceB_70_21_1 intB_21_i32 ?_
            refine SOps.convRunesStr rfl sliceB_70_21_1 intB_21_i32 strB_9 (by simp [lenB] <;> (first | omega | (simp only [lenB] <;> omega))) ?_
            refine SOps.move rfl ?_
            refine SOps.bin rfl rfl rfl ?_
            refine SOps.pick rfl rfl ?_
            refine SOps.nil ?_
            refine SCode.cond rfl (fun hc9 => ?_) (fun hc9 => ?_)
            · try simp only [decide_eq_true_eq, decide_eq_false_iff_not, Bool.not_eq_true', Bool.not_eq_false', beq_iff_eq, bne_iff_ne, ne_eq, beq_eq_false_iff_ne, bne_eq_false_iff_eq, Int.not_lt, Int.not_le, Nat.not_lt, Nat.not_le, Int.ofNat_lt, Int.ofNat_le, Bool.not_eq_eq_eq_not, Bool.not_true, Bool.not_false] at hc9
              refine SCode.seqR ?_
              refine SOps.assign rfl ?_
              refine SOps.nil ?_
              refine SCode.ret ?_
              exact ⟨_, Res.one (.tmp rfl), congrArg (fun b => DV.v (.bool b)) (show _ = divB l ln w from Eq.symm (by refine divB_bad hil (Bool.eq_false_iff.2 (fun h => ?_)); have h9 := dline_iff.1 h; rw [hli] at h9; obtain ⟨q1, q2, q3, q4, q5⟩ := h9; have q6 := q4 _ (List.getElem_mem hkw); unfold Prp at q6; simp_all)), rfl⟩
            · try simp only [decide_eq_true_eq, decide_eq_false_iff_not, Bool.not_eq_true', Bool.not_eq_false', beq_iff_eq, bne_iff_ne, ne_eq, beq_eq_false_iff_ne, bne_eq_false_iff_eq, Int.not_lt, Int.not_le, Nat.not_lt, Nat.not_le, Int.ofNat_lt, Int.ofNat_le, Bool.not_eq_eq_eq_not, Bool.not_true, Bool.not_false] at hc9
              have hoq : okWd ((ln[i]).words[k]) = true := okWd_iff.2 ⟨by assumption, by assumption⟩
              have hdb := dvS_bound (M := 1000) (N := 1000000) rfl rfl hk i (by omega)
              have hkb := dvK_bound (c := newC ln i) (s := dvS ln i) hki.2 k
              have hdk : (dvK (newC ln i) (ln[i]).words (dvS ln i) (k + 1)) = if (decide (0 < k) || newC ln i) then ((dvK (newC ln i) (ln[i]).words (dvS ln i) k).1 + 1, wlen ((ln[i]).words[k])) else ((dvK (newC ln i) (ln[i]).words (dvS ln i) k).1, (dvK (newC ln i) (ln[i]).words (dvS ln i) k).2 + wlen ((ln[i]).words[k])) := by rw [dvK, getD_lt hkw]
              refine SCode.skip ?_
              show SCode _ _ _ _
              refine SCode.seqJ (fun (_ : Nat) => (⟨112, [(0, DBxs l), (1, DLns ln), (2, .v (.int .i64 w)), (7, .v (.int .i64 (((if (decide (0 < k) || newC ln i) then (dvK (newC ln i) (ln[i]).words (dvS ln i) k).1 + 1 else (dvK (newC ln i) (ln[i]).words (dvS ln i) k).1) : Nat) : Int))), (8, .v (.int .i64 (((if (decide (0 < k) || newC ln i) then 0 else (dvK (newC ln i) (ln[i]).words (dvS ln i) k).2) : Nat) : Int))), (9, .v (.int .i64 (i : Int))), (10, .ipin (encLn (ln[i]))), (12, .v (.string (ln[i]).words[k])), (21, DLns ln), (22, .v (.int .i64 (ln.length : Int))), (23, .v (.int .i64 (i : Int))), (51, DStrs (ln[i]).words), (52, .v (.int .i64 ((ln[i]).words.length : Int))), (53, .v (.int .i64 (k : Int)))], []⟩ : St)) ?_ ?_
              · refine SCode.seqR ?_
                refine SOps.move rfl ?_
                refine SOps.bin rfl rfl rfl ?_
                refine SOps.move rfl ?_
                refine SOps.caseB 69 rfl (fun hb10 => ?_) (fun hb10 => ?_)
                · try simp only [decide_eq_true_eq, decide_eq_false_iff_not, Bool.not_eq_true', Bool.not_eq_false', beq_iff_eq, bne_iff_ne, ne_eq, beq_eq_false_iff_ne, bne_eq_false_iff_eq, Int.not_lt, Int.not_le, Nat.not_lt, Nat.not_le, Int.ofNat_lt, Int.ofNat_le, Bool.not_eq_eq_eq_not, Bool.not_true, Bool.not_false] at hb10
                  have hcc : (decide (0 < k) || newC ln i) = true := by rw [decide_eq_true (by omega)]; rfl
                  refine SOps.skip rfl ?_
                  refine SOps.skip rfl ?_
                  refine SOps.skip rfl ?_
                  refine SOps.skip rfl ?_
                  refine SOps.skip rfl ?_
                  refine SOps.skip rfl ?_
                  refine SOps.skip rfl ?_
                  refine SOps.skip rfl ?_
                  refine SOps.skip rfl ?_
                  refine SOps.skip rfl ?_
                  refine SOps.skip rfl ?_
                  refine SOps.pick rfl rfl ?_
                  refine SOps.nil ?_
                  refine SCode.cond rfl (fun _ => ?_) (fun h => by cases h)
                  refine SCode.region ?_
                  refine SOps.move rfl ?_
                  refine SOps.addI rfl rfl (by first | omega | (simp only [lenB] <;> omega)) (by first | omega | (simp only [lenB] <;> omega)) ?_
                  refine SOps.assign rfl ?_
                  refine SOps.assign rfl ?_
                  refine SOps.nil ?_
                  first
                    | exact ⟨0, St.Le.of ⟨rfl, rfl, rfl, congrArg (fun z : Nat => some (DV.v (.int .i64 (z : Int)))) (if_pos hcc).symm, congrArg (fun z : Nat => some (DV.v (.int .i64 (z : Int)))) (if_pos hcc).symm, rfl, rfl, rfl, rfl, rfl, rfl, rfl, rfl, rfl, trivial⟩⟩
                    | exact ⟨0, St.Le.of ⟨rfl, rfl, rfl, congrArg (fun z : Nat => some (DV.v (.int .i64 (z : Int)))) (if_neg hcc).symm, congrArg (fun z : Nat => some (DV.v (.int .i64 (z : Int)))) (if_neg hcc).symm, rfl, rfl, rfl, rfl, rfl, rfl, rfl, rfl, rfl, trivial⟩⟩
                · try simp only [decide_eq_true_eq, decide_eq_false_iff_not, Bool.not_eq_true', Bool.not_eq_false', beq_iff_eq, bne_iff_ne, ne_eq, beq_eq_false_iff_ne, bne_eq_false_iff_eq, Int.not_lt, Int.not_le, Nat.not_lt, Nat.not_le, Int.ofNat_lt, Int.ofNat_le, Bool.not_eq_eq_eq_not, Bool.not_true, Bool.not_false] at hb10
                  refine SOps.move rfl ?_
                  refine SOps.bin rfl rfl rfl ?_
                  refine SOps.move rfl ?_
                  refine SOps.caseB 72 rfl (fun hb11 => ?_) (fun hb11 => ?_)
                  · try simp only [decide_eq_true_eq, decide_eq_false_iff_not, Bool.not_eq_true', Bool.not_eq_false', beq_iff_eq, bne_iff_ne, ne_eq, beq_eq_false_iff_ne, bne_eq_false_iff_eq, Int.not_lt, Int.not_le, Nat.not_lt, Nat.not_le, Int.ofNat_lt, Int.ofNat_le, Bool.not_eq_eq_eq_not, Bool.not_true, Bool.not_false] at hb11
                    refine SOps.move rfl ?_
                    refine SOps.move rfl ?_
                    refine SOps.subI rfl rfl (by first | omega | (simp only [lenB] <;> omega)) (by first | omega | (simp only [lenB] <;> omega)) ?_
                    refine SOps.indexM ((i - 1)) rfl rfl sliceB_25_48_2 (by first | omega | (simp only [lenB] <;> omega)) (by first | omega | (simp only [lenB] <;> omega)) ?_
                    refine SOps.fieldPin rfl fieldB_48_1_1 ?_
                    refine SOps.loadPin rfl flatB_4 ?_
                    refine SOps.un rfl rfl ?_
                    refine SOps.pick rfl rfl ?_
                    refine SOps.pick rfl rfl ?_
                    refine SOps.nil ?_
                    refine SCode.cond rfl (fun hc12 => ?_) (fun hc12 => ?_)
                    · try simp only [decide_eq_true_eq, decide_eq_false_iff_not, Bool.not_eq_true', Bool.not_eq_false', beq_iff_eq, bne_iff_ne, ne_eq, beq_eq_false_iff_ne, bne_eq_false_iff_eq, Int.not_lt, Int.not_le, Nat.not_lt, Nat.not_le, Int.ofNat_lt, Int.ofNat_le, Bool.not_eq_eq_eq_not, Bool.not_true, Bool.not_false] at hc12
                      have hcc : (decide (0 < k) || newC ln i) = true := by unfold newC; rw [decide_eq_false (by omega), decide_eq_true (by omega), lnAt_lt (show i - 1 < ln.length by omega)]; simp_all
                      refine SCode.region ?_
                      refine SOps.move rfl ?_
                      refine SOps.addI rfl rfl (by first | omega | (simp only [lenB] <;> omega)) (by first | omega | (simp only [lenB] <;> omega)) ?_
                      refine SOps.assign rfl ?_
                      refine SOps.assign rfl ?_
                      refine SOps.nil ?_
                      first
                        | exact ⟨0, St.Le.of ⟨rfl, rfl, rfl, congrArg (fun z : Nat => some (DV.v (.int .i64 (z : Int)))) (if_pos hcc).symm, congrArg (fun z : Nat => some (DV.v (.int .i64 (z : Int)))) (if_pos hcc).symm, rfl, rfl, rfl, rfl, rfl, rfl, rfl, rfl, rfl, trivial⟩⟩
                        | exact ⟨0, St.Le.of ⟨rfl, rfl, rfl, congrArg (fun z : Nat => some (DV.v (.int .i64 (z : Int)))) (if_neg hcc).symm, congrArg (fun z : Nat => some (DV.v (.int .i64 (z : Int)))) (if_neg hcc).symm, rfl, rfl, rfl, rfl, rfl, rfl, rfl, rfl, rfl, trivial⟩⟩
                    · try simp only [decide_eq_true_eq, decide_eq_false_iff_not, Bool.not_eq_true', Bool.not_eq_false', beq_iff_eq, bne_iff_ne, ne_eq, beq_eq_false_iff_ne, bne_eq_false_iff_eq, Int.not_lt, Int.not_le, Nat.not_lt, Nat.not_le, Int.ofNat_lt, Int.ofNat_le, Bool.not_eq_eq_eq_not, Bool.not_true, Bool.not_false] at hc12
                      have hcc : ¬ (decide (0 < k) || newC ln i) = true := by unfold newC; rw [decide_eq_false (by omega), decide_eq_true (by omega), lnAt_lt (show i - 1 < ln.length by omega)]; simp_all
                      refine SCode.skip ?_
                      first
                        | exact ⟨0, St.Le.of ⟨rfl, rfl, rfl, congrArg (fun z : Nat => some (DV.v (.int .i64 (z : Int)))) (if_pos hcc).symm, congrArg (fun z : Nat => some (DV.v (.int .i64 (z : Int)))) (if_pos hcc).symm, rfl, rfl, rfl, rfl, rfl, rfl, rfl, rfl, rfl, trivial⟩⟩
                        | exact ⟨0, St.Le.of ⟨rfl, rfl, rfl, congrArg (fun z : Nat => some (DV.v (.int .i64 (z : Int)))) (if_neg hcc).symm, congrArg (fun z : Nat => some (DV.v (.int .i64 (z : Int)))) (if_neg hcc).symm, rfl, rfl, rfl, rfl, rfl, rfl, rfl, rfl, rfl, trivial⟩⟩
                  · try simp only [decide_eq_true_eq, decide_eq_false_iff_not, Bool.not_eq_true', Bool.not_eq_false', beq_iff_eq, bne_iff_ne, ne_eq, beq_eq_false_iff_ne, bne_eq_false_iff_eq, Int.not_lt, Int.not_le, Nat.not_lt, Nat.not_le, Int.ofNat_lt, Int.ofNat_le, Bool.not_eq_eq_eq_not, Bool.not_true, Bool.not_false] at hb11
                    have hcc : ¬ (decide (0 < k) || newC ln i) = true := by unfold newC; rw [decide_eq_false (by omega), decide_eq_false (by omega)]; simp
                    refine SOps.skip rfl ?_
                    refine SOps.skip rfl ?_
                    refine SOps.skip rfl ?_
                    refine SOps.skip rfl ?_
                    refine SOps.skip rfl ?_
                    refine SOps.skip rfl ?_
                    refine SOps.skip rfl ?_
                    refine SOps.pick rfl rfl ?_
                    refine SOps.pick rfl rfl ?_
                    refine SOps.nil ?_
                    refine SCode.cond rfl (fun h => by cases h) (fun _ => ?_)
                    refine SCode.skip ?_
                    first
                      | exact ⟨0, St.Le.of ⟨rfl, rfl, rfl, congrArg (fun z : Nat => some (DV.v (.int .i64 (z : Int)))) (if_pos hcc).symm, congrArg (fun z : Nat => some (DV.v (.int .i64 (z : Int)))) (if_pos hcc).symm, rfl, rfl, rfl, rfl, rfl, rfl, rfl, rfl, rfl, trivial⟩⟩
                      | exact ⟨0, St.Le.of ⟨rfl, rfl, rfl, congrArg (fun z : Nat => some (DV.v (.int .i64 (z : Int)))) (if_neg hcc).symm, congrArg (fun z : Nat => some (DV.v (.int .i64 (z : Int)))) (if_neg hcc).symm, rfl, rfl, rfl, rfl, rfl, rfl, rfl, rfl, rfl, trivial⟩⟩
              · intro _
                refine SCode.region ?_
                have hwl : wlen ((ln[i]).words[k]) ≤ 1000 := by unfold wlen; omega
                have he2 : (if (decide (0 < k) || newC ln i) then 0 else (dvK (newC ln i) (ln[i]).words (dvS ln i) k).2) ≤ (dvK (newC ln i) (ln[i]).words (dvS ln i) k).2 := by split; exact Nat.zero_le _; exact Nat.le_refl _
                refine SOps.move rfl ?_
                refine SOps.move rfl ?_
                refine SOps.callP (lRunes _) rfl ?_
                rintro _ rfl
                refine SOps.addI rfl rfl (by first | omega | (simp only [lenB] <;> omega)) (by first | omega | (simp only [lenB] <;> omega)) ?_
                refine SOps.assign rfl ?_
                refine SOps.nil ?_
                show SCode _ _ _ _
                refine SCode.region ?_
                refine SOps.addI rfl rfl (by first | omega | (simp only [lenB] <;> omega)) (by first | omega | (simp only [lenB] <;> omega)) ?_
                refine SOps.move rfl ?_
                refine SOps.nil ?_
                exact ⟨k + 1, ⟨by omega, take_more hq hkw hoq⟩, by omega, St.Le.of ⟨rfl, rfl, rfl, (by show some _ = some _; rw [hdk]; split <;> rfl), (by show some _ = some _; rw [hdk]; split <;> simp), rfl, rfl, rfl, rfl, rfl, rfl, rfl, rfl, trivial⟩⟩
        · try simp only [decide_eq_true_eq, decide_eq_false_iff_not, Bool.not_eq_true', Bool.not_eq_false', beq_iff_eq, bne_iff_ne, ne_eq, beq_eq_false_iff_ne, bne_eq_false_iff_eq, Int.not_lt, Int.not_le, Nat.not_lt, Nat.not_le, Int.ofNat_lt, Int.ofNat_le, Bool.not_eq_eq_eq_not, Bool.not_true, Bool.not_false] at hc7
          refine SCode.exit ?_
          show SCode _ _ _ _
          refine SCode.seq ?_
          refine SCode.seqR ?_
          have hkl : k = (ln[i]).words.length := by omega
          have hDe : dvS ln (i + 1) = (dvK (newC ln i) (ln[i]).words (dvS ln i) k) := by rw [dvS, hli, hkl]
          have hall : ∀ s ∈ (ln[i]).words, s ≠ ⟨#[]⟩ ∧ Prp s := fun s hs => okWd_iff.1 (all_of (by omega) hq s hs)
          refine SOps.fieldPin rfl fieldB_48_1_1 ?_
          refine SOps.loadPin rfl flatB_4 ?_
          refine SOps.un rfl rfl ?_
          refine SOps.nil ?_
          refine SCode.cond rfl (fun hc13 => ?_) (fun hc13 => ?_)
          · try simp only [decide_eq_true_eq, decide_eq_false_iff_not, Bool.not_eq_true', Bool.not_eq_false', beq_iff_eq, bne_iff_ne, ne_eq, beq_eq_false_iff_ne, bne_eq_false_iff_eq, Int.not_lt, Int.not_le, Nat.not_lt, Nat.not_le, Int.ofNat_lt, Int.ofNat_le, Bool.not_eq_eq_eq_not, Bool.not_true, Bool.not_false] at hc13
            have hdl : dline l ln w i = true := dline_iff.2 (by rw [hli]; exact ⟨hA1, hA2, hA3, hall, fun h => by simp_all⟩)
            refine SCode.exit ?_
            show SCode _ _ _ _
            refine SCode.region ?_
            refine SOps.addI rfl rfl (by first | omega | (simp only [lenB] <;> omega)) (by first | omega | (simp only [lenB] <;> omega)) ?_
            refine SOps.move rfl ?_
            refine SOps.nil ?_
            rw [← hDe]
            exact ⟨i + 1, ⟨by omega, lt_step hg hdl⟩, by omega, St.Le.of ⟨rfl, rfl, rfl, rfl, rfl, rfl, rfl, rfl, trivial⟩⟩
          · try simp only [decide_eq_true_eq, decide_eq_false_iff_not, Bool.not_eq_true', Bool.not_eq_false', beq_iff_eq, bne_iff_ne, ne_eq, beq_eq_false_iff_ne, bne_eq_false_iff_eq, Int.not_lt, Int.not_le, Nat.not_lt, Nat.not_le, Int.ofNat_lt, Int.ofNat_le, Bool.not_eq_eq_eq_not, Bool.not_true, Bool.not_false] at hc13
            refine SCode.skip ?_
            show SCode _ _ _ _
            refine SCode.seqR ?_
            refine SOps.assign rfl ?_
            refine SOps.nil ?_
            refine SCode.seq ?_
            refine SCode.seqR ?_
            have hdi : (dvS ln (i + 1)).1 < l.length := dv_in hjn hil (lt_step (fun j h => by have h9 := dline_iff.1 (hg j h); exact ⟨h9.2.1, fun x hx => (h9.2.2.2.1 x hx).2⟩) (by rw [hli]; exact ⟨hA2, fun x hx => (hall x hx).2⟩))
            have hpa : ptsAt l (dvS ln (i + 1)).1 = (l[(dvS ln (i + 1)).1]).pts := by unfold ptsAt; rw [getD_lt hdi]
            rw [← hDe]
            refine SOps.move rfl ?_
            refine SOps.move rfl ?_
            refine SOps.indexM ((dvS ln (i + 1)).1) rfl rfl sliceB_22_43_2 (by first | omega | (simp only [lenB] <;> omega)) (by first | omega | (simp only [lenB] <;> omega)) ?_
            refine SOps.fieldPin rfl fieldB_43_1_1 ?_
            refine SOps.loadPin rfl flatB_41 ?_
            refine SOps.lenM rfl sliceB_41_3_1 ?_
            refine SOps.move rfl ?_
            refine SOps.nil ?_
            refine SCode.block ?_
            refine SCode.loop1 (fun (q : Nat) => (⟨112, [(0, DBxs l), (1, DLns ln), (2, .v (.int .i64 w)), (7, .v (.int .i64 (((dvS ln (i + 1)).1 : Nat) : Int))), (8, .v (.int .i64 (((dvS ln (i + 1)).2 : Nat) : Int))), (9, .v (.int .i64 (i : Int))), (10, .ipin (encLn (ln[i]))), (13, .v (.bool (((l[(dvS ln (i + 1)).1]).pts.take q).any (fun h => decide (h = (((dvS ln (i + 1)).2 : Nat) : Int)))))), (21, DLns ln), (22, .v (.int .i64 (ln.length : Int))), (23, .v (.int .i64 (i : Int))), (96, DInts (l[(dvS ln (i + 1)).1]).pts), (97, .v (.int .i64 ((l[(dvS ln (i + 1)).1]).pts.length : Int))), (98, .v (.int .i64 (q : Int)))], []⟩ : St)) (fun (q : Nat) => q ≤ (l[(dvS ln (i + 1)).1]).pts.length) (fun (q : Nat) => (l[(dvS ln (i + 1)).1]).pts.length - q) (0) (by exact Nat.zero_le _) (St.Le.of ⟨(by first | rfl | (show some _ = some _; simp)), (by first | rfl | (show some _ = some _; simp)), (by first | rfl | (show some _ = some _; simp)), (by first | rfl | (show some _ = some _; simp)), (by first | rfl | (show some _ = some _; simp)), (by first | rfl | (show some _ = some _; simp)), (by first | rfl | (show some _ = some _; simp)), (by first | rfl | (show some _ = some _; simp)), (by first | rfl | (show some _ = some _; simp)), (by first | rfl | (show some _ = some _; simp)), (by first | rfl | (show some _ = some _; simp)), (by first | rfl | (show some _ = some _; simp)), (by first | rfl | (show some _ = some _; simp)), (by first | rfl | (show some _ = some _; simp)), trivial⟩ rfl (by first | rfl | (simp))) ?_
            rintro q hqn
            refine SCode.fact (isl_len (t := 96) rfl) (fun hB => ?_)
            simp only [List.length_map, lenB] at hB
            refine SCode.seqR ?_
            refine SOps.bin rfl rfl rfl ?_
            refine SOps.nil ?_
            refine SCode.seq ?_
            refine SCode.cond rfl (fun hc14 => ?_) (fun hc14 => ?_)
            · try simp only [decide_eq_true_eq, decide_eq_false_iff_not, Bool.not_eq_true', Bool.not_eq_false', beq_iff_eq, bne_iff_ne, ne_eq, beq_eq_false_iff_ne, bne_eq_false_iff_eq, Int.not_lt, Int.not_le, Nat.not_lt, Nat.not_le, Int.ofNat_lt, Int.ofNat_le, Bool.not_eq_eq_eq_not, Bool.not_true, Bool.not_false] at hc14
              refine SCode.skip ?_
              show SCode _ _ _ _
              refine SCode.seq ?_
              refine SCode.block ?_
              refine SCode.seqR ?_
              refine SOps.indexM (q) rfl rfl sliceB_41_3_1 (by first | omega | (simp only [lenB] <;> omega)) (by first | omega | (simp only [lenB] <;> omega)) ?_
              refine SOps.loadPin rfl flatB_3 ?_
              refine SOps.assign rfl ?_
              refine SOps.nil ?_
              refine SCode.region ?_
              have hqk : q < (l[(dvS ln (i + 1)).1]).pts.length := by omega
              refine SOps.move rfl ?_
              refine SOps.move rfl ?_
              refine SOps.caseB 103 rfl (fun hb15 => ?_) (fun hb15 => ?_)
              · try simp only [decide_eq_true_eq, decide_eq_false_iff_not, Bool.not_eq_true', Bool.not_eq_false', beq_iff_eq, bne_iff_ne, ne_eq, beq_eq_false_iff_ne, bne_eq_false_iff_eq, Int.not_lt, Int.not_le, Nat.not_lt, Nat.not_le, Int.ofNat_lt, Int.ofNat_le, Bool.not_eq_eq_eq_not, Bool.not_true, Bool.not_false] at hb15
                refine SOps.skip rfl ?_
                refine SOps.skip rfl ?_
                refine SOps.skip rfl ?_
                refine SOps.pick rfl rfl ?_
                refine SOps.assign rfl ?_
                refine SOps.nil ?_
                show SCode _ _ _ _
                refine SCode.region ?_
                refine SOps.addI rfl rfl (by first | omega | (simp only [lenB] <;> omega)) (by first | omega | (simp only [lenB] <;> omega)) ?_
                refine SOps.move rfl ?_
                refine SOps.nil ?_
                have hat := any_take_step (f := fun h => decide (h = (((dvS ln (i + 1)).2 : Nat) : Int))) hqk
                exact ⟨q + 1, by omega, by omega, St.Le.of ⟨rfl, rfl, rfl, rfl, rfl, rfl, rfl, (by show some _ = some _; rw [hat, (by assumption : (((l[(dvS ln (i + 1)).1]).pts.take q).any (fun h => decide (h = (((dvS ln (i + 1)).2 : Nat) : Int)))) = true), Bool.true_or] <;> rfl), rfl, rfl, rfl, rfl, rfl, rfl, trivial⟩⟩
              · try simp only [decide_eq_true_eq, decide_eq_false_iff_not, Bool.not_eq_true', Bool.not_eq_false', beq_iff_eq, bne_iff_ne, ne_eq, beq_eq_false_iff_ne, bne_eq_false_iff_eq, Int.not_lt, Int.not_le, Nat.not_lt, Nat.not_le, Int.ofNat_lt, Int.ofNat_le, Bool.not_eq_eq_eq_not, Bool.not_true, Bool.not_false] at hb15
                refine SOps.move rfl ?_
                refine SOps.move rfl ?_
                refine SOps.bin rfl rfl rfl ?_
                refine SOps.pick rfl rfl ?_
                refine SOps.assign rfl ?_
                refine SOps.nil ?_
                show SCode _ _ _ _
                refine SCode.region ?_
                refine SOps.addI rfl rfl (by first | omega | (simp only [lenB] <;> omega)) (by first | omega | (simp only [lenB] <;> omega)) ?_
                refine SOps.move rfl ?_
                refine SOps.nil ?_
                have hat := any_take_step (f := fun h => decide (h = (((dvS ln (i + 1)).2 : Nat) : Int))) hqk
                exact ⟨q + 1, by omega, by omega, St.Le.of ⟨rfl, rfl, rfl, rfl, rfl, rfl, rfl, (by show some _ = some _; rw [hat, (by assumption : (((l[(dvS ln (i + 1)).1]).pts.take q).any (fun h => decide (h = (((dvS ln (i + 1)).2 : Nat) : Int)))) = false), Bool.false_or] <;> rfl), rfl, rfl, rfl, rfl, rfl, rfl, trivial⟩⟩
            · try simp only [decide_eq_true_eq, decide_eq_false_iff_not, Bool.not_eq_true', Bool.not_eq_false', beq_iff_eq, bne_iff_ne, ne_eq, beq_eq_false_iff_ne, bne_eq_false_iff_eq, Int.not_lt, Int.not_le, Nat.not_lt, Nat.not_le, Int.ofNat_lt, Int.ofNat_le, Bool.not_eq_eq_eq_not, Bool.not_true, Bool.not_false] at hc14
              refine SCode.exit ?_
              show SCode _ _ _ _
              refine SCode.seqR ?_
              refine SOps.move rfl ?_
              refine SOps.un rfl rfl ?_
              refine SOps.nil ?_
              refine SCode.cond rfl (fun hc16 => ?_) (fun hc16 => ?_)
              · try simp only [decide_eq_true_eq, decide_eq_false_iff_not, Bool.not_eq_true', Bool.not_eq_false', beq_iff_eq, bne_iff_ne, ne_eq, beq_eq_false_iff_ne, bne_eq_false_iff_eq, Int.not_lt, Int.not_le, Nat.not_lt, Nat.not_le, Int.ofNat_lt, Int.ofNat_le, Bool.not_eq_eq_eq_not, Bool.not_true, Bool.not_false] at hc16
                refine SCode.seqR ?_
                refine SOps.assign rfl ?_
                refine SOps.nil ?_
                refine SCode.ret ?_
                exact ⟨_, Res.one (.tmp rfl), congrArg (fun b => DV.v (.bool b)) (show _ = divB l ln w from Eq.symm (by refine divB_bad hil (Bool.eq_false_iff.2 (fun h => ?_)); have h9 := dline_iff.1 h; rw [hli] at h9; obtain ⟨q1, q2, q3, q4, q5⟩ := h9; have q6 := q5 (by assumption); rw [hpa] at q6; have h8 := (by assumption : (((l[(dvS ln (i + 1)).1]).pts.take q).any (fun h => decide (h = (((dvS ln (i + 1)).2 : Nat) : Int)))) = false); rw [List.take_of_length_le (by omega), List.any_eq_false] at h8; exact h8 _ q6 (decide_eq_true rfl))), rfl⟩
              · try simp only [decide_eq_true_eq, decide_eq_false_iff_not, Bool.not_eq_true', Bool.not_eq_false', beq_iff_eq, bne_iff_ne, ne_eq, beq_eq_false_iff_ne, bne_eq_false_iff_eq, Int.not_lt, Int.not_le, Nat.not_lt, Nat.not_le, Int.ofNat_lt, Int.ofNat_le, Bool.not_eq_eq_eq_not, Bool.not_true, Bool.not_false] at hc16
                have hdl : dline l ln w i = true := dline_iff.2 (by rw [hli]; exact ⟨hA1, hA2, hA3, hall, fun _ => by rw [hpa]; have h8 := (by assumption : (((l[(dvS ln (i + 1)).1]).pts.take q).any (fun h => decide (h = (((dvS ln (i + 1)).2 : Nat) : Int)))) = true); rw [List.take_of_length_le (by omega), List.any_eq_true] at h8; obtain ⟨x, hx, hx2⟩ := h8; rw [← of_decide_eq_true hx2]; exact hx⟩)
                refine SCode.skip ?_
                show SCode _ _ _ _
                refine SCode.region ?_
                refine SOps.addI rfl rfl (by first | omega | (simp only [lenB] <;> omega)) (by first | omega | (simp only [lenB] <;> omega)) ?_
                refine SOps.move rfl ?_
                refine SOps.nil ?_
                exact ⟨i + 1, ⟨by omega, lt_step hg hdl⟩, by omega, St.Le.of ⟨rfl, rfl, rfl, rfl, rfl, rfl, rfl, rfl, trivial⟩⟩
    · try simp only [decide_eq_true_eq, decide_eq_false_iff_not, Bool.not_eq_true', Bool.not_eq_false', beq_iff_eq, bne_iff_ne, ne_eq, beq_eq_false_iff_ne, bne_eq_false_iff_eq, Int.not_lt, Int.not_le, Nat.not_lt, Nat.not_le, Int.ofNat_lt, Int.ofNat_le, Bool.not_eq_eq_eq_not, Bool.not_true, Bool.not_false] at hc2
      refine SCode.exit ?_
      show SCode _ _ _ _
      refine SCode.seqR ?_
      refine SOps.assign rfl ?_
      refine SOps.nil ?_
      refine SCode.ret ?_
      exact ⟨_, Res.one (.tmp rfl), congrArg (fun b => DV.v (.bool b)) (show _ = divB l ln w from Eq.symm (by exact divB_iff.2 ⟨hjn, fun j hj => hg j (by omega)⟩)), rfl⟩
end Go.GH
namespace Go.GH
open Go Go.Lib
/-- What is joined up to a break point. -/
def JP (l : List Bx) (p : Nat × Int) : List ByteArray := (l.take p.1).map (·.word) ++ if 0 < p.2 then [encs ((wAt l p.1).take p.2.toNat)] else []
/-- The words of a line, joined to what stands before it. -/
theorem joinK_false {J : List ByteArray} {ws : List ByteArray} : ∀ k, k ≤ ws.length → joinK J false ws k = J ++ ws.take k
  | 0, _ => by rw [List.take_zero, List.append_nil]; rfl
  | k + 1, hk => by
    have hkl : k < ws.length := by omega
    rw [joinK, joinK_false k (by omega), Bool.and_false, addW_app (.inl rfl), getD_lt hkl, List.take_add_one, List.getElem?_eq_getElem hkl, List.append_assoc]
    rfl
theorem joinK_true {J : List ByteArray} {w : ByteArray} {ws : List ByteArray} (hJ : 0 < J.length) : ∀ k, k ≤ ws.length → joinK J true (w :: ws) (k + 1) = J.set (J.length - 1) (lastW J ++ w) ++ ws.take k
  | 0, _ => by
    rw [List.take_zero, List.append_nil, joinK, show (decide (0 = 0) && true) = true from rfl, List.getD_cons_zero]
    exact addW_set hJ
  | k + 1, hk => by
    have hkl : k < ws.length := by omega
    rw [joinK, joinK_true hJ k (by omega), show (decide (k + 1 = 0) && true) = false from rfl, addW_app (.inl rfl), List.getD_cons_succ, getD_lt hkl, List.take_add_one (i := k), List.getElem?_eq_getElem hkl, List.append_assoc]
    rfl
theorem joinF {J ws : List ByteArray} : joinK J false ws ws.length = J ++ ws := by rw [joinK_false _ (Nat.le_refl _), List.take_length]
theorem joinT {J : List ByteArray} {w : ByteArray} {ws : List ByteArray} (hJ : 0 < J.length) : joinK J true (w :: ws) (w :: ws).length = J.set (J.length - 1) (lastW J ++ w) ++ ws := by
  rw [List.length_cons, joinK_true hJ _ (Nat.le_refl _), List.take_length]
theorem prp_word {l : List Bx} (hb : boxesB l = true) {j : Nat} (hj : j < l.length) : (l[j]).word = encs (wAt l j) := by
  rw [wAt_lt hj]; exact ((bnds_of hb).cor _ (List.getElem_mem hj)).symm
theorem map_wsA {l : List Bx} (hb : boxesB l = true) (a b : Nat) : wsA l a b = ((l.take b).drop a).map (·.word) := by
  unfold wsA
  exact List.map_congr_left (fun x hx => (bnds_of hb).cor x (List.mem_of_mem_take (List.mem_of_mem_drop hx)))
theorem take_split {l : List Bx} {a b : Nat} (h : a ≤ b) : (l.take b).map (·.word) = (l.take a).map (·.word) ++ ((l.take b).drop a).map (·.word) := by
  rw [← List.map_append]
  congr 1
  have : l.take a = (l.take b).take a := by rw [List.take_take, Nat.min_eq_left h]
  rw [this, List.take_append_drop]
theorem encs_cut {rs : List Int} {m : Nat} : encs (rs.take m) ++ encs (rs.drop m) = encs rs := by rw [← encs_append, List.take_append_drop]
theorem set_app_one {J : List ByteArray} {x y : ByteArray} : (J ++ [x]).set ((J ++ [x]).length - 1) y = J ++ [y] := by
  rw [List.length_append, List.length_singleton, Nat.add_sub_cancel, List.set_append, if_neg (Nat.lt_irrefl _), Nat.sub_self]; rfl
/-- The words between two points lead from what is joined at the one to what is joined at the other. -/
theorem join_pc {l : List Bx} (hb : boxesB l = true) {a b : Nat × Int} (ha : PtOK l a) (hbl : b.1 ≤ l.length) (hab : ltP a b) : joinK (JP l a) (decide (0 < a.2)) (pcW l a b) (pcW l a b).length = JP l b := by
  obtain ⟨a1, a2, a3⟩ := ha
  by_cases h0 : 0 < a.2
  · rw [decide_eq_true h0]
    have hJ : JP l a = (l.take a.1).map (·.word) ++ [encs ((wAt l a.1).take a.2.toNat)] := by unfold JP; rw [if_pos h0]
    have hlen : 0 < (JP l a).length := by rw [hJ, List.length_append]; simp
    have hlast : lastW (JP l a) = encs ((wAt l a.1).take a.2.toNat) := by rw [hJ, lastW_app]
    rcases hab with h | ⟨h, h2⟩
    · have e : pcW l a b = encs ((wAt l a.1).drop a.2.toNat) :: (wsA l (a.1 + 1) b.1 ++ if 0 < b.2 then [encs ((wAt l b.1).take b.2.toNat)] else []) := by unfold pcW; rw [if_neg (by omega)]
      rw [e, joinT hlen, hlast, hJ, set_app_one, encs_cut, ← prp_word hb a1, map_wsA hb]
      unfold JP
      rw [take_split (show a.1 + 1 ≤ b.1 by omega), List.take_add_one (i := a.1), List.getElem?_eq_getElem a1, List.map_append]
      simp
    · have e : pcW l a b = [encs (((wAt l a.1).take b.2.toNat).drop a.2.toNat)] := by unfold pcW; rw [if_pos h]
      have hcut : encs ((wAt l a.1).take a.2.toNat) ++ encs (((wAt l a.1).take b.2.toNat).drop a.2.toNat) = encs ((wAt l a.1).take b.2.toNat) := by
        rw [← encs_append]
        congr 1
        have : (wAt l a.1).take a.2.toNat = ((wAt l a.1).take b.2.toNat).take a.2.toNat := by rw [List.take_take, Nat.min_eq_left (by omega)]
        rw [this, List.take_append_drop]
      rw [e, joinT hlen, hlast, hJ, set_app_one, hcut, List.append_nil]
      unfold JP
      rw [if_pos (by omega), h]
  · rw [decide_eq_false h0, joinF]
    have hz : a.2.toNat = 0 := by omega
    have hJ : JP l a = (l.take a.1).map (·.word) := by unfold JP; rw [if_neg h0, List.append_nil]
    rw [hJ]
    unfold pcW JP
    rcases hab with h | ⟨h, h2⟩
    · rw [if_neg (show ¬ a.1 = b.1 by omega), hz, List.drop_zero, ← prp_word hb a1, map_wsA hb, take_split (show a.1 + 1 ≤ b.1 by omega), List.take_add_one (i := a.1), List.getElem?_eq_getElem a1, List.map_append]
      simp
    · rw [if_pos h, hz, List.drop_zero, if_pos (show 0 < b.2 by omega), h]
/-- Words that lead to the same are the same. -/
theorem prp_cancel {x y z : ByteArray} (hx : Prp x) (hy : Prp y) (hz : Prp z) (h : x ++ y = x ++ z) : y = z := by
  have h1 := (prp_app hx hy).1
  have h2 := (prp_app hx hz).1
  rw [h, h2] at h1
  have h3 := List.append_cancel_left h1
  have : encs (runes z) = encs (runes y) := by rw [h3]
  rw [hy, hz] at this
  exact this.symm
theorem join_inj {J : List ByteArray} {h : Bool} (hJ : h = true → 0 < J.length ∧ Prp (lastW J)) {us vs : List ByteArray} (hu : us ≠ []) (hv : vs ≠ []) (pu : ∀ x ∈ us, Prp x) (pv : ∀ x ∈ vs, Prp x) (e : joinK J h us us.length = joinK J h vs vs.length) : us = vs := by
  cases h with
  | false =>
    rw [joinF, joinF] at e
    exact List.append_cancel_left e
  | true =>
    obtain ⟨h1, h2⟩ := hJ rfl
    obtain ⟨u, us, rfl⟩ := List.exists_cons_of_ne_nil hu
    obtain ⟨v, vs, rfl⟩ := List.exists_cons_of_ne_nil hv
    rw [joinT h1, joinT h1] at e
    have hl : (J.set (J.length - 1) (lastW J ++ u)).length = (J.set (J.length - 1) (lastW J ++ v)).length := by rw [List.length_set, List.length_set]
    obtain ⟨e1, e2⟩ := List.append_inj e hl
    have e3 := congrArg lastW e1
    rw [lastW_set h1, lastW_set h1] at e3
    rw [e2, prp_cancel h2 (pu u (List.mem_cons_self ..)) (pv v (List.mem_cons_self ..)) e3]
theorem JP_len {l : List Bx} {p : Nat × Int} (h : p.1 ≤ l.length) : (JP l p).length = p.1 + if 0 < p.2 then 1 else 0 := by
  unfold JP
  rw [List.length_append, List.length_map, List.length_take, Nat.min_eq_left h]
  split <;> rfl
theorem JP_last {l : List Bx} {p : Nat × Int} (h : 0 < p.2) (hl : p.2 ≤ ((wAt l p.1).length : Int)) : Prp (lastW (JP l p)) ∧ lastW (JP l p) = encs ((wAt l p.1).take p.2.toNat) ∧ wlen (lastW (JP l p)) = p.2.toNat := by
  have e : lastW (JP l p) = encs ((wAt l p.1).take p.2.toNat) := by unfold JP; rw [if_pos h, lastW_app]
  have hv : ∀ r ∈ (wAt l p.1).take p.2.toNat, Utf8.valid r = true := fun r hr => wAt_valid (List.mem_of_mem_take hr)
  rw [e]
  exact ⟨prp_encs hv, rfl, by rw [wlen_encs hv, List.length_take]; omega⟩
theorem ptsF_mem {l : List Bx} : ∀ k, k ≤ l.length → ∀ p, p ∈ ptsF (l.take k) ↔ p.1 < k ∧ (p.2 = 0 ∨ p.2 ∈ ptsAt l p.1)
  | 0, _, p => by rw [List.take_zero]; simp [ptsF]
  | k + 1, hk, p => by
    have hkl : k < l.length := by omega
    have ih := ptsF_mem k (by omega) p (l := l)
    have e : ptsAt l k = (l[k]).pts := by unfold ptsAt; rw [getD_lt hkl]
    rw [ptsF_take hkl, List.mem_append, ih, List.mem_cons, List.mem_map]
    obtain ⟨p1, p2⟩ := p
    constructor
    · rintro (⟨h1, h2⟩ | h | ⟨q, hq, h⟩)
      · exact ⟨by omega, h2⟩
      · simp only [Prod.mk.injEq] at h
        exact ⟨by show p1 < k + 1; omega, .inl h.2⟩
      · simp only [Prod.mk.injEq] at h
        obtain ⟨rfl, rfl⟩ := h
        exact ⟨Nat.lt_succ_self _, .inr (by rw [e]; exact hq)⟩
    · rintro ⟨h1, h2⟩
      rcases Nat.lt_or_ge p1 k with h3 | h3
      · exact .inl ⟨h3, h2⟩
      · have h4 : p1 = k := by dsimp only at h1; omega
        subst h4
        rcases h2 with h2 | h2
        · exact .inr (.inl (by dsimp only at h2; rw [h2]))
        · rw [e] at h2
          exact .inr (.inr ⟨p2, h2, rfl⟩)
theorem points_mem {l : List Bx} {p : Nat × Int} : p ∈ pointsL l ↔ (p.1 < l.length ∧ (p.2 = 0 ∨ p.2 ∈ ptsAt l p.1)) ∨ p = (l.length, 0) := by
  have h := ptsF_mem l.length (Nat.le_refl _) p (l := l)
  rw [List.take_length] at h
  unfold pointsL
  rw [List.mem_append, h, List.mem_singleton]
theorem pts_mem {l : List Bx} {p : Nat × Int} (h : p ∈ pointsL l) (h1 : p.1 < l.length) (h2 : 0 < p.2) : p.2 ∈ ptsAt l p.1 := by
  rcases points_mem.1 h with ⟨_, h3 | h3⟩ | h3
  · omega
  · exact h3
  · rw [h3] at h2; simp at h2
/-! along a way -/
theorem lnAt_way {l : List Bx} : ∀ {a : Nat} {ks : List Nat} {i : Nat}, i < ks.length → lnAt (linesOf l a ks) i = lineP l (endK a (ks.take i)) (ks.getD i 0)
  | a, k :: ks, 0, _ => rfl
  | a, k :: ks, i + 1, h => by
    have := lnAt_way (l := l) (a := k) (ks := ks) (i := i) (by simpa using h)
    show lnAt (linesOf l k ks) i = _
    rw [this]; rfl
theorem endK_take (a : Nat) (ks : List Nat) {i : Nat} (h : i < ks.length) : endK a (ks.take (i + 1)) = ks.getD i 0 := by
  rw [List.take_add_one, List.getElem?_eq_getElem h, getD_lt h]
  exact endK_snoc _ _ _
theorem Fit.at {l : List Bx} {w : Int} : ∀ {a z : Nat} {ks : List Nat}, Fit l w a ks z → ∀ i, i < ks.length → endK a (ks.take i) < ks.getD i 0 ∧ ks.getD i 0 < ptN l ∧ lenP l (endK a (ks.take i)) (ks.getD i 0) ≤ w ∧ ks.getD i 0 ≤ z ∧ (i + 1 < ks.length → ks.getD i 0 < z)
  | a, z, k :: ks, ⟨h1, h2, h3, h4⟩, 0, _ => ⟨h1, h2, h3, h4.le, fun h => by
      show k < z
      cases ks with
      | nil => simp at h
      | cons q qs => have := h4.1; have := h4.2.2.2.le; omega⟩
  | a, z, k :: ks, ⟨h1, h2, h3, h4⟩, i + 1, hi => by
    have := h4.at i (by simpa using hi)
    exact ⟨this.1, this.2.1, this.2.2.1, this.2.2.2.1, fun h => this.2.2.2.2 (by simpa using h)⟩
theorem endK_all {l : List Bx} {w : Int} : ∀ {a z : Nat} {ks : List Nat}, Fit l w a ks z → endK a ks = z
  | _, _, [], h => h
  | _, _, k :: ks, ⟨_, _, _, h⟩ => endK_all (ks := ks) h
theorem JP_zero (l : List Bx) : JP l (ptQ l 0) = [] := by
  have e : ptQ l 0 = (0, 0) := by
    rw [ptQ_lt (ptN_pos l)]
    cases l with
    | nil => rfl
    | cons b l => rfl
  rw [e]; rfl
theorem JP_end (l : List Bx) : JP l (ptQ l (ptN l - 1)) = l.map (·.word) := by
  rw [ptQ_last]
  unfold JP
  rw [List.take_length]
  simp
theorem ptQ_le {l : List Bx} (hb : boxesB l = true) {i : Nat} (hi : i < ptN l) : (ptQ l i).1 ≤ l.length := by
  rcases ptQ_ok hb hi with h | h
  · exact Nat.le_of_lt h.1
  · rw [h]; exact Nat.le_refl _
theorem prevH_way {l : List Bx} {ks : List Nat} {w : Int} {z : Nat} (hf : Fit l w 0 ks z) {i : Nat} (hi : i ≤ ks.length) : prevH (linesOf l 0 ks) i = decide (0 < (ptQ l (endK 0 (ks.take i))).2) := by
  have hpos := ptN_pos l
  cases i with
  | zero =>
    show false = decide (0 < (ptQ l 0).2)
    have e : (ptQ l 0).2 = 0 := by
      rw [ptQ_lt hpos]
      cases l with
      | nil => rfl
      | cons b l => rfl
    rw [e]; rfl
  | succ i =>
    unfold prevH
    rw [decide_eq_true (show 0 < i + 1 by omega), Bool.true_and, Nat.add_sub_cancel, lnAt_way (by omega), endK_take 0 ks (by omega)]
    have := (colP_eq (hf.at i (by omega)).2.1).2
    exact this
/-- What is joined along a way. -/
theorem join_way {l : List Bx} {w : Int} (hb : boxesB l = true) {ks : List Nat} {z : Nat} (hf : Fit l w 0 ks z) : ∀ i, i ≤ ks.length → joinI (linesOf l 0 ks) i = JP l (ptQ l (endK 0 (ks.take i)))
  | 0, _ => (JP_zero l).symm
  | i + 1, hi => by
    have ih := join_way hb hf i (by omega)
    obtain ⟨f1, f2, _⟩ := hf.at i (by omega)
    rw [joinI, ih, prevH_way hf (by omega), lnAt_way (by omega), (line_words hb f1 f2).1, endK_take 0 ks (by omega)]
    exact join_pc hb (ptQ_small hb (by omega)) (ptQ_le hb f2) (ptQ_ltP hb f1 f2)
theorem way_div {l : List Bx} {w : Int} (hb : boxesB l = true) {ks : List Nat} (hf : Fit l w 0 ks (ptN l - 1)) : divB l (linesOf l 0 ks) w = true := by
  have hlen := linesOf_len l 0 ks
  rw [divB_iff, hlen]
  have hwd : ∀ i, i < (linesOf l 0 ks).length → (lnAt (linesOf l 0 ks) i).words.length ≠ 0 ∧ ∀ x ∈ (lnAt (linesOf l 0 ks) i).words, Prp x := fun i hi => by
    rw [hlen] at hi
    obtain ⟨f1, f2, _⟩ := hf.at i hi
    rw [lnAt_way hi]
    have := line_gd hb f1 f2
    exact ⟨fun e => this.1 (List.length_eq_zero_iff.1 e), fun x hx => (this.2 x hx).prp⟩
  refine ⟨?_, fun i hi => ?_⟩
  · unfold joinL
    rw [hlen, join_way hb hf _ (Nat.le_refl _), List.take_length, endK_all hf, JP_end]
  · obtain ⟨f1, f2, f3, f4, f5⟩ := hf.at i hi
    have hg := line_gd hb f1 f2
    have hbs := beside_all hwd i (by rw [hlen]; exact hi)
    rw [join_way hb hf (i + 1) hi, endK_take 0 ks hi] at hbs
    have hhy : (lnAt (linesOf l 0 ks) i).hyph = decide (0 < (ptQ l (ks.getD i 0)).2) := by
      rw [lnAt_way hi, (line_words hb f1 f2).2]
      exact (colP_eq f2).2
    refine dline_iff.2 ⟨?_, (hwd i (by rw [hlen]; exact hi)).1, fun h => ?_, fun s hs => ?_, fun h => ?_⟩
    · rw [lnAt_way hi, line_len hb f1 f2]; exact f3
    · intro e
      rw [hhy, decide_eq_true_eq] at h
      have h6 : ks.getD i 0 = ptN l - 1 := by
        have h7 := endK_all hf
        have h8 : endK 0 (ks.take (i + 1)) = endK 0 ks := by rw [List.take_of_length_le (by omega)]
        rw [endK_take 0 ks hi] at h8
        omega
      rw [h6, ptQ_last] at h
      simp at h
    · rw [lnAt_way hi] at hs
      have := (hg.2 s hs).word hb
      exact ⟨fun e => this.2 (by rw [e]; rfl), (hg.2 s hs).prp⟩
    · rw [hhy, decide_eq_true_eq] at h
      obtain ⟨b1, b2, b3⟩ := hbs
      have hok : PtOK l (ptQ l (ks.getD i 0)) := by
        rcases ptQ_ok hb f2 with h7 | h7
        · exact h7
        · rw [h7] at h; simp at h
      rw [JP_len (Nat.le_of_lt hok.1), if_pos h] at b1
      have h8 := JP_last h (Int.le_of_lt hok.2.2)
      rw [h8.2.2] at b2
      rw [← b2, show (dvS (linesOf l 0 ks) (i + 1)).1 = (ptQ l (ks.getD i 0)).1 by omega, show ((ptQ l (ks.getD i 0)).2.toNat : Int) = (ptQ l (ks.getD i 0)).2 by omega]
      -- the point lies among the box's
      have hmem : ptQ l (ks.getD i 0) ∈ pointsL l := by rw [ptQ_lt f2]; exact List.getElem_mem _
      exact pts_mem hmem hok.1 h
theorem fit_snoc {l : List Bx} {w : Int} {z k : Nat} (h1 : z < k) (h2 : k < ptN l) (h3 : lenP l z k ≤ w) : ∀ {a : Nat} {ks : List Nat}, Fit l w a ks z → Fit l w a (ks ++ [k]) k
  | a, [], h => by
    obtain rfl : a = z := h
    exact ⟨h1, h2, h3, rfl⟩
  | a, q :: ks, ⟨q1, q2, q3, q4⟩ => ⟨q1, q2, q3, fit_snoc h1 h2 h3 q4⟩
/-- What is joined so far, and what is joined in the end. -/
def Ext (h : Bool) (J L : List ByteArray) : Prop := if h then 0 < J.length ∧ ∃ m, Prp m ∧ L[J.length - 1]? = some (lastW J ++ m) ∧ ∃ t, L = J.dropLast ++ t else ∃ t, L = J ++ t
theorem dropLast_set {J : List ByteArray} {x : ByteArray} (h : 0 < J.length) : (J.set (J.length - 1) x) = J.dropLast ++ [x] := by
  obtain ⟨I, y, rfl⟩ : ∃ I y, J = I ++ [y] := ⟨J.dropLast, J.getLast (List.length_pos_iff.1 h), (List.dropLast_concat_getLast _).symm⟩
  rw [set_app_one, List.dropLast_concat]
theorem ext_back {J L ws : List ByteArray} {h h2 : Bool} (hw : ws ≠ []) (pw : ∀ x ∈ ws, Prp x) (hJ : h = true → 0 < J.length ∧ Prp (lastW J)) (e : Ext h2 (joinK J h ws ws.length) L) : Ext h J L := by
  cases h with
  | false =>
    rw [joinF] at e
    cases h2 with
    | false =>
      obtain ⟨t, ht⟩ := e
      exact ⟨ws ++ t, by rw [ht, List.append_assoc]⟩
    | true =>
      obtain ⟨_, m, _, _, t, ht⟩ := e
      exact ⟨ws.dropLast ++ t, by rw [ht, List.dropLast_append_of_ne_nil hw, List.append_assoc]⟩
  | true =>
    obtain ⟨h1, h3⟩ := hJ rfl
    obtain ⟨w, us, rfl⟩ := List.exists_cons_of_ne_nil hw
    have pw0 := pw w (List.mem_cons_self ..)
    rw [joinT h1, dropLast_set h1] at e
    have hl : (J.dropLast ++ [lastW J ++ w]).length = J.length := by rw [List.length_append, List.length_dropLast, List.length_singleton]; omega
    have hat : (J.dropLast ++ [lastW J ++ w] ++ us)[J.length - 1]? = some (lastW J ++ w) := by
      rw [List.getElem?_append_left (by omega), List.getElem?_append_right (by rw [List.length_dropLast]; exact Nat.le_refl _), List.length_dropLast, Nat.sub_self]; rfl
    have hat2 : ∀ t, (J.dropLast ++ [lastW J ++ w] ++ us ++ t)[J.length - 1]? = some (lastW J ++ w) := fun t => by
      rw [List.getElem?_append_left (by rw [List.length_append]; omega)]; exact hat
    cases h2 with
    | false =>
      obtain ⟨t, ht⟩ := e
      refine ⟨h1, w, pw0, by rw [ht]; exact hat2 t, [lastW J ++ w] ++ us ++ t, by rw [ht]; simp⟩
    | true =>
      obtain ⟨_, m, hm, hL, t, ht⟩ := e
      cases us with
      | nil =>
        rw [List.append_nil] at hL ht
        rw [hl, lastW_app] at hL
        refine ⟨h1, w ++ m, (prp_app pw0 hm).2, by rw [hL, ByteArray.append_assoc], t, by rw [ht, List.dropLast_concat]⟩
      | cons u us =>
        rw [List.dropLast_append_of_ne_nil (by simp)] at ht
        refine ⟨h1, w, pw0, ?_, [lastW J ++ w] ++ (u :: us).dropLast ++ t, by rw [ht]; simp⟩
        rw [ht, List.append_assoc, List.getElem?_append_left (by omega), List.getElem?_append_right (by rw [List.length_dropLast]; exact Nat.le_refl _), List.length_dropLast, Nat.sub_self]; rfl
theorem index_of {l : List Bx} {p : Nat × Int} (h : p ∈ pointsL l) : ∃ i, i < ptN l ∧ ptQ l i = p := by
  obtain ⟨i, hi, e⟩ := List.mem_iff_getElem.1 h
  exact ⟨i, by rw [ptN_eq]; exact hi, by rw [ptQ_lt (by rw [ptN_eq]; exact hi)]; exact e⟩
/-- One line more: where it ends, and what it is. -/
theorem line_of {l : List Bx} {w : Int} (hb : boxesB l = true) {x : Ln} {i : Nat} (hi : i < ptN l) (hne : x.words ≠ []) (hx : ∀ s ∈ x.words, s ≠ ⟨#[]⟩ ∧ Prp s) (hfit : (wlen (textL x) : Int) ≤ w)
    (hext : Ext x.hyph (joinK (JP l (ptQ l i)) (decide (0 < (ptQ l i).2)) x.words x.words.length) (l.map (·.word))) (hh : x.hyph = true → (wlen (lastW (joinK (JP l (ptQ l i)) (decide (0 < (ptQ l i).2)) x.words x.words.length)) : Int) ∈ ptsAt l ((joinK (JP l (ptQ l i)) (decide (0 < (ptQ l i).2)) x.words x.words.length).length - 1)) :
    ∃ k, i < k ∧ k < ptN l ∧ lenP l i k ≤ w ∧ x = lineP l i k ∧ joinK (JP l (ptQ l i)) (decide (0 < (ptQ l i).2)) x.words x.words.length = JP l (ptQ l k) ∧ x.hyph = decide (0 < (ptQ l k).2) := by
  have hpx : ∀ s ∈ x.words, Prp s := fun s hs => (hx s hs).2
  obtain ⟨J, hJ⟩ : ∃ J, J = joinK (JP l (ptQ l i)) (decide (0 < (ptQ l i).2)) x.words x.words.length := ⟨_, rfl⟩
  rw [← hJ] at hext hh ⊢
  have hile := ptQ_le hb hi
  have hJi : (decide (0 < (ptQ l i).2)) = true → 0 < (JP l (ptQ l i)).length ∧ Prp (lastW (JP l (ptQ l i))) := fun h => by
    rw [decide_eq_true_eq] at h
    have hok : PtOK l (ptQ l i) := by
      rcases ptQ_ok hb hi with h7 | h7
      · exact h7
      · rw [h7] at h; simp at h
    exact ⟨by rw [JP_len hile, if_pos h]; omega, (JP_last h (Int.le_of_lt hok.2.2)).1⟩
  -- how long it is
  have hlenJ : (JP l (ptQ l i)).length + (if 0 < (ptQ l i).2 then 0 else 1) ≤ J.length := by
    rw [hJ]
    by_cases h : 0 < (ptQ l i).2
    · rw [if_pos h]; exact joinK_len_mono _ _ _ _
    · rw [if_neg h, decide_eq_false h, joinF, List.length_append]
      have := List.length_pos_iff.2 hne
      omega
  rw [JP_len hile] at hlenJ
  have hJ1 : (ptQ l i).1 + 1 ≤ J.length := by split at hlenJ <;> omega
  -- the point where it ends
  have hpt : ∃ q, q ∈ pointsL l ∧ J = JP l q ∧ x.hyph = decide (0 < q.2) ∧ (ltP (ptQ l i) q) := by
    cases hhy : x.hyph with
    | false =>
      rw [hhy] at hext
      obtain ⟨t, ht⟩ := hext
      have hle : J.length ≤ l.length := by
        have := congrArg List.length ht
        rw [List.length_map, List.length_append] at this; omega
      refine ⟨(J.length, 0), points_mem.2 ?_, ?_, rfl, .inl (by show _ < J.length; omega)⟩
      · rcases Nat.lt_or_ge J.length l.length with h | h
        · exact .inl ⟨h, .inl rfl⟩
        · exact .inr (by simp only [Prod.mk.injEq, and_true]; omega)
      · unfold JP
        rw [if_neg (Int.lt_irrefl _), List.append_nil, List.map_take, ht, List.take_left]
    | true =>
      rw [hhy] at hext
      obtain ⟨h1, m, hm, hL, t, ht⟩ := hext
      have hle : J.length - 1 < l.length := by
        have := (List.getElem?_eq_some_iff.1 hL).1
        rwa [List.length_map] at this
      have hword : encs (wAt l (J.length - 1)) = lastW J ++ m := by
        rw [List.getElem?_map, List.getElem?_eq_getElem hle] at hL
        have := Option.some.inj hL
        rw [← this]
        exact (prp_word hb hle).symm
      have hmem := hh hhy
      have hat := (boxB_pts ((boxesB_iff.1 hb).2 _ (List.getElem_mem hle))).1
      have hpe : ptsAt l (J.length - 1) = (l[J.length - 1]).pts := by unfold ptsAt; rw [getD_lt hle]
      have hpos : 1 ≤ (wlen (lastW J) : Int) := by rw [hpe] at hmem; exact (hat _ hmem).1
      have hprpJ : Prp (lastW J) := by
        rw [hJ]
        by_cases h : 0 < (ptQ l i).2
        · obtain ⟨k1, k2⟩ := hJi (decide_eq_true h)
          rw [decide_eq_true h]
          obtain ⟨u, us, hu⟩ := List.exists_cons_of_ne_nil hne
          rw [hu] at hpx ⊢
          rw [joinT k1]
          cases us with
          | nil => rw [List.append_nil, lastW_set k1]; exact (prp_app k2 (hpx u (List.mem_cons_self ..))).2
          | cons v vs =>
            obtain ⟨I, y, hy⟩ : ∃ I y, v :: vs = I ++ [y] := ⟨(v :: vs).dropLast, (v :: vs).getLast (by simp), (List.dropLast_concat_getLast _).symm⟩
            rw [hy, ← List.append_assoc, lastW_app]
            exact hpx y (by rw [hy]; simp)
        · rw [decide_eq_false h, joinF]
          obtain ⟨I, y, hy⟩ : ∃ I y, x.words = I ++ [y] := ⟨x.words.dropLast, x.words.getLast hne, (List.dropLast_concat_getLast _).symm⟩
          rw [hy, ← List.append_assoc, lastW_app]
          exact hpx y (by rw [hy]; simp)
      have hlast : lastW J = encs ((wAt l (J.length - 1)).take (wlen (lastW J))) := by
        have h5 := (prp_app hprpJ hm).1
        rw [← hword, runes_wAt] at h5
        have h6 : (wAt l (J.length - 1)).take (wlen (lastW J)) = runes (lastW J) := by rw [h5]; unfold wlen; exact List.take_left
        rw [h6]; exact hprpJ.symm
      have hJe : J = JP l (J.length - 1, (wlen (lastW J) : Int)) := by
        unfold JP
        rw [if_pos (by show (0 : Int) < _; omega), Int.toNat_natCast]
        show J = (l.take (J.length - 1)).map _ ++ [encs ((wAt l (J.length - 1)).take (wlen (lastW J)))]
        rw [← hlast, List.map_take, ht]
        have h8 : J.dropLast.length = J.length - 1 := List.length_dropLast ..
        have h9 : (J.dropLast ++ t).take (J.length - 1) = J.dropLast := by rw [← h8, List.take_left]
        rw [h9]
        have := dropLast_set (J := J) (x := lastW J) h1
        rw [← this]
        have h11 : lastW J = J[J.length - 1]'(by omega) := getD_lt (by omega)
        rw [h11, List.set_getElem_self]
      refine ⟨(J.length - 1, (wlen (lastW J) : Int)), points_mem.2 (.inl ⟨hle, .inr hmem⟩), hJe, (decide_eq_true (by show (0 : Int) < _; omega)).symm, ?_⟩
      rcases Nat.lt_or_ge (ptQ l i).1 (J.length - 1) with h9 | h9
      · exact .inl h9
      · have h10 : (ptQ l i).1 = J.length - 1 := by omega
        refine .inr ⟨h10, ?_⟩
        show (ptQ l i).2 < (wlen (lastW J) : Int)
        by_cases h : 0 < (ptQ l i).2
        · -- the same word goes on
          obtain ⟨k1, k2⟩ := hJi (decide_eq_true h)
          have hok : PtOK l (ptQ l i) := by
            rcases ptQ_ok hb hi with h7 | h7
            · exact h7
            · rw [h7] at h; simp at h
          obtain ⟨u, us, hu⟩ := List.exists_cons_of_ne_nil hne
          have hJl : J.length = (JP l (ptQ l i)).length + us.length := by
            rw [hJ, decide_eq_true h, hu, joinT k1, List.length_append, List.length_set]
          rw [JP_len hile, if_pos h] at hJl
          have hus : us = [] := List.length_eq_zero_iff.1 (by omega)
          subst hus
          have hlu : lastW J = lastW (JP l (ptQ l i)) ++ u := by
            rw [hJ, decide_eq_true h, hu, joinT k1, List.append_nil, lastW_set k1]
          have hxu := hx u (by rw [hu]; exact List.mem_cons_self ..)
          have h12 := (JP_last h (Int.le_of_lt hok.2.2)).2.2
          rw [hlu, wlen_app k2 hxu.2, h12]
          have hu0 : wlen u ≠ 0 := by
            intro e
            have e2 : runes u = [] := List.length_eq_zero_iff.1 e
            have e3 := hxu.2
            unfold Prp at e3
            rw [e2] at e3
            exact hxu.1 e3.symm
          omega
        · omega
  obtain ⟨q, q1, q2, q3, q4⟩ := hpt
  obtain ⟨k, hk, hkq⟩ := index_of q1
  subst hkq
  have hik : i < k := by
    rcases Nat.lt_trichotomy i k with h | h | h
    · exact h
    · subst h
      rcases q4 with h2 | ⟨_, h2⟩
      · exact absurd h2 (Nat.lt_irrefl _)
      · exact absurd h2 (Int.lt_irrefl _)
    · have h2 := ptQ_ltP hb h hi
      unfold ltP at q4 h2
      omega
  have hjp := join_pc hb (ptQ_small hb (show i < ptN l - 1 by omega)) (ptQ_le hb hk) (ptQ_ltP hb hik hk)
  have hg := line_gd hb hik hk
  rw [(line_words hb hik hk).1] at hg
  have hws : x.words = pcW l (ptQ l i) (ptQ l k) := join_inj hJi hne hg.1 hpx (fun s hs => (hg.2 s hs).prp) (by rw [← hJ, hjp, q2])
  have hxl : x = lineP l i k := by
    have e1 := line_words hb hik hk
    have e2 := (colP_eq hk).2
    obtain ⟨xw, xh⟩ := x
    have e3 : lineP l i k = ⟨(lineP l i k).words, (lineP l i k).hyph⟩ := rfl
    rw [e3, e1.1, e1.2, e2, ← q3, ← hws]
  refine ⟨k, hik, hk, ?_, hxl, q2, q3⟩
  rw [← line_len hb hik hk, ← hxl]; exact hfit
theorem div_way {l : List Bx} {ln : List Ln} {w : Int} (hb : boxesB l = true) (h : divB l ln w = true) : ∃ ks, Fit l w 0 ks (ptN l - 1) ∧ ln = linesOf l 0 ks := by
  obtain ⟨hj, hd⟩ := divB_iff.1 h
  have hpos := ptN_pos l
  have hwd : ∀ i, i < ln.length → (lnAt ln i).words.length ≠ 0 ∧ ∀ x ∈ (lnAt ln i).words, Prp x := fun i hi => by
    have := dline_iff.1 (hd i hi)
    exact ⟨this.2.1, fun x hx => (this.2.2.2.1 x hx).2⟩
  have hbs := beside_all hwd
  -- what is joined leads to the boxes' words
  have hext : ∀ d, d ≤ ln.length → Ext (prevH ln (ln.length - d)) (joinI ln (ln.length - d)) (l.map (·.word)) := fun d => by
    induction d with
    | zero =>
      intro _
      rw [Nat.sub_zero]
      have hlast : prevH ln ln.length = false := by
        unfold prevH
        cases hn : ln.length with
        | zero => rfl
        | succ n =>
          rw [decide_eq_true (Nat.succ_pos _), Bool.true_and, Nat.add_sub_cancel]
          have := (dline_iff.1 (hd n (by omega))).2.2.1
          cases hq : (lnAt ln n).hyph
          · rfl
          · exact absurd hn.symm (this hq)
      rw [hlast]
      exact ⟨[], by rw [List.append_nil]; exact hj.symm⟩
    | succ d ih =>
      intro hd1
      have ih := ih (by omega)
      obtain ⟨i, hi⟩ : ∃ i, i = ln.length - (d + 1) := ⟨_, rfl⟩
      rw [show ln.length - d = i + 1 by omega] at ih
      rw [← hi]
      obtain ⟨w1, w2⟩ := hwd i (by omega)
      rw [joinI] at ih
      refine ext_back (fun e => w1 (by rw [e]; rfl)) w2 (fun hp => ?_) ih
      cases i with
      | zero => cases hp
      | succ i =>
        have := hbs i (by omega)
        exact ⟨by have := this.1; omega, this.2.2⟩
  -- the way, line by line
  have key : ∀ i, i ≤ ln.length → ∃ ks z, z < ptN l ∧ Fit l w 0 ks z ∧ ln.take i = linesOf l 0 ks ∧ joinI ln i = JP l (ptQ l z) ∧ prevH ln i = decide (0 < (ptQ l z).2) := fun i => by
    induction i with
    | zero =>
      intro _
      refine ⟨[], 0, hpos, rfl, by rw [List.take_zero]; rfl, (JP_zero l).symm, ?_⟩
      show false = decide (0 < (ptQ l 0).2)
      have e : (ptQ l 0).2 = 0 := by
        rw [ptQ_lt hpos]
        cases l with
        | nil => rfl
        | cons b l => rfl
      rw [e]; rfl
    | succ i ih =>
      intro hi
      obtain ⟨ks, z, z1, z2, z3, z4, z5⟩ := ih (by omega)
      obtain ⟨d1, d2, d3, d4, d5⟩ := dline_iff.1 (hd i hi)
      have he := hext (ln.length - (i + 1)) (by omega)
      rw [show ln.length - (ln.length - (i + 1)) = i + 1 by omega] at he
      have hph : prevH ln (i + 1) = (lnAt ln i).hyph := by
        unfold prevH
        rw [decide_eq_true (Nat.succ_pos _), Nat.add_sub_cancel]; rfl
      have hb1 := hbs i hi
      rw [hph] at he
      rw [joinI, z4, z5] at he hb1
      obtain ⟨k, k1, k2, k3, k4, k5, k6⟩ := line_of (w := w) hb z1 (fun e => d2 (by rw [e]; rfl)) d4 d1 he (fun hh => by
        have h9 := d5 hh
        rw [hb1.2.1, show (joinK (JP l (ptQ l z)) (decide (0 < (ptQ l z).2)) (lnAt ln i).words (lnAt ln i).words.length).length - 1 = (dvS ln (i + 1)).1 by have := hb1.1; omega]
        exact h9)
      refine ⟨ks ++ [k], k, k2, fit_snoc k1 k2 k3 z2, ?_, by rw [joinI, z4, z5]; exact k5, by rw [hph]; exact k6⟩
      rw [List.take_add_one, List.getElem?_eq_getElem hi, z3, linesOf_snoc, endK_all z2]
      congr 1
      rw [← lnAt_lt hi, k4]; rfl
  obtain ⟨ks, z, z1, z2, z3, z4, z5⟩ := key ln.length (Nat.le_refl _)
  rw [List.take_length] at z3
  have hz : z = ptN l - 1 := by
    -- all words are joined
    have h1 : JP l (ptQ l z) = l.map (·.word) := by rw [← z4]; exact hj
    rcases Nat.lt_or_ge z (ptN l - 1) with h2 | h2
    · exfalso
      have h3 := ptQ_small hb h2
      have h4 := congrArg List.length h1
      rw [JP_len (Nat.le_of_lt h3.1), List.length_map] at h4
      have h5 := h3.1
      by_cases h6 : 0 < (ptQ l z).2
      · have h7 : prevH ln ln.length = false := by
          unfold prevH
          cases hn : ln.length with
          | zero => rfl
          | succ n =>
            rw [decide_eq_true (Nat.succ_pos _), Bool.true_and, Nat.add_sub_cancel]
            have := (dline_iff.1 (hd n (by omega))).2.2.1
            cases hq : (lnAt ln n).hyph
            · rfl
            · exact absurd hn.symm (this hq)
        rw [h7, decide_eq_true h6] at z5
        cases z5
      · rw [if_neg h6] at h4; omega
    · omega
  subst hz
  exact ⟨ks, z2, z3⟩
end Go.GH
namespace Go.GH
open Go Go.Lib
theorem cost_way {l : List Bx} {w pen : Int} (hv : validL l w = true) (hp : penB pen = true) {ks : List Nat} (hf : Fit l w 0 ks (ptN l - 1)) (hlen : ks.length ≤ 1000) : costL (linesOf l 0 ks) w pen = (costP l w pen 0 ks, 0) := by
  obtain ⟨⟨hw1, hw2⟩, hb⟩ := valid_of hv
  have hll := linesOf_len l 0 ks
  have hd := (divB_iff.1 (way_div hb hf)).2
  have hbad : costBad (linesOf l 0 ks) w pen = false := by
    refine costBad_of (wideB_iff.2 ⟨hw1, hw2⟩) hp (by omega) (bads_none (fun j hj => ?_))
    obtain ⟨d1, d2, d3, d4, d5⟩ := dline_iff.1 (hd j hj)
    refine badLn_of d2 ?_ (List.any_eq_false.2 (fun s hs => ?_))
    · cases hh : (lnAt (linesOf l 0 ks) j).hyph
      · exact .inl rfl
      · exact .inr (d3 hh)
    · rw [lnAt_way (by omega)] at hs
      obtain ⟨f1, f2, _⟩ := hf.at j (by omega)
      rw [((line_gd hb f1 f2).2 s hs).word hb |>.1]
      simp
  have htight : tightL (linesOf l 0 ks) w = false := by
    refine tight_none (fun x hx => ?_)
    obtain ⟨j, hj, rfl⟩ := List.mem_iff_getElem.1 hx
    have := (dline_iff.1 (hd j hj)).1
    rw [lnAt_lt hj] at this
    unfold freeL; omega
  rw [cost_ok hbad htight, way_sum hb hf]
theorem many_pts {l : List Bx} (h : manyB l = false) : ptN l ≤ 841 := by
  obtain ⟨h1, h2⟩ := many_ok h
  rw [ptN_cnt]
  have key : ∀ l : List Bx, (∀ x ∈ l, x.pts.length ≤ 20) → (l.map (fun b => 1 + b.pts.length)).sum ≤ 21 * l.length := fun l => by
    induction l with
    | nil => intro _; exact Nat.le_refl _
    | cons b l ih =>
      intro hx
      have := ih (fun x hx' => hx x (List.mem_cons_of_mem _ hx'))
      have := hx b (List.mem_cons_self ..)
      rw [List.map_cons, List.sum_cons, List.length_cons]; omega
  have := key l (fun x hx => (h2 x hx).2)
  unfold cntB
  omega
theorem Fit.small {l : List Bx} {w : Int} (h : manyB l = false) {ks : List Nat} (hf : Fit l w 0 ks (ptN l - 1)) : ks.length ≤ 840 := by
  have := hf.len
  have := many_pts h
  omega
theorem optimal_facts {l : List Bx} {w pen : Int} {ln : List Ln} (hm : manyB l = false) (hv : validL l w = true) (hd : divB l ln w = true) (hl : ln.length ≤ 30) :
    ((costL ln w pen).2 ≠ 0 → (costL ln w pen).2 = 1 ∧ (linesR l w pen).2.2 = 1) ∧
    ((costL ln w pen).2 = 0 → (linesR l w pen).2.2 = 0 ∧ (greedyR l w).2 = 0 ∧ (linesR l w pen).2.1 ≤ (costL ln w pen).1 ∧ (greedyR l w).1.length ≤ ln.length ∧ (greedyR l w).1.length ≤ (linesR l w pen).1.length) := by
  have hb := (valid_of hv).2
  obtain ⟨ks, h1, h2⟩ := div_way hb hd
  by_cases hp : penB pen = true
  · have hkl : ks.length ≤ 30 := by rw [h2, linesOf_len] at hl; exact hl
    have hfit := (fit_iff hb).1 ⟨ks, h1⟩
    rcases linesR_ok hv hp with ⟨a1, a2, qs, a3, a4, a5, a6⟩ | ⟨a1, a2, _⟩
    · rcases greedyR_ok hv with ⟨b1, b2, gs, b3, b4, b5⟩ | ⟨b1, b2, _⟩
      · rw [h2, cost_way hv hp h1 (by omega)]
        refine ⟨fun h => absurd rfl h, fun _ => ⟨a1, b1, a6 ks h1, ?_, ?_⟩⟩
        · rw [b4, linesOf_len, linesOf_len]; exact b5 ks h1
        · rw [b4, a4, linesOf_len, linesOf_len]; exact b5 qs a3
      · exact absurd hfit b2
    · exact absurd hfit a2
  · rw [Bool.not_eq_true] at hp
    have hc : costL ln w pen = (0, 1) := cost_bad (by unfold costBad; rw [hp]; simp)
    rw [hc, linesR_bad (.inr hp)]
    exact ⟨fun _ => ⟨rfl, rfl⟩, fun h => by cases h⟩
end Go.GH
namespace Go.GH
open Go Go.Proofs
variable {E : Env}
theorem l44Optimal (hV : VS E) (l : List Bx) (w p : Int) (ln : List Ln)  : GCall Tryd.prog E 11 [DBxs l, .v (.int .i64 w), .v (.int .i64 p), DLns ln] [] (fun d H => d = .v (.bool true) ∧ H = []) := by
  refine GCall.body (C := ⟨Tryd.prog, E, true⟩) Tryd.func11 rfl (fun _ => rfl) (by kernel_rfl) rfl ?_
  refine SCode.seqR ?_
  refine SOps.assign rfl ?_
  refine SOps.nil ?_
  refine SCode.seq ?_
  refine SCode.seqR ?_
  refine SOps.callP (sAwake hV) rfl ?_
  rintro _ rfl
  refine SOps.un rfl rfl ?_
  refine SOps.nil ?_
  refine SCode.cond rfl (fun h => by cases h) (fun _ => ?_)
  refine SCode.skip ?_
  show SCode _ _ _ _
  refine SCode.seq ?_
  refine SCode.seqR ?_
  refine SOps.move rfl ?_
  refine SOps.callP (lMany _) rfl ?_
  rintro _ rfl
  refine SOps.move rfl ?_
  refine SOps.caseB 20 rfl (fun hb1 => ?_) (fun hb1 => ?_)
  · try simp only [decide_eq_true_eq, decide_eq_false_iff_not, Bool.not_eq_true', Bool.not_eq_false', beq_iff_eq, bne_iff_ne, ne_eq, beq_eq_false_iff_ne, bne_eq_false_iff_eq, Int.not_lt, Int.not_le, Nat.not_lt, Nat.not_le, Int.ofNat_lt, Int.ofNat_le, Bool.not_eq_eq_eq_not, Bool.not_true, Bool.not_false] at hb1
    refine SOps.skip rfl ?_
    refine SOps.skip rfl ?_
    refine SOps.pick rfl rfl ?_
    refine SOps.move rfl ?_
    refine SOps.skip rfl ?_
    refine SOps.skip rfl ?_
    refine SOps.skip rfl ?_
    refine SOps.skip rfl ?_
    refine SOps.pick rfl rfl ?_
    refine SOps.move rfl ?_
    refine SOps.skip rfl ?_
    refine SOps.skip rfl ?_
    refine SOps.skip rfl ?_
    refine SOps.skip rfl ?_
    refine SOps.skip rfl ?_
    refine SOps.pick rfl rfl ?_
    refine SOps.nil ?_
    refine SCode.cond rfl (fun _ => ?_) (fun h => by cases h)
    refine SCode.seqR ?_
    refine SOps.assign rfl ?_
    refine SOps.nil ?_
    refine SCode.ret ?_
    exact ⟨_, Res.one (.tmp rfl), rfl, rfl⟩
  · try simp only [decide_eq_true_eq, decide_eq_false_iff_not, Bool.not_eq_true', Bool.not_eq_false', beq_iff_eq, bne_iff_ne, ne_eq, beq_eq_false_iff_ne, bne_eq_false_iff_eq, Int.not_lt, Int.not_le, Nat.not_lt, Nat.not_le, Int.ofNat_lt, Int.ofNat_le, Bool.not_eq_eq_eq_not, Bool.not_true, Bool.not_false] at hb1
    refine SOps.move rfl ?_
    refine SOps.callP (lWide _) rfl ?_
    rintro _ rfl
    refine SOps.pick rfl rfl ?_
    refine SOps.move rfl ?_
    refine SOps.caseB 24 rfl (fun hb2 => ?_) (fun hb2 => ?_)
    · try simp only [decide_eq_true_eq, decide_eq_false_iff_not, Bool.not_eq_true', Bool.not_eq_false', beq_iff_eq, bne_iff_ne, ne_eq, beq_eq_false_iff_ne, bne_eq_false_iff_eq, Int.not_lt, Int.not_le, Nat.not_lt, Nat.not_le, Int.ofNat_lt, Int.ofNat_le, Bool.not_eq_eq_eq_not, Bool.not_true, Bool.not_false] at hb2
      refine SOps.skip rfl ?_
      refine SOps.skip rfl ?_
      refine SOps.skip rfl ?_
      refine SOps.skip rfl ?_
      refine SOps.pick rfl rfl ?_
      refine SOps.move rfl ?_
      refine SOps.skip rfl ?_
      refine SOps.skip rfl ?_
      refine SOps.skip rfl ?_
      refine SOps.skip rfl ?_
      refine SOps.skip rfl ?_
      refine SOps.pick rfl rfl ?_
      refine SOps.nil ?_
      refine SCode.cond rfl (fun _ => ?_) (fun h => by cases h)
      refine SCode.seqR ?_
      refine SOps.assign rfl ?_
      refine SOps.nil ?_
      refine SCode.ret ?_
      exact ⟨_, Res.one (.tmp rfl), rfl, rfl⟩
    · try simp only [decide_eq_true_eq, decide_eq_false_iff_not, Bool.not_eq_true', Bool.not_eq_false', beq_iff_eq, bne_iff_ne, ne_eq, beq_eq_false_iff_ne, bne_eq_false_iff_eq, Int.not_lt, Int.not_le, Nat.not_lt, Nat.not_le, Int.ofNat_lt, Int.ofNat_le, Bool.not_eq_eq_eq_not, Bool.not_true, Bool.not_false] at hb2
      refine SOps.move rfl ?_
      refine SOps.move rfl ?_
      refine SOps.callP (sValid hV l w (many_sz (by assumption))) rfl ?_
      rintro _ rfl
      refine SOps.un rfl rfl ?_
      refine SOps.pick rfl rfl ?_
      refine SOps.move rfl ?_
      refine SOps.caseB 30 rfl (fun hb3 => ?_) (fun hb3 => ?_)
      · try simp only [decide_eq_true_eq, decide_eq_false_iff_not, Bool.not_eq_true', Bool.not_eq_false', beq_iff_eq, bne_iff_ne, ne_eq, beq_eq_false_iff_ne, bne_eq_false_iff_eq, Int.not_lt, Int.not_le, Nat.not_lt, Nat.not_le, Int.ofNat_lt, Int.ofNat_le, Bool.not_eq_eq_eq_not, Bool.not_true, Bool.not_false] at hb3
        refine SOps.skip rfl ?_
        refine SOps.skip rfl ?_
        refine SOps.skip rfl ?_
        refine SOps.skip rfl ?_
        refine SOps.skip rfl ?_
        refine SOps.pick rfl rfl ?_
        refine SOps.nil ?_
        refine SCode.cond rfl (fun _ => ?_) (fun h => by cases h)
        refine SCode.seqR ?_
        refine SOps.assign rfl ?_
        refine SOps.nil ?_
        refine SCode.ret ?_
        exact ⟨_, Res.one (.tmp rfl), rfl, rfl⟩
      · try simp only [decide_eq_true_eq, decide_eq_false_iff_not, Bool.not_eq_true', Bool.not_eq_false', beq_iff_eq, bne_iff_ne, ne_eq, beq_eq_false_iff_ne, bne_eq_false_iff_eq, Int.not_lt, Int.not_le, Nat.not_lt, Nat.not_le, Int.ofNat_lt, Int.ofNat_le, Bool.not_eq_eq_eq_not, Bool.not_true, Bool.not_false] at hb3
        refine SOps.move rfl ?_
        refine SOps.move rfl ?_
        refine SOps.move rfl ?_
        refine SOps.callP (lDivision l ln w (wide_ln (by assumption)) (by have := (wide_ok (by assumption : wideLs ln = false)).1; omega)) rfl ?_
        rintro _ rfl
        refine SOps.un rfl rfl ?_
        refine SOps.pick rfl rfl ?_
        refine SOps.nil ?_
        refine SCode.cond rfl (fun hc4 => ?_) (fun hc4 => ?_)
        · try simp only [decide_eq_true_eq, decide_eq_false_iff_not, Bool.not_eq_true', Bool.not_eq_false', beq_iff_eq, bne_iff_ne, ne_eq, beq_eq_false_iff_ne, bne_eq_false_iff_eq, Int.not_lt, Int.not_le, Nat.not_lt, Nat.not_le, Int.ofNat_lt, Int.ofNat_le, Bool.not_eq_eq_eq_not, Bool.not_true, Bool.not_false] at hc4
          refine SCode.seqR ?_
          refine SOps.assign rfl ?_
          refine SOps.nil ?_
          refine SCode.ret ?_
          exact ⟨_, Res.one (.tmp rfl), rfl, rfl⟩
        · try simp only [decide_eq_true_eq, decide_eq_false_iff_not, Bool.not_eq_true', Bool.not_eq_false', beq_iff_eq, bne_iff_ne, ne_eq, beq_eq_false_iff_ne, bne_eq_false_iff_eq, Int.not_lt, Int.not_le, Nat.not_lt, Nat.not_le, Int.ofNat_lt, Int.ofNat_le, Bool.not_eq_eq_eq_not, Bool.not_true, Bool.not_false] at hc4
          refine SCode.skip ?_
          show SCode _ _ _ _
          refine SCode.seqR ?_
          have hmy : manyB l = false := by assumption
          have hwd : wideLs ln = false := by assumption
          have hbx := many_sz hmy
          have hlk := wide_ln hwd
          obtain ⟨ho1, ho2⟩ := optimal_facts (pen := p) hmy (by assumption : validL l w = true) (by assumption : divB l ln w = true) (wide_ok hwd).1
          refine SOps.move rfl ?_
          refine SOps.move rfl ?_
          refine SOps.move rfl ?_
          refine SOps.callP (sLines hV l w p hbx) rfl ?_
          rintro _ rfl
          refine SOps.move rfl ?_
          refine SOps.extract rfl rfl ?_
          refine SOps.extract rfl rfl ?_
          refine SOps.extract rfl rfl ?_
          refine SOps.assign rfl ?_
          refine SOps.assign rfl ?_
          refine SOps.assign rfl ?_
          refine SOps.nil ?_
          refine SCode.seqR ?_
          refine SOps.move rfl ?_
          refine SOps.move rfl ?_
          refine SOps.callP (sGreedy hV l w hbx) rfl ?_
          rintro _ rfl
          refine SOps.move rfl ?_
          refine SOps.extract rfl rfl ?_
          refine SOps.extract rfl rfl ?_
          refine SOps.assign rfl ?_
          refine SOps.assign rfl ?_
          refine SOps.nil ?_
          refine SCode.seqR ?_
          refine SOps.move rfl ?_
          refine SOps.move rfl ?_
          refine SOps.move rfl ?_
          refine SOps.callP (sCost hV ln w p hlk) rfl ?_
          rintro _ rfl
          refine SOps.move rfl ?_
          refine SOps.extract rfl rfl ?_
          refine SOps.extract rfl rfl ?_
          refine SOps.assign rfl ?_
          refine SOps.assign rfl ?_
          refine SOps.nil ?_
          refine SCode.seq ?_
          refine SCode.seqR ?_
          refine SOps.move rfl ?_
          refine SOps.bin rfl rfl rfl ?_
          refine SOps.nil ?_
          refine SCode.cond rfl (fun hc5 => ?_) (fun hc5 => ?_)
          · try simp only [decide_eq_true_eq, decide_eq_false_iff_not, Bool.not_eq_true', Bool.not_eq_false', beq_iff_eq, bne_iff_ne, ne_eq, beq_eq_false_iff_ne, bne_eq_false_iff_eq, Int.not_lt, Int.not_le, Nat.not_lt, Nat.not_le, Int.ofNat_lt, Int.ofNat_le, Bool.not_eq_eq_eq_not, Bool.not_true, Bool.not_false] at hc5
            refine SCode.seqR ?_
            obtain ⟨o1, o2⟩ := ho1 (by assumption)
            refine SOps.move rfl ?_
            refine SOps.bin rfl rfl rfl ?_
            refine SOps.reSlot (t := 61) rfl (show _ = DV.v (.bool true) from congrArg (fun b => DV.v (.bool b)) (beq_iff_eq.2 o1)) ?_
            refine SOps.move rfl ?_
            refine SOps.move rfl ?_
            refine SOps.bin rfl rfl rfl ?_
            refine SOps.reSlot (t := 64) rfl (show _ = DV.v (.bool true) from congrArg (fun b => DV.v (.bool b)) (beq_iff_eq.2 o2)) ?_
            refine SOps.pick rfl rfl ?_
            refine SOps.assign rfl ?_
            refine SOps.nil ?_
            refine SCode.ret ?_
            exact ⟨_, Res.one (.tmp rfl), rfl, rfl⟩
          · try simp only [decide_eq_true_eq, decide_eq_false_iff_not, Bool.not_eq_true', Bool.not_eq_false', beq_iff_eq, bne_iff_ne, ne_eq, beq_eq_false_iff_ne, bne_eq_false_iff_eq, Int.not_lt, Int.not_le, Nat.not_lt, Nat.not_le, Int.ofNat_lt, Int.ofNat_le, Bool.not_eq_eq_eq_not, Bool.not_true, Bool.not_false] at hc5
            refine SCode.skip ?_
            show SCode _ _ _ _
            refine SCode.seqR ?_
            obtain ⟨o1, o2, o3, o4, o5⟩ := ho2 (by assumption)
            refine SOps.move rfl ?_
            refine SOps.bin rfl rfl rfl ?_
            refine SOps.reSlot (t := 67) rfl (show _ = DV.v (.bool true) from congrArg (fun b => DV.v (.bool b)) (beq_iff_eq.2 o1)) ?_
            refine SOps.move rfl ?_
            refine SOps.move rfl ?_
            refine SOps.bin rfl rfl rfl ?_
            refine SOps.reSlot (t := 70) rfl (show _ = DV.v (.bool true) from congrArg (fun b => DV.v (.bool b)) (beq_iff_eq.2 o2)) ?_
            refine SOps.pick rfl rfl ?_
            refine SOps.move rfl ?_
            refine SOps.move rfl ?_
            refine SOps.move rfl ?_
            refine SOps.bin rfl rfl rfl ?_
            refine SOps.reSlot (t := 75) rfl (show _ = DV.v (.bool true) from congrArg (fun b => DV.v (.bool b)) (decide_eq_true o3)) ?_
            refine SOps.pick rfl rfl ?_
            refine SOps.move rfl ?_
            refine SOps.move rfl ?_
            refine SOps.lenM rfl sliceB_25_48_2 ?_
            refine SOps.move rfl ?_
            refine SOps.lenM rfl sliceB_25_48_2 ?_
            refine SOps.bin rfl rfl rfl ?_
            refine SOps.reSlot (t := 82) rfl (show _ = DV.v (.bool true) from congrArg (fun b => DV.v (.bool b)) (decide_eq_true (by omega))) ?_
            refine SOps.pick rfl rfl ?_
            refine SOps.move rfl ?_
            refine SOps.move rfl ?_
            refine SOps.lenM rfl sliceB_25_48_2 ?_
            refine SOps.move rfl ?_
            refine SOps.lenM rfl sliceB_25_48_2 ?_
            refine SOps.bin rfl rfl rfl ?_
            refine SOps.reSlot (t := 89) rfl (show _ = DV.v (.bool true) from congrArg (fun b => DV.v (.bool b)) (decide_eq_true (by omega))) ?_
            refine SOps.pick rfl rfl ?_
            refine SOps.assign rfl ?_
            refine SOps.nil ?_
            refine SCode.ret ?_
            exact ⟨_, Res.one (.tmp rfl), rfl, rfl⟩
end Go.GH
