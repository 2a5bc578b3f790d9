/-
  The walks of Heavy and its law. No conditions.
-/
import Derived.Test.YtnelkblhplellaaDoorSh
import Derived.Test.YtnelkblhplellaaDoorSr
set_option linter.unusedVariables false
set_option linter.unusedSimpArgs false
namespace Go.GH
open Go Go.Proofs
variable {E : Env}
theorem elemB_4_1_1 : elemB Tryd.prog 4 1 1 = true := by kernel_rfl
theorem flatB_4 : flatB Tryd.prog 4 = true := by kernel_rfl
theorem sliceB_43_4_1 : sliceB Tryd.prog 43 4 1 = true := by kernel_rfl
theorem zeroIs_4 : zeroIs Tryd.prog 4 (.bool false) := by unfold zeroIs; kernel_rfl
def DL (E : Env) : Prop := ∀ s : ByteArray, GCall Tryd.prog E 46 [.v (.string s)] [] (fun d H => d = .tup [.v (.int .i32 (Lib.decodeLastL s.data.toList).1), .v (.int .i64 (Lib.decodeLastL s.data.toList).2)] ∧ H = [])
theorem sHeavy (hV : VS E) (hD : DL E) (a : List Letter) (ons : List (List Int)) (ml mr : Int) (s : ByteArray) (hs : s.size ≤ 65536) : GCall Tryd.prog E 28 [DLs a, DP ons ml mr, .v (.string s)] [] (fun d H => d = .tup [DBools (if checkE a ons ml mr s = 0 then hvF a (splitA a ons s) else []), .v (.int .i64 (checkE a ons ml mr s))] ∧ H = []) := by
  have hrl := runes_len s
  have hsl := splitA_len a ons s
  refine GCall.body (C := ⟨Tryd.prog, E, true⟩) Tryd.func28 rfl (fun _ => rfl) (by kernel_rfl) rfl ?_
  refine SCode.seqR ?_
  refine SOps.boxAM rfl rfl ?_
  refine SOps.assign rfl ?_
  refine SOps.assign rfl ?_
  refine SOps.nil ?_
  refine SCode.seqR ?_
  refine SOps.move rfl ?_
  refine SOps.loadPinA rfl aggB_24_3 (Nat.le_of_ble_eq_true rfl) ?_
  refine SOps.move rfl ?_
  refine SOps.callP (sSplit hV _ _ _ _ _ (by omega)) rfl ?_
  rintro _ rfl
  refine SOps.move rfl ?_
  refine SOps.extract rfl rfl ?_
  refine SOps.extract rfl rfl ?_
  refine SOps.assign rfl ?_
  refine SOps.assign rfl ?_
  refine SOps.nil ?_
  refine SCode.seq ?_
  refine SCode.seqR ?_
  refine SOps.move rfl ?_
  refine SOps.bin rfl rfl rfl ?_
  refine SOps.nil ?_
  refine SCode.cond rfl (fun hc1 => ?_) (fun hc1 => ?_)
  · try simp only [decide_eq_true_eq, decide_eq_false_iff_not, Bool.not_eq_true', Bool.not_eq_false', beq_iff_eq, bne_iff_ne, ne_eq, beq_eq_false_iff_ne, bne_eq_false_iff_eq, Int.not_lt, Int.not_le, Nat.not_lt, Nat.not_le, Int.ofNat_lt, Int.ofNat_le, Bool.not_eq_eq_eq_not, Bool.not_true, Bool.not_false] at hc1
    refine SCode.seqR ?_
    refine SOps.move rfl ?_
    refine SOps.assign rfl ?_
    refine SOps.nilIsl (t := 6) (sz := 1) rfl ?_
    refine SOps.assign rfl ?_
    refine SOps.nil ?_
    refine SCode.ret ?_
    exact ⟨_, Res.two (.tmp rfl) (.tmp rfl), by rw [if_neg hc1]; rfl, rfl⟩
  · try simp only [decide_eq_true_eq, decide_eq_false_iff_not, Bool.not_eq_true', Bool.not_eq_false', beq_iff_eq, bne_iff_ne, ne_eq, beq_eq_false_iff_ne, bne_eq_false_iff_eq, Int.not_lt, Int.not_le, Nat.not_lt, Nat.not_le, Int.ofNat_lt, Int.ofNat_le, Bool.not_eq_eq_eq_not, Bool.not_true, Bool.not_false] at hc1
    refine SCode.skip ?_
    show SCode _ _ _ _
    refine SCode.seqR ?_
    refine SOps.assign rfl ?_
    refine SOps.nil ?_
    refine SCode.seq ?_
    refine SCode.seqR ?_
    refine SOps.move rfl ?_
    refine SOps.lenM rfl sliceB_35_9_1 ?_
    refine SOps.move rfl ?_
    refine SOps.nil ?_
    refine SCode.block ?_
    refine SCode.loop3 (fun (i : Nat) (acc : List Bool) (c : Nat) => (⟨45, [(0, DLs a), (10, accD 1 c (acc.map encB)), (25, DStrs (splitA a ons s)), (26, .v (.int .i64 (((splitA a ons s).length : Nat) : Int))), (27, .v (.int .i64 (i : Int)))], accH 4 1 c (acc.map encB) ++ []⟩ : St)) (fun (i : Nat) (acc : List Bool) (c : Nat) => i ≤ (splitA a ons s).length ∧ acc.length ≤ i ∧ acc ++ hvF a ((splitA a ons s).drop i) = hvF a (splitA a ons s)) (fun (i : Nat) (acc : List Bool) (c : Nat) => (splitA a ons s).length - i) (0) ([]) (0) (by exact ⟨Nat.zero_le _, Nat.le_refl _, rfl⟩) (St.Le.of ⟨(by first | rfl | (show some _ = some _; simp [hc1])), (by first | rfl | (show some _ = some _; simp [hc1])), (by first | rfl | (show some _ = some _; simp [hc1])), (by first | rfl | (show some _ = some _; simp [hc1])), (by first | rfl | (show some _ = some _; simp [hc1])), trivial⟩ rfl (by first | rfl | (simp))) ?_
    rintro i acc c ⟨hil, hl, hf⟩
    refine SCode.seqR ?_
    refine SOps.bin rfl rfl rfl ?_
    refine SOps.nil ?_
    refine SCode.seq ?_
    refine SCode.cond rfl (fun hc2 => ?_) (fun hc2 => ?_)
    · try simp only [decide_eq_true_eq, decide_eq_false_iff_not, Bool.not_eq_true', Bool.not_eq_false', beq_iff_eq, bne_iff_ne, ne_eq, beq_eq_false_iff_ne, bne_eq_false_iff_eq, Int.not_lt, Int.not_le, Nat.not_lt, Nat.not_le, Int.ofNat_lt, Int.ofNat_le, Bool.not_eq_eq_eq_not, Bool.not_true, Bool.not_false] at hc2
      refine SCode.skip ?_
      show SCode _ _ _ _
      refine SCode.seq ?_
      refine SCode.block ?_
      refine SCode.seqR ?_
      have hdr := List.drop_eq_getElem_cons (show i < (splitA a ons s).length by omega)
      refine SOps.indexM (i) rfl rfl sliceB_35_9_1 (by first | omega | (simp only [lenB]; omega)) (by first | omega | (simp only [lenB]; omega)) ?_
      refine SOps.loadPin rfl flatB_9 ?_
      refine SOps.assign rfl ?_
      refine SOps.nil ?_
      refine SCode.seqR ?_
      refine SOps.move rfl ?_
      refine SOps.callP (hD _) rfl ?_
      rintro _ rfl
      refine SOps.move rfl ?_
      refine SOps.extract rfl rfl ?_
      refine SOps.extract rfl rfl ?_
      refine SOps.assign rfl ?_
      refine SOps.assign rfl ?_
      refine SOps.nil ?_
      refine SCode.region ?_
      refine SOps.move rfl ?_
      refine SOps.move rfl ?_
      refine SOps.move rfl ?_
      refine SOps.callP (sVowel _ _) rfl ?_
      rintro _ rfl
      refine SOps.un rfl rfl ?_
      refine SOps.litF rfl sliceB_43_4_1 zeroIs_4 rfl ?_
      refine SOps.appendAcc [] [] sliceB_43_4_1 elemB_4_1_1 rfl rfl rfl SrcD.isl (by simp) (by simp [lenB] <;> (first | omega | (simp only [lenB]; omega))) (by simp <;> (first | omega | (simp only [lenB]; omega))) (fun b0 => ?_)
      refine SOps.assign rfl ?_
      refine SOps.nil ?_
      show SCode _ _ _ _
      refine SCode.region ?_
      refine SOps.addI rfl rfl (by first | omega | (simp only [lenB]; omega)) (by first | omega | (simp only [lenB]; omega)) ?_
      refine SOps.move rfl ?_
      refine SOps.nil ?_
      exact ⟨i + 1, acc ++ [!vowelA a ((Lib.decodeLastL ((splitA a ons s)[i]).data.toList).1 : Int)], b0, ⟨by omega, by simp; omega, by rw [← hf, hdr]; simp only [hvF, List.map_cons, List.append_assoc]; rfl⟩, by omega, St.Le.of ⟨rfl, (by show some _ = some _; rw [List.map_append]; rfl), rfl, rfl, rfl, trivial⟩ rfl (by rw [List.map_append]; rfl)⟩
    · try simp only [decide_eq_true_eq, decide_eq_false_iff_not, Bool.not_eq_true', Bool.not_eq_false', beq_iff_eq, bne_iff_ne, ne_eq, beq_eq_false_iff_ne, bne_eq_false_iff_eq, Int.not_lt, Int.not_le, Nat.not_lt, Nat.not_le, Int.ofNat_lt, Int.ofNat_le, Bool.not_eq_eq_eq_not, Bool.not_true, Bool.not_false] at hc2
      refine SCode.exit ?_
      show SCode _ _ _ _
      refine SCode.seqR ?_
      refine SOps.freezeAcc (t := 10) [] [] rfl rfl rfl ?_
      refine SOps.move rfl ?_
      refine SOps.assign rfl ?_
      refine SOps.assign rfl ?_
      refine SOps.nil ?_
      refine SCode.ret ?_
      exact ⟨_, Res.two (.tmp rfl) (.tmp rfl), by rw [if_pos hc1, hc1, ← hf, List.drop_eq_nil_of_le (by omega)]; simp [hvF], rfl⟩
theorem splitS_len (a : List Letter) (ons : List (List Int)) (s : ByteArray) : (splitS (runes s) (starts a ons s)).length ≤ (runes s).length + 1 := by
  rw [← splitA_eq]; exact splitA_len a ons s
theorem rHeavy (a : List Letter) (ons : List (List Int)) (ml mr : Int) (s : ByteArray) (hs : s.size ≤ 65536) : GCall Tryd.prog E 29 [DLs a, DP ons ml mr, .v (.string s)] [] (fun d H => d = .tup [DBools (if checkE a ons ml mr s = 0 then hvR a (splitS (runes s) (starts a ons s)) else []), .v (.int .i64 (checkE a ons ml mr s))] ∧ H = []) := by
  have hrl := runes_len s
  have hsl := splitS_len a ons s
  refine GCall.body (C := ⟨Tryd.prog, E, true⟩) Tryd.func29 rfl (fun _ => rfl) (by kernel_rfl) rfl ?_
  refine SCode.seqR ?_
  refine SOps.boxAM rfl rfl ?_
  refine SOps.assign rfl ?_
  refine SOps.assign rfl ?_
  refine SOps.nil ?_
  refine SCode.seqR ?_
  refine SOps.move rfl ?_
  refine SOps.loadPinA rfl aggB_24_3 (Nat.le_of_ble_eq_true rfl) ?_
  refine SOps.move rfl ?_
  refine SOps.callP (rSplit _ _ _ _ _ (by omega)) rfl ?_
  rintro _ rfl
  refine SOps.move rfl ?_
  refine SOps.extract rfl rfl ?_
  refine SOps.extract rfl rfl ?_
  refine SOps.assign rfl ?_
  refine SOps.assign rfl ?_
  refine SOps.nil ?_
  refine SCode.seq ?_
  refine SCode.seqR ?_
  refine SOps.move rfl ?_
  refine SOps.bin rfl rfl rfl ?_
  refine SOps.nil ?_
  refine SCode.cond rfl (fun hc1 => ?_) (fun hc1 => ?_)
  · try simp only [decide_eq_true_eq, decide_eq_false_iff_not, Bool.not_eq_true', Bool.not_eq_false', beq_iff_eq, bne_iff_ne, ne_eq, beq_eq_false_iff_ne, bne_eq_false_iff_eq, Int.not_lt, Int.not_le, Nat.not_lt, Nat.not_le, Int.ofNat_lt, Int.ofNat_le, Bool.not_eq_eq_eq_not, Bool.not_true, Bool.not_false] at hc1
    refine SCode.seqR ?_
    refine SOps.move rfl ?_
    refine SOps.assign rfl ?_
    refine SOps.nilIsl (t := 6) (sz := 1) rfl ?_
    refine SOps.assign rfl ?_
    refine SOps.nil ?_
    refine SCode.ret ?_
    exact ⟨_, Res.two (.tmp rfl) (.tmp rfl), by rw [if_neg hc1]; rfl, rfl⟩
  · try simp only [decide_eq_true_eq, decide_eq_false_iff_not, Bool.not_eq_true', Bool.not_eq_false', beq_iff_eq, bne_iff_ne, ne_eq, beq_eq_false_iff_ne, bne_eq_false_iff_eq, Int.not_lt, Int.not_le, Nat.not_lt, Nat.not_le, Int.ofNat_lt, Int.ofNat_le, Bool.not_eq_eq_eq_not, Bool.not_true, Bool.not_false] at hc1
    refine SCode.skip ?_
    show SCode _ _ _ _
    refine SCode.seqR ?_
    refine SOps.litO sliceB_43_4_1 zeroIs_4 rfl (fun b0 hb_0 => ?_)
    refine SOps.assign rfl ?_
    refine SOps.nil ?_
    refine SCode.seq ?_
    refine SCode.seqR ?_
    refine SOps.move rfl ?_
    refine SOps.lenM rfl sliceB_35_9_1 ?_
    refine SOps.move rfl ?_
    refine SOps.nil ?_
    refine SCode.block ?_
    refine SCode.loop3 (fun (i : Nat) (acc : List Bool) (c : Nat) => (⟨47, [(0, DLs a), (10, .sl c 1 0 acc.length), (25, DStrs (splitS (runes s) (starts a ons s))), (26, .v (.int .i64 (((splitS (runes s) (starts a ons s)).length : Nat) : Int))), (27, .v (.int .i64 (i : Int)))], [(c, .row 4 1 (acc.map encB))]⟩ : St)) (fun (i : Nat) (acc : List Bool) (c : Nat) => i ≤ (splitS (runes s) (starts a ons s)).length ∧ acc.length ≤ i ∧ acc ++ hvR a ((splitS (runes s) (starts a ons s)).drop i) = hvR a (splitS (runes s) (starts a ons s))) (fun (i : Nat) (acc : List Bool) (c : Nat) => (splitS (runes s) (starts a ons s)).length - i) (0) ([]) (b0) (by exact ⟨Nat.zero_le _, Nat.le_refl _, rfl⟩) (St.Le.of ⟨(by first | rfl | (show some _ = some _; simp [hc1])), (by first | rfl | (show some _ = some _; simp [hc1])), (by first | rfl | (show some _ = some _; simp [hc1])), (by first | rfl | (show some _ = some _; simp [hc1])), (by first | rfl | (show some _ = some _; simp [hc1])), trivial⟩ rfl (by first | rfl | (simp))) ?_
    rintro i acc c ⟨hil, hl, hf⟩
    refine SCode.seqR ?_
    refine SOps.bin rfl rfl rfl ?_
    refine SOps.nil ?_
    refine SCode.seq ?_
    refine SCode.cond rfl (fun hc2 => ?_) (fun hc2 => ?_)
    · try simp only [decide_eq_true_eq, decide_eq_false_iff_not, Bool.not_eq_true', Bool.not_eq_false', beq_iff_eq, bne_iff_ne, ne_eq, beq_eq_false_iff_ne, bne_eq_false_iff_eq, Int.not_lt, Int.not_le, Nat.not_lt, Nat.not_le, Int.ofNat_lt, Int.ofNat_le, Bool.not_eq_eq_eq_not, Bool.not_true, Bool.not_false] at hc2
      refine SCode.skip ?_
      show SCode _ _ _ _
      refine SCode.seq ?_
      refine SCode.block ?_
      refine SCode.seqR ?_
      have hdr := List.drop_eq_getElem_cons (show i < (splitS (runes s) (starts a ons s)).length by omega)
      have hrp : 1 ≤ (runes ((splitS (runes s) (starts a ons s))[i])).length := splitS_runes (List.getElem_mem (show i < (splitS (runes s) (starts a ons s)).length by omega))
      refine SOps.indexM (i) rfl rfl sliceB_35_9_1 (by first | omega | (simp only [lenB]; omega)) (by first | omega | (simp only [lenB]; omega)) ?_
      refine SOps.loadPin rfl flatB_9 ?_
      refine SOps.assign rfl ?_
      refine SOps.nil ?_
      refine SCode.seqR ?_
      refine SOps.move rfl ?_
      refine SOps.runesF rfl rfl strB_9 sliceB_40_21_1 intB_21_i32 ?_
      refine SOps.assign rfl ?_
      refine SOps.nil ?_
      refine SCode.region ?_
      refine SOps.fact (isl_len (t := 13) rfl) (fun hB2 => ?_)
      simp only [List.length_map, lenB] at hB2
      refine SOps.move rfl ?_
      refine SOps.move rfl ?_
      refine SOps.move rfl ?_
      refine SOps.move rfl ?_
      refine SOps.lenM rfl sliceB_40_21_1 ?_
      refine SOps.subI rfl rfl (by first | omega | (simp only [lenB]; omega)) (by first | omega | (simp only [lenB]; omega)) ?_
      refine SOps.indexM ((runes ((splitS (runes s) (starts a ons s))[i])).length - 1) rfl rfl sliceB_40_21_1 (by first | omega | (simp only [lenB]; omega)) (by first | omega | (simp only [lenB]; omega)) ?_
      refine SOps.loadPin rfl flatB_21 ?_
      refine SOps.callP (rVowel _ _) rfl ?_
      rintro _ rfl
      refine SOps.un rfl rfl ?_
      refine SOps.litF rfl sliceB_43_4_1 zeroIs_4 rfl ?_
      refine SOps.appendOwn 0 sliceB_43_4_1 elemB_4_1_1 rfl rfl rfl (by simp) SrcD.isl (by simp) (by simp [lenB] <;> (first | omega | (simp only [lenB]; omega))) (by simp <;> (first | omega | (simp only [lenB]; omega))) (fun b1 hb_1 => ?_)
      refine SOps.assign rfl ?_
      refine SOps.nil ?_
      show SCode _ _ _ _
      refine SCode.region ?_
      refine SOps.addI rfl rfl (by first | omega | (simp only [lenB]; omega)) (by first | omega | (simp only [lenB]; omega)) ?_
      refine SOps.move rfl ?_
      refine SOps.nil ?_
      exact ⟨i + 1, acc ++ [!vowelA a ((runes ((splitS (runes s) (starts a ons s))[i]))[(runes ((splitS (runes s) (starts a ons s))[i])).length - 1])], b1, ⟨by omega, by simp; omega, by rw [← hf, hdr]; simp only [hvR, List.map_cons, List.append_assoc, List.getD_eq_getElem?_getD, List.getElem?_eq_getElem (show (runes ((splitS (runes s) (starts a ons s))[i])).length - 1 < (runes ((splitS (runes s) (starts a ons s))[i])).length by omega)]; rfl⟩, by omega, St.Le.of ⟨rfl, (by show some _ = some _; rw [List.length_append]; rfl), rfl, rfl, rfl, trivial⟩ rfl (by rw [List.map_append]; rfl)⟩
    · try simp only [decide_eq_true_eq, decide_eq_false_iff_not, Bool.not_eq_true', Bool.not_eq_false', beq_iff_eq, bne_iff_ne, ne_eq, beq_eq_false_iff_ne, bne_eq_false_iff_eq, Int.not_lt, Int.not_le, Nat.not_lt, Nat.not_le, Int.ofNat_lt, Int.ofNat_le, Bool.not_eq_eq_eq_not, Bool.not_true, Bool.not_false] at hc2
      refine SCode.exit ?_
      show SCode _ _ _ _
      refine SCode.seqR ?_
      refine SOps.freezeS (t := 10) 0 rfl rfl rfl (by simp) ?_
      refine SOps.move rfl ?_
      refine SOps.assign rfl ?_
      refine SOps.assign rfl ?_
      refine SOps.nil ?_
      refine SCode.drop ?_
      refine SCode.ret ?_
      exact ⟨_, Res.two (.tmp rfl) (.tmp rfl), by rw [if_pos hc1, hc1, ← hf, List.drop_eq_nil_of_le (by omega)]; simp [hvR], rfl⟩
theorem lawHeavy (hV : VS E) (hD : DL E) (hA : AW E) (a : List Letter) (ons : List (List Int)) (ml mr : Int) (s : ByteArray)  : GCall Tryd.prog E 11 [DLs a, DP ons ml mr, .v (.string s)] [] (fun d H => d = .v (.bool true) ∧ H = []) := by
  refine GCall.body (C := ⟨Tryd.prog, E, true⟩) Tryd.func11 rfl (fun _ => rfl) (by kernel_rfl) rfl ?_
  refine SCode.seqR ?_
  refine SOps.boxAM rfl rfl ?_
  refine SOps.assign rfl ?_
  refine SOps.nil ?_
  refine SCode.seq ?_
  refine SCode.seqR ?_
  refine SOps.callP hA rfl ?_
  rintro _ rfl
  refine SOps.un rfl rfl ?_
  refine SOps.move rfl ?_
  refine SOps.move rfl ?_
  refine SOps.loadPinA rfl aggB_24_3 (Nat.le_of_ble_eq_true rfl) ?_
  refine SOps.move rfl ?_
  refine SOps.callP (lFew _ _ _ _ _) rfl ?_
  rintro _ rfl
  refine SOps.un rfl rfl ?_
  refine SOps.pick rfl rfl ?_
  refine SOps.nil ?_
  refine SCode.cond rfl (fun hc1 => ?_) (fun hc1 => ?_)
  · try simp only [decide_eq_true_eq, decide_eq_false_iff_not, Bool.not_eq_true', Bool.not_eq_false', beq_iff_eq, bne_iff_ne, ne_eq, beq_eq_false_iff_ne, bne_eq_false_iff_eq, Int.not_lt, Int.not_le, Nat.not_lt, Nat.not_le, Int.ofNat_lt, Int.ofNat_le, Bool.not_eq_eq_eq_not, Bool.not_true, Bool.not_false] at hc1
    refine SCode.seqR ?_
    refine SOps.callP hA rfl ?_
    rintro _ rfl
    refine SOps.assign rfl ?_
    refine SOps.nil ?_
    refine SCode.ret ?_
    exact ⟨_, Res.one (.tmp rfl), rfl, rfl⟩
  · try simp only [decide_eq_true_eq, decide_eq_false_iff_not, Bool.not_eq_true', Bool.not_eq_false', beq_iff_eq, bne_iff_ne, ne_eq, beq_eq_false_iff_ne, bne_eq_false_iff_eq, Int.not_lt, Int.not_le, Nat.not_lt, Nat.not_le, Int.ofNat_lt, Int.ofNat_le, Bool.not_eq_eq_eq_not, Bool.not_true, Bool.not_false] at hc1
    have hfew := fewA_spec hc1
    refine SCode.skip ?_
    show SCode _ _ _ _
    refine SCode.seqR ?_
    refine SOps.move rfl ?_
    refine SOps.loadPinA rfl aggB_24_3 (Nat.le_of_ble_eq_true rfl) ?_
    refine SOps.move rfl ?_
    refine SOps.callP (sHeavy hV hD _ _ _ _ _ (by omega)) rfl ?_
    rintro _ rfl
    refine SOps.move rfl ?_
    refine SOps.extract rfl rfl ?_
    refine SOps.extract rfl rfl ?_
    refine SOps.assign rfl ?_
    refine SOps.assign rfl ?_
    refine SOps.nil ?_
    refine SCode.seqR ?_
    refine SOps.move rfl ?_
    refine SOps.loadPinA rfl aggB_24_3 (Nat.le_of_ble_eq_true rfl) ?_
    refine SOps.move rfl ?_
    refine SOps.callP (rHeavy _ _ _ _ _ (by omega)) rfl ?_
    rintro _ rfl
    refine SOps.move rfl ?_
    refine SOps.extract rfl rfl ?_
    refine SOps.extract rfl rfl ?_
    refine SOps.assign rfl ?_
    refine SOps.assign rfl ?_
    refine SOps.nil ?_
    refine SCode.seq ?_
    refine SCode.seqR ?_
    obtain ⟨hx, hxe⟩ : ∃ hx, hx = (if checkE a ons ml mr s = 0 then hvR a (splitS (runes s) (starts a ons s)) else []) := ⟨_, rfl⟩
    refine SOps.reSlot (t := 7) rfl (show _ = DBools hx from by rw [hxe, ← heavy_eq]) ?_
    refine SOps.reSlot (t := 9) rfl (show _ = DBools hx from by rw [hxe]) ?_
    clear hxe
    refine SOps.fact (isl_len (t := 7) rfl) (fun hB => ?_)
    simp only [List.length_map, lenB] at hB
    refine SOps.move rfl ?_
    refine SOps.move rfl ?_
    refine SOps.bin rfl rfl rfl ?_
    refine SOps.move rfl ?_
    refine SOps.caseB 39 rfl (fun hb2 => ?_) (fun hb2 => ?_)
    · try simp only [decide_eq_true_eq, decide_eq_false_iff_not, Bool.not_eq_true', Bool.not_eq_false', beq_iff_eq, bne_iff_ne, ne_eq, beq_eq_false_iff_ne, bne_eq_false_iff_eq, Int.not_lt, Int.not_le, Nat.not_lt, Nat.not_le, Int.ofNat_lt, Int.ofNat_le, Bool.not_eq_eq_eq_not, Bool.not_true, Bool.not_false] at hb2
      exact absurd hb2 (by simp)
    · try simp only [decide_eq_true_eq, decide_eq_false_iff_not, Bool.not_eq_true', Bool.not_eq_false', beq_iff_eq, bne_iff_ne, ne_eq, beq_eq_false_iff_ne, bne_eq_false_iff_eq, Int.not_lt, Int.not_le, Nat.not_lt, Nat.not_le, Int.ofNat_lt, Int.ofNat_le, Bool.not_eq_eq_eq_not, Bool.not_true, Bool.not_false] at hb2
      refine SOps.move rfl ?_
      refine SOps.lenM rfl sliceB_43_4_1 ?_
      refine SOps.move rfl ?_
      refine SOps.lenM rfl sliceB_43_4_1 ?_
      refine SOps.bin rfl rfl rfl ?_
      refine SOps.pick rfl rfl ?_
      refine SOps.nil ?_
      refine SCode.cond rfl (fun hc3 => ?_) (fun hc3 => ?_)
      · try simp only [decide_eq_true_eq, decide_eq_false_iff_not, Bool.not_eq_true', Bool.not_eq_false', beq_iff_eq, bne_iff_ne, ne_eq, beq_eq_false_iff_ne, bne_eq_false_iff_eq, Int.not_lt, Int.not_le, Nat.not_lt, Nat.not_le, Int.ofNat_lt, Int.ofNat_le, Bool.not_eq_eq_eq_not, Bool.not_true, Bool.not_false] at hc3
        exact absurd hc3 (by simp)
      · try simp only [decide_eq_true_eq, decide_eq_false_iff_not, Bool.not_eq_true', Bool.not_eq_false', beq_iff_eq, bne_iff_ne, ne_eq, beq_eq_false_iff_ne, bne_eq_false_iff_eq, Int.not_lt, Int.not_le, Nat.not_lt, Nat.not_le, Int.ofNat_lt, Int.ofNat_le, Bool.not_eq_eq_eq_not, Bool.not_true, Bool.not_false] at hc3
        refine SCode.skip ?_
        show SCode _ _ _ _
        refine SCode.seq ?_
        refine SCode.seqR ?_
        refine SOps.move rfl ?_
        refine SOps.lenM rfl sliceB_43_4_1 ?_
        refine SOps.move rfl ?_
        refine SOps.nil ?_
        refine SCode.block ?_
        refine SCode.loop1 (fun (i : Nat) => (⟨61, [(7, DBools hx), (9, DBools hx), (47, .v (.int .i64 (hx.length : Int))), (48, .v (.int .i64 (i : Int)))], []⟩ : St)) (fun (i : Nat) => i ≤ hx.length) (fun (i : Nat) => hx.length - i) (0) (by exact Nat.zero_le _) (St.Le.of ⟨(by first | rfl | (show some _ = some _; simp)), (by first | rfl | (show some _ = some _; simp)), (by first | rfl | (show some _ = some _; simp)), (by first | rfl | (show some _ = some _; simp)), trivial⟩ rfl (by first | rfl | (simp))) ?_
        rintro i hi
        refine SCode.seqR ?_
        refine SOps.bin rfl rfl rfl ?_
        refine SOps.nil ?_
        refine SCode.seq ?_
        refine SCode.cond rfl (fun hc4 => ?_) (fun hc4 => ?_)
        · try simp only [decide_eq_true_eq, decide_eq_false_iff_not, Bool.not_eq_true', Bool.not_eq_false', beq_iff_eq, bne_iff_ne, ne_eq, beq_eq_false_iff_ne, bne_eq_false_iff_eq, Int.not_lt, Int.not_le, Nat.not_lt, Nat.not_le, Int.ofNat_lt, Int.ofNat_le, Bool.not_eq_eq_eq_not, Bool.not_true, Bool.not_false] at hc4
          refine SCode.skip ?_
          show SCode _ _ _ _
          refine SCode.seq ?_
          refine SCode.block ?_
          refine SCode.seqR ?_
          refine SOps.move rfl ?_
          refine SOps.assign rfl ?_
          refine SOps.nil ?_
          refine SCode.seq ?_
          have hi2 : i < hx.length := by omega
          refine SCode.drawPure mixed_ [(51, DBools hx), (52, .v (.int .i64 (i : Int))), (53, .ipin (encB (hx[i]))), (54, .v (.bool (hx[i]))), (55, DBools hx), (56, .v (.int .i64 (i : Int))), (57, .ipin (encB (hx[i]))), (58, .v (.bool (hx[i]))), (59, .v (.bool (hx[i] != hx[i])))] [51, 52, 53, 54, 55, 56, 57, 58, 59] [[.inr 7], [.inr 11], [.inl 0, .inl 1], [.inl 2], [.inr 9], [.inr 11], [.inl 4, .inl 5], [.inl 6], [.inl 3, .inl 7]] [[(7, DBools hx)], [(11, .v (.int .i64 (i : Int)))], [(51, DBools hx), (52, .v (.int .i64 (i : Int)))], [(53, .ipin (encB (hx[i])))], [(9, DBools hx)], [(11, .v (.int .i64 (i : Int)))], [(55, DBools hx), (56, .v (.int .i64 (i : Int)))], [(57, .ipin (encB (hx[i])))], [(54, .v (.bool (hx[i]))), (58, .v (.bool (hx[i])))]] rfl (by kernel_rfl) (by kernel_rfl) rfl ?_ ?_
          · refine OpsOk.cons (fun rest => ?_) ?_
            · refine SOps.move rfl ?_
              exact SOps.nil (by first | rfl | simp_all)
            refine OpsOk.cons (fun rest => ?_) ?_
            · refine SOps.move rfl ?_
              exact SOps.nil (by first | rfl | simp_all)
            refine OpsOk.cons (fun rest => ?_) ?_
            · refine SOps.indexM (i) rfl rfl sliceB_43_4_1 (by omega) (by omega) ?_
              exact SOps.nil (by first | rfl | simp_all)
            refine OpsOk.cons (fun rest => ?_) ?_
            · refine SOps.loadPin rfl flatB_4 ?_
              exact SOps.nil (by first | rfl | simp_all)
            refine OpsOk.cons (fun rest => ?_) ?_
            · refine SOps.move rfl ?_
              exact SOps.nil (by first | rfl | simp_all)
            refine OpsOk.cons (fun rest => ?_) ?_
            · refine SOps.move rfl ?_
              exact SOps.nil (by first | rfl | simp_all)
            refine OpsOk.cons (fun rest => ?_) ?_
            · refine SOps.indexM (i) rfl rfl sliceB_43_4_1 (by omega) (by omega) ?_
              exact SOps.nil (by first | rfl | simp_all)
            refine OpsOk.cons (fun rest => ?_) ?_
            · refine SOps.loadPin rfl flatB_4 ?_
              exact SOps.nil (by first | rfl | simp_all)
            refine OpsOk.cons (fun rest => ?_) ?_
            · refine SOps.boolNe rfl rfl boolTy_4 ?_
              exact SOps.nil (by first | rfl | simp_all)
            exact OpsOk.nil
          · show SCode _ _ _ _
            refine SCode.cond rfl (fun hc5 => ?_) (fun hc5 => ?_)
            · try simp only [decide_eq_true_eq, decide_eq_false_iff_not, Bool.not_eq_true', Bool.not_eq_false', beq_iff_eq, bne_iff_ne, ne_eq, beq_eq_false_iff_ne, bne_eq_false_iff_eq, Int.not_lt, Int.not_le, Nat.not_lt, Nat.not_le, Int.ofNat_lt, Int.ofNat_le, Bool.not_eq_eq_eq_not, Bool.not_true, Bool.not_false] at hc5
              exact absurd hc5 (by simp)
            · try simp only [decide_eq_true_eq, decide_eq_false_iff_not, Bool.not_eq_true', Bool.not_eq_false', beq_iff_eq, bne_iff_ne, ne_eq, beq_eq_false_iff_ne, bne_eq_false_iff_eq, Int.not_lt, Int.not_le, Nat.not_lt, Nat.not_le, Int.ofNat_lt, Int.ofNat_le, Bool.not_eq_eq_eq_not, Bool.not_true, Bool.not_false] at hc5
              refine SCode.skip ?_
              show SCode _ _ _ _
              refine SCode.region ?_
              refine SOps.addI rfl rfl (by omega) (by omega) ?_
              refine SOps.move rfl ?_
              refine SOps.nil ?_
              exact ⟨i + 1, by omega, by omega, (St.Le.of ⟨(by first | rfl | (show some _ = some _; simp)), (by first | rfl | (show some _ = some _; simp)), (by first | rfl | (show some _ = some _; simp)), (by first | rfl | (show some _ = some _; simp)), trivial⟩ rfl (by first | rfl | (simp)))⟩
        · try simp only [decide_eq_true_eq, decide_eq_false_iff_not, Bool.not_eq_true', Bool.not_eq_false', beq_iff_eq, bne_iff_ne, ne_eq, beq_eq_false_iff_ne, bne_eq_false_iff_eq, Int.not_lt, Int.not_le, Nat.not_lt, Nat.not_le, Int.ofNat_lt, Int.ofNat_le, Bool.not_eq_eq_eq_not, Bool.not_true, Bool.not_false] at hc4
          refine SCode.exit ?_
          show SCode _ _ _ _
          refine SCode.seqR ?_
          refine SOps.assign rfl ?_
          refine SOps.nil ?_
          refine SCode.ret ?_
          exact ⟨_, Res.one (.tmp rfl), rfl, rfl⟩
end Go.GH
