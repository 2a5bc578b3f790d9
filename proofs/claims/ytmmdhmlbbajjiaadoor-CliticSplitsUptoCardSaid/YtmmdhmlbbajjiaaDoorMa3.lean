/-
  Part 3 of the texts behind the walks of this claim: an own layer over the kit's wp, plain laws, and walks. No conditions.
-/
import Derived.Test.YtmmdhmlbbajjiaaDoorMa2
import Derived.Shelf.Unicode.ValidAny
import Derived.Shelf.Strings.IndexAnyAll
import Derived.Test.YtmmdhmlbbajjiaaDoorProg
import Derived.ChangeArms
import Derived.DataReads
set_option linter.unusedVariables false
set_option linter.unusedSimpArgs false
set_option linter.deprecated false
namespace Go.GH
open Go Go.Proofs
variable {E : Env}
theorem aggB_47_6 : aggB Tryd.prog 47 6 = true := by kernel_rfl
theorem elemB_21_1_4 : elemB Tryd.prog 21 1 4 = true := by kernel_rfl
theorem fieldB_47_0_0 : fieldB Tryd.prog 47 0 0 = true := by kernel_rfl
theorem fieldB_47_1_1 : fieldB Tryd.prog 47 1 1 = true := by kernel_rfl
theorem fieldB_47_2_2 : fieldB Tryd.prog 47 2 2 = true := by kernel_rfl
theorem fieldB_47_3_3 : fieldB Tryd.prog 47 3 3 = true := by kernel_rfl
theorem fieldB_47_4_4 : fieldB Tryd.prog 47 4 4 = true := by kernel_rfl
theorem fieldB_47_5_5 : fieldB Tryd.prog 47 5 5 = true := by kernel_rfl
theorem intB_21_i32 : intB Tryd.prog 21 .i32 = true := by kernel_rfl
theorem sliceB_84_21_1 : sliceB Tryd.prog 84 21 1 = true := by kernel_rfl
theorem zeroIs_21 : zeroIs Tryd.prog 21 (.int .i32 0) := by unfold zeroIs; kernel_rfl
theorem qIndex (a : List Letter) (r : Int)  : GCall Tryd.prog E 36 [DLs a, .v (.int .i32 r)] [] (fun d H => d = .v (.int .i64 (idxI a r)) ∧ H = []) := by
 refine GCall.body (C := ⟨Tryd.prog, E, true⟩) Tryd.func36 rfl (fun _ => rfl) (by kernel_rfl) rfl ?_
 refine SCode.seqR (SOps.assign rfl (SOps.nil (SCode.seq (SCode.seqR (SOps.assign rfl (SOps.nil (SCode.block (SCode.loop1 (fun (i : Nat) => (⟨20, [(0, DLs a), (1, .v (.int .i32 r)), (5, .v (.int .i64 (i : Int)))], []⟩ : St)) (fun (i : Nat) => i ≤ a.length ∧ ∀ l ∈ a.take i, l.rune ≠ r) (fun (i : Nat) => a.length - i) (0) (by simp) (St.Le.of ⟨(by first | rfl | (show some _ = some _; simp)), (by first | rfl | (show some _ = some _; simp)), (by first | rfl | (show some _ = some _; simp)), trivial⟩ rfl (by first | rfl | (simp))) ?_))))))))
 rintro i ⟨hi, hf⟩
 refine SCode.fact (isl_len (t := 0) rfl) (fun hB => ?_)
 simp only [List.length_map, lenB] at hB
 refine SCode.seq (SCode.seqR (SOps.move rfl (SOps.move rfl (SOps.lenM rfl sliceB_22_28_2 (SOps.bin rfl rfl rfl (SOps.nil ?_))))))
 refine SCode.cond rfl (fun hc1 => ?_) (fun hc1 => ?_)
 ·try simp only [nmL] at hc1
  refine SCode.skip ?_
  show SCode _ _ _ _
  refine SCode.seq (SCode.block (SCode.seqR (SOps.move rfl (SOps.move rfl (SOps.indexM (i) rfl rfl sliceB_22_28_2 (by omega) (by omega) (SOps.fieldPin rfl fieldB_28_0_0 (SOps.loadPin rfl flatB_21 (SOps.move rfl (SOps.bin rfl rfl rfl (SOps.nil ?_))))))))))
  refine SCode.cond rfl (fun hc2 => ?_) (fun hc2 => ?_)
  ·try simp only [nmL] at hc2
   refine SCode.seqR (SOps.move rfl (SOps.assign rfl (SOps.nil (SCode.ret ?_))))
   have hx : idx a r = some i := idx_drop hf (by omega) hc2
   exact ⟨_, Res.one (.tmp rfl), by rw [idxI_some hx], rfl⟩
  ·try simp only [nmL] at hc2
   refine SCode.skip ?_
   show SCode _ _ _ _
   refine SCode.region (SOps.move rfl (SOps.addI rfl rfl (by omega) (by omega) (SOps.assign rfl (SOps.nil ?_))))
   exact ⟨i + 1, by exact ⟨by omega, take_more hf (by omega) hc2⟩, by omega, (St.Le.of ⟨(by first | rfl | (show some _ = some _; simp)), (by first | rfl | (show some _ = some _; simp)), (by first | rfl | (show some _ = some _; simp)), trivial⟩ rfl (by first | rfl | (simp)))⟩
 ·try simp only [nmL] at hc1
  refine SCode.exit ?_
  show SCode _ _ _ _
  refine SCode.seqR (SOps.assign rfl (SOps.nil (SCode.ret ?_)))
  have hx : idx a r = none := idx_none.2 (by rw [List.take_of_length_le (by omega)] at hf; exact hf)
  exact ⟨_, Res.one (.tmp rfl), by rw [idxI_none hx], rfl⟩
theorem qAdm (a : List Letter)  : GCall Tryd.prog E 65 [DLs a] [] (fun d H => d = .v (.bool (admA a)) ∧ H = []) := by
 refine GCall.body (C := ⟨Tryd.prog, E, true⟩) Tryd.func65 rfl (fun _ => rfl) (by kernel_rfl) rfl ?_
 refine SCode.seqR (SOps.assign rfl (SOps.nil (SCode.seq (SCode.seqR (SOps.assign rfl (SOps.nil (SCode.block (SCode.loop1 (fun (i : Nat) => (⟨44, [(0, DLs a), (3, .v (.int .i64 (i : Int)))], []⟩ : St)) (fun (i : Nat) => i ≤ a.length ∧ (∀ l ∈ a.take i, goodR l.rune = true) ∧ ((a.take i).map (·.rune)).Nodup) (fun (i : Nat) => a.length - i) (0) (by simp) (St.Le.of ⟨(by first | rfl | (show some _ = some _; simp)), (by first | rfl | (show some _ = some _; simp)), trivial⟩ rfl (by first | rfl | (simp))) ?_))))))))
 rintro i ⟨hi, hf⟩
 refine SCode.fact (isl_len (t := 0) rfl) (fun hB => ?_)
 simp only [List.length_map, lenB] at hB
 refine SCode.seq (SCode.seqR (SOps.move rfl (SOps.move rfl (SOps.lenM rfl sliceB_22_28_2 (SOps.bin rfl rfl rfl (SOps.nil ?_))))))
 refine SCode.cond rfl (fun hc1 => ?_) (fun hc1 => ?_)
 ·try simp only [nmL] at hc1
  refine SCode.skip ?_
  show SCode _ _ _ _
  refine SCode.seq (SCode.block (SCode.seqR (SOps.move rfl (SOps.move rfl (SOps.indexM (i) rfl rfl sliceB_22_28_2 (by omega) (by omega) (SOps.fieldPin rfl fieldB_28_0_0 (SOps.loadPin rfl flatB_21 (SOps.bin rfl rfl rfl (SOps.move rfl ?_)))))))))
  refine SOps.caseB 16 rfl (fun hb2 => ?_) (fun hb2 => ?_)
  ·try simp only [nmL] at hb2
   refine SOps.skip rfl (SOps.skip rfl (SOps.skip rfl (SOps.skip rfl (SOps.skip rfl (SOps.skip rfl (SOps.skip rfl (SOps.pick rfl rfl (SOps.move rfl (SOps.skip rfl (SOps.skip rfl (SOps.skip rfl (SOps.skip rfl (SOps.skip rfl (SOps.skip rfl (SOps.skip rfl (SOps.skip rfl (SOps.skip rfl (SOps.pick rfl rfl (SOps.nil ?_)))))))))))))))))))
   refine SCode.cond rfl (fun _ => ?_) (fun h => by cases h)
   refine SCode.seqR (SOps.assign rfl (SOps.nil (SCode.ret ?_)))
   exact ⟨_, Res.one (.tmp rfl), congrArg (fun b => DV.v (.bool b)) (Eq.symm (Bool.eq_false_iff.2 (fun h => by have := goodR_split.1 ((properB_iff.1 (admA_proper h).1).1 _ (List.getElem_mem (show i < a.length by omega))); omega))), rfl⟩
  ·try simp only [nmL] at hb2
   refine SOps.move rfl (SOps.move rfl (SOps.indexM (i) rfl rfl sliceB_22_28_2 (by omega) (by omega) (SOps.fieldPin rfl fieldB_28_0_0 (SOps.loadPin rfl flatB_21 (SOps.callP (uValidRune _) rfl ?_)))))
   rintro _ rfl
   refine SOps.un rfl rfl (SOps.pick rfl rfl (SOps.move rfl ?_))
   refine SOps.caseB 25 rfl (fun hb3 => ?_) (fun hb3 => ?_)
   ·try simp only [nmL] at hb3
    refine SOps.skip rfl (SOps.skip rfl (SOps.skip rfl (SOps.skip rfl (SOps.skip rfl (SOps.skip rfl (SOps.skip rfl (SOps.skip rfl (SOps.skip rfl (SOps.pick rfl rfl (SOps.nil ?_))))))))))
    refine SCode.cond rfl (fun _ => ?_) (fun h => by cases h)
    refine SCode.seqR (SOps.assign rfl (SOps.nil (SCode.ret ?_)))
    exact ⟨_, Res.one (.tmp rfl), congrArg (fun b => DV.v (.bool b)) (Eq.symm (Bool.eq_false_iff.2 (fun h => by have := goodR_split.1 ((properB_iff.1 (admA_proper h).1).1 _ (List.getElem_mem (show i < a.length by omega))); rw [this.2] at hb3; cases hb3))), rfl⟩
   ·try simp only [nmL] at hb3
    refine SOps.move rfl (SOps.move rfl (SOps.move rfl (SOps.indexM (i) rfl rfl sliceB_22_28_2 (by omega) (by omega) (SOps.fieldPin rfl fieldB_28_0_0 (SOps.loadPin rfl flatB_21 (SOps.callP (qIndex _ _) rfl ?_))))))
    rintro _ rfl
    refine SOps.move rfl (SOps.bin rfl rfl rfl (SOps.pick rfl rfl (SOps.nil ?_)))
    refine SCode.cond rfl (fun hc4 => ?_) (fun hc4 => ?_)
    ·try simp only [nmL] at hc4
     refine SCode.seqR (SOps.assign rfl (SOps.nil (SCode.ret ?_)))
     exact ⟨_, Res.one (.tmp rfl), congrArg (fun b => DV.v (.bool b)) (Eq.symm (Bool.eq_false_iff.2 (fun h => by have := (idx_self (show i < a.length by omega)).2 ((nodup_snoc (show i < a.length by omega)).1 (properB_take (admA_proper h).1 (i + 1)).2).2; rw [idxI_some this] at hc4; exact hc4 rfl))), rfl⟩
    ·try simp only [nmL] at hc4
     refine SCode.skip ?_
     show SCode _ _ _ _
     refine SCode.region (SOps.move rfl (SOps.addI rfl rfl (by omega) (by omega) (SOps.assign rfl (SOps.nil ?_))))
     exact ⟨i + 1, by exact ⟨by omega, take_more hf.1 (by omega) (goodR_split.2 ⟨by omega, hb3⟩), (nodup_snoc (by omega)).2 ⟨hf.2, (idx_self (by omega)).1 (by obtain ⟨k, hk⟩ := idxI_nonneg.1 (show 0 ≤ idxI a (a[i]).rune by omega); rw [hk]; rw [idxI_some hk] at hc4; congr 1; omega)⟩⟩, by omega, (St.Le.of ⟨(by first | rfl | (show some _ = some _; simp)), (by first | rfl | (show some _ = some _; simp)), trivial⟩ rfl (by first | rfl | (simp)))⟩
 ·try simp only [nmL] at hc1
  refine SCode.exit ?_
  show SCode _ _ _ _
  refine SCode.seqR (SOps.move rfl (SOps.lenM rfl sliceB_22_28_2 (SOps.bin rfl rfl rfl (SOps.move rfl ?_))))
  refine SOps.caseB 39 rfl (fun hb5 => ?_) (fun hb5 => ?_)
  ·try simp only [nmL] at hb5
   refine SOps.move rfl (SOps.lenM rfl sliceB_22_28_2 (SOps.bin rfl rfl rfl (SOps.pick rfl rfl (SOps.assign rfl (SOps.nil (SCode.ret ?_))))))
   exact ⟨_, Res.one (.tmp rfl), congrArg (fun b => DV.v (.bool b)) (by rw [List.take_of_length_le (by omega)] at hf; rw [admA, properB_iff.2 hf]; rw [Bool.eq_iff_iff]; simp only [decide_eq_true_eq, Bool.and_eq_true, and_true]; omega), rfl⟩
  ·try simp only [nmL] at hb5
   refine SOps.skip rfl (SOps.skip rfl (SOps.skip rfl (SOps.pick rfl rfl (SOps.assign rfl (SOps.nil (SCode.ret ?_))))))
   exact ⟨_, Res.one (.tmp rfl), congrArg (fun b => DV.v (.bool b)) (Eq.symm (Bool.eq_false_iff.2 (fun h => by have := admA_proper h; omega))), rfl⟩
theorem qLetters (hV : VS E) (a : List Letter) (s : ByteArray)  : GCall Tryd.prog E 64 [DLs a, .v (.string s)] [] (fun d H => d = (if allL a s then .tup [DRunes (runes s), .v (.bool (utf8R s))] else .tup [.v (.slice none 0 0), .v (.bool false)]) ∧ H = []) := by
 refine GCall.body (C := ⟨Tryd.prog, E, true⟩) Tryd.func64 rfl (fun _ => rfl) (by kernel_rfl) rfl ?_
 refine SCode.seqR (SOps.assign rfl (SOps.assign rfl (SOps.nil (SCode.seqR (SOps.move rfl (SOps.runesF rfl rfl strB_9 sliceB_84_21_1 intB_21_i32 (SOps.assign rfl (SOps.nil (SCode.seq (SCode.seqR (SOps.assign rfl (SOps.nil (SCode.block (SCode.loop1 (fun (i : Nat) => (⟨26, [(0, DLs a), (1, .v (.string s)), (6, DRunes (runes s)), (7, .v (.int .i64 (i : Int)))], []⟩ : St)) (fun (i : Nat) => i ≤ (runes s).length ∧ ∀ r ∈ (runes s).take i, (idx a r).isSome = true) (fun (i : Nat) => (runes s).length - i) (0) (by simp) (St.Le.of ⟨(by first | rfl | (show some _ = some _; simp)), (by first | rfl | (show some _ = some _; simp)), (by first | rfl | (show some _ = some _; simp)), (by first | rfl | (show some _ = some _; simp)), trivial⟩ rfl (by first | rfl | (simp))) ?_))))))))))))))
 rintro i ⟨hi, hf⟩
 refine SCode.fact (isl_len (t := 6) rfl) (fun hB => ?_)
 simp only [List.length_map, lenB] at hB
 refine SCode.seq (SCode.seqR (SOps.move rfl (SOps.move rfl (SOps.lenM rfl sliceB_84_21_1 (SOps.bin rfl rfl rfl (SOps.nil ?_))))))
 refine SCode.cond rfl (fun hc1 => ?_) (fun hc1 => ?_)
 ·try simp only [nmL] at hc1
  refine SCode.skip ?_
  show SCode _ _ _ _
  refine SCode.seq (SCode.block (SCode.seqR (SOps.move rfl (SOps.move rfl (SOps.move rfl (SOps.indexM (i) rfl rfl sliceB_84_21_1 (by omega) (by omega) (SOps.loadPin rfl flatB_21 (SOps.callP (qIndex _ _) rfl ?_))))))))
  rintro _ rfl
  refine SOps.bin rfl rfl rfl (SOps.nil ?_)
  refine SCode.cond rfl (fun hc2 => ?_) (fun hc2 => ?_)
  ·try simp only [nmL] at hc2
   refine SCode.seqR (SOps.assign rfl (SOps.assign rfl (SOps.nil (SCode.ret ?_))))
   exact ⟨_, Res.two (.tmp rfl) (.tmp rfl), by rw [if_neg (fun h => by have := List.all_eq_true.1 h _ (List.getElem_mem (show i < (runes s).length by omega)); obtain ⟨k, hk⟩ := Option.isSome_iff_exists.1 this; rw [idxI_some hk] at hc2; omega)], rfl⟩
  ·try simp only [nmL] at hc2
   refine SCode.skip ?_
   show SCode _ _ _ _
   refine SCode.region (SOps.move rfl (SOps.addI rfl rfl (by omega) (by omega) (SOps.assign rfl (SOps.nil ?_))))
   exact ⟨i + 1, by exact ⟨by omega, take_more hf (by omega) (by obtain ⟨k, hk⟩ := idxI_nonneg.1 hc2; rw [hk]; rfl)⟩, by omega, (St.Le.of ⟨(by first | rfl | (show some _ = some _; simp)), (by first | rfl | (show some _ = some _; simp)), (by first | rfl | (show some _ = some _; simp)), (by first | rfl | (show some _ = some _; simp)), trivial⟩ rfl (by first | rfl | (simp)))⟩
 ·try simp only [nmL] at hc1
  refine SCode.exit ?_
  show SCode _ _ _ _
  refine SCode.seqR (SOps.move rfl (SOps.move rfl (SOps.callP (hV _) rfl ?_)))
  rintro _ rfl
  refine SOps.assign rfl (SOps.assign rfl (SOps.nil (SCode.ret ?_)))
  exact ⟨_, Res.two (.tmp rfl) (.tmp rfl), by rw [if_pos (show allL a s = true from List.all_eq_true.2 (all_of (by omega) hf))], rfl⟩
theorem qWord (hV : VS E) (a : List Letter) (s : ByteArray)  : GCall Tryd.prog E 42 [DLs a, .v (.string s)] [] (fun d H => d = .v (.bool (consS a 40 s)) ∧ H = []) := by
 refine GCall.body (C := ⟨Tryd.prog, E, true⟩) Tryd.func42 rfl (fun _ => rfl) (by kernel_rfl) rfl ?_
 refine SCode.seqR (SOps.assign rfl (SOps.nil (SCode.seqR (SOps.move rfl (SOps.move rfl ?_)))))
 rcases hal : allL a s with _ | _
 ·refine SOps.callP (qLetters hV a s) rfl ?_
  rintro _ rfl
  rw [hal]
  show SOps _ _ _ ⟨_, (10, .tup [.v (.slice none 0 0), .v (.bool false)]) :: _, _⟩ _
  refine SOps.move rfl (SOps.extract rfl rfl (SOps.extract rfl rfl (SOps.assign rfl (SOps.assign rfl (SOps.nil (SCode.seqR (SOps.move rfl (SOps.move rfl (SOps.skip rfl (SOps.skip rfl (SOps.skip rfl (SOps.pick rfl rfl (SOps.assign rfl (SOps.nil (SCode.ret ?_)))))))))))))))
  exact ⟨_, Res.one (.tmp rfl), congrArg (fun b => DV.v (.bool b)) (by rw [consS_eq, hal]; simp), rfl⟩
 ·refine SOps.callP (qLetters hV a s) rfl ?_
  rintro _ rfl
  rw [hal]
  show SOps _ _ _ ⟨_, (10, .tup [DRunes (runes s), .v (.bool (utf8R s))]) :: _, _⟩ _
  refine SOps.move rfl (SOps.extract rfl rfl (SOps.extract rfl rfl (SOps.assign rfl (SOps.assign rfl (SOps.nil (SCode.seqR (SOps.move rfl (SOps.move rfl ?_))))))))
  refine SOps.caseB 14 rfl (fun hb1 => ?_) (fun hb1 => ?_)
  ·try simp only [nmL] at hb1
   refine SOps.move rfl (SOps.lenM rfl sliceB_84_21_1 (SOps.bin rfl rfl rfl (SOps.pick rfl rfl (SOps.assign rfl (SOps.nil (SCode.ret ?_))))))
   exact ⟨_, Res.one (.tmp rfl), congrArg (fun b => DV.v (.bool b)) (by rw [consS_eq, hal, hb1]; rw [Bool.eq_iff_iff]; simp; omega), rfl⟩
  ·try simp only [nmL] at hb1
   refine SOps.skip rfl (SOps.skip rfl (SOps.skip rfl (SOps.pick rfl rfl (SOps.assign rfl (SOps.nil (SCode.ret ?_))))))
   exact ⟨_, Res.one (.tmp rfl), congrArg (fun b => DV.v (.bool b)) (by rw [consS_eq, hal, hb1]; rfl), rfl⟩
theorem qPattern (hV : VS E) (a : List Letter) (p : List Item)  : GCall Tryd.prog E 66 [DLs a, DIts p] [] (fun d H => d = .v (.bool (patB a p)) ∧ H = []) := by
 refine GCall.body (C := ⟨Tryd.prog, E, true⟩) Tryd.func66 rfl (fun _ => rfl) (by kernel_rfl) rfl ?_
 refine SCode.seqR (SOps.assign rfl (SOps.nil (SCode.seq (SCode.seqR (SOps.assign rfl (SOps.nil (SCode.block (SCode.loop1 (fun (i : Nat) => (⟨29, [(0, DLs a), (1, DIts p), (5, .v (.int .i64 (i : Int)))], []⟩ : St)) (fun (i : Nat) => i ≤ p.length ∧ ∀ x ∈ p.take i, overA a x.lets = true) (fun (i : Nat) => p.length - i) (0) (by simp) (St.Le.of ⟨(by first | rfl | (show some _ = some _; simp)), (by first | rfl | (show some _ = some _; simp)), (by first | rfl | (show some _ = some _; simp)), trivial⟩ rfl (by first | rfl | (simp))) ?_))))))))
 rintro i ⟨hi, hf⟩
 refine SCode.fact (isl_len (t := 1) rfl) (fun hB => ?_)
 simp only [List.length_map, lenB] at hB
 refine SCode.seq (SCode.seqR (SOps.move rfl (SOps.move rfl (SOps.lenM rfl sliceB_45_87_4 (SOps.bin rfl rfl rfl (SOps.nil ?_))))))
 refine SCode.cond rfl (fun hc1 => ?_) (fun hc1 => ?_)
 ·try simp only [nmL] at hc1
  refine SCode.skip ?_
  show SCode _ _ _ _
  refine SCode.seq (SCode.block (SCode.seqR (SOps.move rfl (SOps.move rfl (SOps.move rfl (SOps.indexM (i) rfl rfl sliceB_45_87_4 (by omega) (by omega) (SOps.fieldPin rfl fieldB_87_1_1 (SOps.loadPin rfl flatB_9 ?_))))))))
  have hi4 : i < p.length := by omega
  rcases hal : allL a (p[i]).lets with _ | _
  ·refine SOps.callP (qLetters hV a (p[i]).lets) rfl ?_
   rintro _ rfl
   rw [hal]
   show SOps _ _ _ ⟨_, (21, .tup [.v (.slice none 0 0), .v (.bool false)]) :: _, _⟩ _
   refine SOps.move rfl (SOps.extract rfl rfl (SOps.extract rfl rfl (SOps.assign rfl (SOps.assign rfl (SOps.nil (SCode.seqR (SOps.move rfl (SOps.un rfl rfl (SOps.nil ?_)))))))))
   refine SCode.cond rfl (fun _ => ?_) (fun h => by cases h)
   refine SCode.seqR (SOps.assign rfl (SOps.nil (SCode.ret ?_)))
   exact ⟨_, Res.one (.tmp rfl), congrArg (fun b => DV.v (.bool b)) (Eq.symm (Bool.eq_false_iff.2 (fun h => by simp only [patB, Bool.and_eq_true, List.all_eq_true] at h; have := h.2 _ (List.getElem_mem (show i < p.length by omega)); rw [overA_eq, hal] at this; simp at this))), rfl⟩
  ·refine SOps.callP (qLetters hV a (p[i]).lets) rfl ?_
   rintro _ rfl
   rw [hal]
   show SOps _ _ _ ⟨_, (21, .tup [DRunes (runes (p[i]).lets), .v (.bool (utf8R (p[i]).lets))]) :: _, _⟩ _
   refine SOps.move rfl (SOps.extract rfl rfl (SOps.extract rfl rfl (SOps.assign rfl (SOps.assign rfl (SOps.nil (SCode.seqR (SOps.move rfl (SOps.un rfl rfl (SOps.nil ?_)))))))))
   refine SCode.cond rfl (fun hc2 => ?_) (fun hc2 => ?_)
   ·try simp only [nmL] at hc2
    refine SCode.seqR (SOps.assign rfl (SOps.nil (SCode.ret ?_)))
    exact ⟨_, Res.one (.tmp rfl), congrArg (fun b => DV.v (.bool b)) (Eq.symm (Bool.eq_false_iff.2 (fun h => by simp only [patB, Bool.and_eq_true, List.all_eq_true] at h; have := h.2 _ (List.getElem_mem (show i < p.length by omega)); rw [overA_eq, hc2] at this; simp at this))), rfl⟩
   ·try simp only [nmL] at hc2
    refine SCode.skip ?_
    show SCode _ _ _ _
    refine SCode.region (SOps.move rfl (SOps.addI rfl rfl (by omega) (by omega) (SOps.assign rfl (SOps.nil ?_))))
    exact ⟨i + 1, by exact ⟨by omega, take_more hf (by omega) (by rw [overA_eq, hal, hc2]; rfl)⟩, by omega, (St.Le.of ⟨(by first | rfl | (show some _ = some _; simp)), (by first | rfl | (show some _ = some _; simp)), (by first | rfl | (show some _ = some _; simp)), trivial⟩ rfl (by first | rfl | (simp)))⟩
 ·try simp only [nmL] at hc1
  refine SCode.exit ?_
  show SCode _ _ _ _
  refine SCode.seqR (SOps.move rfl (SOps.lenM rfl sliceB_45_87_4 (SOps.bin rfl rfl rfl (SOps.assign rfl (SOps.nil (SCode.ret ?_))))))
  exact ⟨_, Res.one (.tmp rfl), congrArg (fun b => DV.v (.bool b)) (by rw [patB, List.all_eq_true.2 (all_of (by omega) hf), Bool.and_true, Bool.eq_iff_iff]; simp only [decide_eq_true_eq]; omega), rfl⟩
theorem rValid (hV : VS E) (a : List Letter) (r : Rule) (hr : SmR r) : GCall Tryd.prog E 34 [DLs a, .agg (encR r)] [] (fun d H => d = .v (.bool (validR a r)) ∧ H = []) := by
 obtain ⟨hr1, hp1, hp2⟩ := hr
 refine GCall.body (C := ⟨Tryd.prog, E, true⟩) Tryd.func34 rfl (fun _ => rfl) (by kernel_rfl) rfl ?_
 refine SCode.seqR (SOps.boxAM rfl rfl (SOps.assign rfl (SOps.nil (SCode.seqR (SOps.move rfl (SOps.assign rfl (SOps.nil (SCode.seq (SCode.seqR (SOps.move rfl (SOps.callP (lAdm _) rfl ?_)))))))))))
 rintro _ rfl
 refine SOps.un rfl rfl (SOps.move rfl ?_)
 refine SOps.caseB 10 rfl (fun hb1 => ?_) (fun hb1 => ?_)
 ·try simp only [nmL] at hb1
  refine SOps.skip rfl (SOps.skip rfl (SOps.skip rfl (SOps.skip rfl (SOps.skip rfl (SOps.skip rfl (SOps.skip rfl (SOps.skip rfl (SOps.skip rfl (SOps.skip rfl (SOps.pick rfl rfl (SOps.nil ?_)))))))))))
  refine SCode.cond rfl (fun _ => ?_) (fun h => by cases h)
  refine SCode.seqR (SOps.assign rfl (SOps.nil (SCode.ret ?_)))
  exact ⟨_, Res.one (.tmp rfl), congrArg (fun b => DV.v (.bool b)) (by simp_all [validR]), rfl⟩
 ·try simp only [nmL] at hb1
  refine SOps.fieldPin rfl fieldB_47_0_0 (SOps.loadPin rfl flatB_21 (SOps.bin rfl rfl rfl (SOps.move rfl ?_)))
  refine SOps.caseB 14 rfl (fun hb2 => ?_) (fun hb2 => ?_)
  ·try simp only [nmL] at hb2
   refine SOps.move rfl (SOps.fieldPin rfl fieldB_47_0_0 (SOps.loadPin rfl flatB_21 (SOps.callP (lHas _ _) rfl ?_)))
   rintro _ rfl
   refine SOps.un rfl rfl (SOps.pick rfl rfl (SOps.pick rfl rfl (SOps.nil ?_)))
   refine SCode.cond rfl (fun hc3 => ?_) (fun hc3 => ?_)
   ·try simp only [nmL] at hc3
    refine SCode.seqR (SOps.assign rfl (SOps.nil (SCode.ret ?_)))
    exact ⟨_, Res.one (.tmp rfl), congrArg (fun b => DV.v (.bool b)) (by simp_all [validR]), rfl⟩
   ·try simp only [nmL] at hc3
    refine SCode.skip ?_
    show SCode _ _ _ _
    refine SCode.seqR (SOps.fieldPin rfl fieldB_47_1_1 (SOps.loadPin rfl flatB_9 (SOps.move rfl (SOps.makeFuncB rfl (SOps.callP (lCons hV _ 4 _) rfl ?_)))))
    rintro _ rfl
    refine SOps.move rfl ?_
    refine SOps.caseB 27 rfl (fun hb4 => ?_) (fun hb4 => ?_)
    ·try simp only [nmL] at hb4
     refine SOps.move rfl (SOps.fieldPin rfl fieldB_47_2_2 (SOps.loadPin rfl flatB_45 (SOps.callP (pValid hV _ _ hp1) rfl ?_)))
     rintro _ rfl
     refine SOps.pick rfl rfl (SOps.move rfl ?_)
     refine SOps.caseB 33 rfl (fun hb5 => ?_) (fun hb5 => ?_)
     ·try simp only [nmL] at hb5
      refine SOps.move rfl (SOps.fieldPin rfl fieldB_47_3_3 (SOps.loadPin rfl flatB_45 (SOps.callP (pValid hV _ _ hp2) rfl ?_)))
      rintro _ rfl
      refine SOps.pick rfl rfl (SOps.assign rfl (SOps.nil (SCode.ret ?_)))
      exact ⟨_, Res.one (.tmp rfl), congrArg (fun b => DV.v (.bool b)) (by simp_all [validR]), rfl⟩
     ·try simp only [nmL] at hb5
      refine SOps.skip rfl (SOps.skip rfl (SOps.skip rfl (SOps.skip rfl (SOps.pick rfl rfl (SOps.assign rfl (SOps.nil (SCode.ret ?_)))))))
      exact ⟨_, Res.one (.tmp rfl), congrArg (fun b => DV.v (.bool b)) (by simp_all [validR]), rfl⟩
    ·try simp only [nmL] at hb4
     refine SOps.skip rfl (SOps.skip rfl (SOps.skip rfl (SOps.skip rfl (SOps.pick rfl rfl (SOps.move rfl (SOps.skip rfl (SOps.skip rfl (SOps.skip rfl (SOps.skip rfl (SOps.pick rfl rfl (SOps.assign rfl (SOps.nil (SCode.ret ?_)))))))))))))
     exact ⟨_, Res.one (.tmp rfl), congrArg (fun b => DV.v (.bool b)) (by simp_all [validR]), rfl⟩
  ·try simp only [nmL] at hb2
   refine SOps.skip rfl (SOps.skip rfl (SOps.skip rfl (SOps.skip rfl (SOps.skip rfl (SOps.pick rfl rfl (SOps.pick rfl rfl (SOps.nil ?_)))))))
   refine SCode.cond rfl (fun h => by cases h) (fun _ => ?_)
   refine SCode.skip ?_
   show SCode _ _ _ _
   refine SCode.seqR (SOps.fieldPin rfl fieldB_47_1_1 (SOps.loadPin rfl flatB_9 (SOps.move rfl (SOps.makeFuncB rfl (SOps.callP (lCons hV _ 4 _) rfl ?_)))))
   rintro _ rfl
   refine SOps.move rfl ?_
   refine SOps.caseB 27 rfl (fun hb6 => ?_) (fun hb6 => ?_)
   ·try simp only [nmL] at hb6
    refine SOps.move rfl (SOps.fieldPin rfl fieldB_47_2_2 (SOps.loadPin rfl flatB_45 (SOps.callP (pValid hV _ _ hp1) rfl ?_)))
    rintro _ rfl
    refine SOps.pick rfl rfl (SOps.move rfl ?_)
    refine SOps.caseB 33 rfl (fun hb7 => ?_) (fun hb7 => ?_)
    ·try simp only [nmL] at hb7
     refine SOps.move rfl (SOps.fieldPin rfl fieldB_47_3_3 (SOps.loadPin rfl flatB_45 (SOps.callP (pValid hV _ _ hp2) rfl ?_)))
     rintro _ rfl
     refine SOps.pick rfl rfl (SOps.assign rfl (SOps.nil (SCode.ret ?_)))
     exact ⟨_, Res.one (.tmp rfl), congrArg (fun b => DV.v (.bool b)) (by simp_all [validR]), rfl⟩
    ·try simp only [nmL] at hb7
     refine SOps.skip rfl (SOps.skip rfl (SOps.skip rfl (SOps.skip rfl (SOps.pick rfl rfl (SOps.assign rfl (SOps.nil (SCode.ret ?_)))))))
     exact ⟨_, Res.one (.tmp rfl), congrArg (fun b => DV.v (.bool b)) (by simp_all [validR]), rfl⟩
   ·try simp only [nmL] at hb6
    refine SOps.skip rfl (SOps.skip rfl (SOps.skip rfl (SOps.skip rfl (SOps.pick rfl rfl (SOps.move rfl (SOps.skip rfl (SOps.skip rfl (SOps.skip rfl (SOps.skip rfl (SOps.pick rfl rfl (SOps.assign rfl (SOps.nil (SCode.ret ?_)))))))))))))
    exact ⟨_, Res.one (.tmp rfl), congrArg (fun b => DV.v (.bool b)) (by simp_all [validR]), rfl⟩
theorem qValid (hV : VS E) (a : List Letter) (r : Rule)  : GCall Tryd.prog E 38 [DLs a, .agg (encR r)] [] (fun d H => d = .v (.bool (validR a r)) ∧ H = []) := by
 refine GCall.body (C := ⟨Tryd.prog, E, true⟩) Tryd.func38 rfl (fun _ => rfl) (by kernel_rfl) rfl ?_
 refine SCode.seqR (SOps.boxAM rfl rfl (SOps.assign rfl (SOps.nil (SCode.seqR (SOps.move rfl (SOps.fieldPin rfl fieldB_47_1_1 (SOps.loadPin rfl flatB_9 ?_)))))))
 rcases hal : allL a r.«to» with _ | _
 ·refine SOps.callP (qLetters hV a r.«to») rfl ?_
  rintro _ rfl
  rw [hal]
  show SOps _ _ _ ⟨_, (11, .tup [.v (.slice none 0 0), .v (.bool false)]) :: _, _⟩ _
  refine SOps.move rfl (SOps.extract rfl rfl (SOps.extract rfl rfl (SOps.assign rfl (SOps.assign rfl (SOps.nil (SCode.seqR (SOps.move rfl (SOps.callP (qAdm _) rfl ?_))))))))
  rintro _ rfl
  refine SOps.move rfl ?_
  refine SOps.caseB 16 rfl (fun hb1 => ?_) (fun hb1 => ?_)
  ·try simp only [nmL] at hb1
   refine SOps.fieldPin rfl fieldB_47_0_0 (SOps.loadPin rfl flatB_21 (SOps.bin rfl rfl rfl (SOps.move rfl ?_)))
   refine SOps.caseB 20 rfl (fun hb2 => ?_) (fun hb2 => ?_)
   ·try simp only [nmL] at hb2
    refine SOps.skip rfl (SOps.skip rfl (SOps.skip rfl (SOps.skip rfl (SOps.skip rfl (SOps.pick rfl rfl (SOps.pick rfl rfl (SOps.move rfl (SOps.move rfl (SOps.pick rfl rfl (SOps.move rfl (SOps.skip rfl (SOps.skip rfl (SOps.skip rfl (SOps.pick rfl rfl (SOps.move rfl (SOps.skip rfl (SOps.skip rfl (SOps.skip rfl (SOps.skip rfl (SOps.pick rfl rfl (SOps.move rfl (SOps.skip rfl (SOps.skip rfl (SOps.skip rfl (SOps.skip rfl (SOps.pick rfl rfl (SOps.assign rfl (SOps.nil (SCode.ret ?_)))))))))))))))))))))))))))))
    exact ⟨_, Res.one (.tmp rfl), congrArg (fun b => DV.v (.bool b)) (by rcases Classical.em ((runes r.«to»).length ≤ 4) with h4 | h4 <;> rcases hx : idx a r.fr with _ | k <;> first | (exfalso; omega) | (simp_all [validR, consS_eq, validPat_adm, idxI]; done) | (simp_all [validR, consS_eq, validPat_adm, idxI] <;> intros <;> omega)), rfl⟩
   ·try simp only [nmL] at hb2
    refine SOps.move rfl (SOps.fieldPin rfl fieldB_47_0_0 (SOps.loadPin rfl flatB_21 (SOps.callP (qIndex _ _) rfl ?_)))
    rintro _ rfl
    refine SOps.bin rfl rfl rfl (SOps.pick rfl rfl (SOps.pick rfl rfl (SOps.move rfl ?_)))
    refine SOps.caseB 28 rfl (fun hb3 => ?_) (fun hb3 => ?_)
    ·try simp only [nmL] at hb3
     refine SOps.move rfl (SOps.pick rfl rfl (SOps.move rfl (SOps.skip rfl (SOps.skip rfl (SOps.skip rfl (SOps.pick rfl rfl (SOps.move rfl (SOps.skip rfl (SOps.skip rfl (SOps.skip rfl (SOps.skip rfl (SOps.pick rfl rfl (SOps.move rfl (SOps.skip rfl (SOps.skip rfl (SOps.skip rfl (SOps.skip rfl (SOps.pick rfl rfl (SOps.assign rfl (SOps.nil (SCode.ret ?_)))))))))))))))))))))
     exact ⟨_, Res.one (.tmp rfl), congrArg (fun b => DV.v (.bool b)) (by rcases Classical.em ((runes r.«to»).length ≤ 4) with h4 | h4 <;> rcases hx : idx a r.fr with _ | k <;> first | (exfalso; omega) | (simp_all [validR, consS_eq, validPat_adm, idxI]; done) | (simp_all [validR, consS_eq, validPat_adm, idxI] <;> intros <;> omega)), rfl⟩
    ·try simp only [nmL] at hb3
     refine SOps.skip rfl (SOps.pick rfl rfl (SOps.move rfl (SOps.skip rfl (SOps.skip rfl (SOps.skip rfl (SOps.pick rfl rfl (SOps.move rfl (SOps.skip rfl (SOps.skip rfl (SOps.skip rfl (SOps.skip rfl (SOps.pick rfl rfl (SOps.move rfl (SOps.skip rfl (SOps.skip rfl (SOps.skip rfl (SOps.skip rfl (SOps.pick rfl rfl (SOps.assign rfl (SOps.nil (SCode.ret ?_)))))))))))))))))))))
     exact ⟨_, Res.one (.tmp rfl), congrArg (fun b => DV.v (.bool b)) (by rcases Classical.em ((runes r.«to»).length ≤ 4) with h4 | h4 <;> rcases hx : idx a r.fr with _ | k <;> first | (exfalso; omega) | (simp_all [validR, consS_eq, validPat_adm, idxI]; done) | (simp_all [validR, consS_eq, validPat_adm, idxI] <;> intros <;> omega)), rfl⟩
  ·try simp only [nmL] at hb1
   refine SOps.skip rfl (SOps.skip rfl (SOps.skip rfl (SOps.skip rfl (SOps.skip rfl (SOps.skip rfl (SOps.skip rfl (SOps.skip rfl (SOps.skip rfl (SOps.skip rfl (SOps.pick rfl rfl (SOps.move rfl (SOps.skip rfl (SOps.pick rfl rfl (SOps.move rfl (SOps.skip rfl (SOps.skip rfl (SOps.skip rfl (SOps.pick rfl rfl (SOps.move rfl (SOps.skip rfl (SOps.skip rfl (SOps.skip rfl (SOps.skip rfl (SOps.pick rfl rfl (SOps.move rfl (SOps.skip rfl (SOps.skip rfl (SOps.skip rfl (SOps.skip rfl (SOps.pick rfl rfl (SOps.assign rfl (SOps.nil (SCode.ret ?_)))))))))))))))))))))))))))))))))
   exact ⟨_, Res.one (.tmp rfl), congrArg (fun b => DV.v (.bool b)) (by rcases Classical.em ((runes r.«to»).length ≤ 4) with h4 | h4 <;> rcases hx : idx a r.fr with _ | k <;> first | (exfalso; omega) | (simp_all [validR, consS_eq, validPat_adm, idxI]; done) | (simp_all [validR, consS_eq, validPat_adm, idxI] <;> intros <;> omega)), rfl⟩
 ·refine SOps.callP (qLetters hV a r.«to») rfl ?_
  rintro _ rfl
  rw [hal]
  show SOps _ _ _ ⟨_, (11, .tup [DRunes (runes r.«to»), .v (.bool (utf8R r.«to»))]) :: _, _⟩ _
  refine SOps.move rfl (SOps.extract rfl rfl (SOps.extract rfl rfl (SOps.assign rfl (SOps.assign rfl (SOps.nil (SCode.seqR (SOps.move rfl (SOps.callP (qAdm _) rfl ?_))))))))
  rintro _ rfl
  refine SOps.move rfl ?_
  refine SOps.caseB 16 rfl (fun hb4 => ?_) (fun hb4 => ?_)
  ·try simp only [nmL] at hb4
   refine SOps.fieldPin rfl fieldB_47_0_0 (SOps.loadPin rfl flatB_21 (SOps.bin rfl rfl rfl (SOps.move rfl ?_)))
   refine SOps.caseB 20 rfl (fun hb5 => ?_) (fun hb5 => ?_)
   ·try simp only [nmL] at hb5
    refine SOps.skip rfl (SOps.skip rfl (SOps.skip rfl (SOps.skip rfl (SOps.skip rfl (SOps.pick rfl rfl (SOps.pick rfl rfl (SOps.move rfl (SOps.move rfl (SOps.pick rfl rfl (SOps.move rfl ?_))))))))))
    refine SOps.caseB 31 rfl (fun hb6 => ?_) (fun hb6 => ?_)
    ·try simp only [nmL] at hb6
     refine SOps.move rfl (SOps.lenM rfl sliceB_84_21_1 (SOps.bin rfl rfl rfl (SOps.pick rfl rfl (SOps.move rfl ?_))))
     refine SOps.caseB 36 rfl (fun hb7 => ?_) (fun hb7 => ?_)
     ·try simp only [nmL] at hb7
      refine SOps.move rfl (SOps.fieldPin rfl fieldB_47_2_2 (SOps.loadPin rfl flatB_45 (SOps.callP (qPattern hV _ _) rfl ?_)))
      rintro _ rfl
      refine SOps.pick rfl rfl (SOps.move rfl ?_)
      refine SOps.caseB 42 rfl (fun hb8 => ?_) (fun hb8 => ?_)
      ·try simp only [nmL] at hb8
       refine SOps.move rfl (SOps.fieldPin rfl fieldB_47_3_3 (SOps.loadPin rfl flatB_45 (SOps.callP (qPattern hV _ _) rfl ?_)))
       rintro _ rfl
       refine SOps.pick rfl rfl (SOps.assign rfl (SOps.nil (SCode.ret ?_)))
       exact ⟨_, Res.one (.tmp rfl), congrArg (fun b => DV.v (.bool b)) (by rcases Classical.em ((runes r.«to»).length ≤ 4) with h4 | h4 <;> rcases hx : idx a r.fr with _ | k <;> first | (exfalso; omega) | (simp_all [validR, consS_eq, validPat_adm, idxI]; done) | (simp_all [validR, consS_eq, validPat_adm, idxI] <;> intros <;> omega)), rfl⟩
      ·try simp only [nmL] at hb8
       refine SOps.skip rfl (SOps.skip rfl (SOps.skip rfl (SOps.skip rfl (SOps.pick rfl rfl (SOps.assign rfl (SOps.nil (SCode.ret ?_)))))))
       exact ⟨_, Res.one (.tmp rfl), congrArg (fun b => DV.v (.bool b)) (by rcases Classical.em ((runes r.«to»).length ≤ 4) with h4 | h4 <;> rcases hx : idx a r.fr with _ | k <;> first | (exfalso; omega) | (simp_all [validR, consS_eq, validPat_adm, idxI]; done) | (simp_all [validR, consS_eq, validPat_adm, idxI] <;> intros <;> omega)), rfl⟩
     ·try simp only [nmL] at hb7
      refine SOps.skip rfl (SOps.skip rfl (SOps.skip rfl (SOps.skip rfl (SOps.pick rfl rfl (SOps.move rfl (SOps.skip rfl (SOps.skip rfl (SOps.skip rfl (SOps.skip rfl (SOps.pick rfl rfl (SOps.assign rfl (SOps.nil (SCode.ret ?_)))))))))))))
      exact ⟨_, Res.one (.tmp rfl), congrArg (fun b => DV.v (.bool b)) (by rcases Classical.em ((runes r.«to»).length ≤ 4) with h4 | h4 <;> rcases hx : idx a r.fr with _ | k <;> first | (exfalso; omega) | (simp_all [validR, consS_eq, validPat_adm, idxI]; done) | (simp_all [validR, consS_eq, validPat_adm, idxI] <;> intros <;> omega)), rfl⟩
    ·try simp only [nmL] at hb6
     refine SOps.skip rfl (SOps.skip rfl (SOps.skip rfl (SOps.pick rfl rfl (SOps.move rfl (SOps.skip rfl (SOps.skip rfl (SOps.skip rfl (SOps.skip rfl (SOps.pick rfl rfl (SOps.move rfl (SOps.skip rfl (SOps.skip rfl (SOps.skip rfl (SOps.skip rfl (SOps.pick rfl rfl (SOps.assign rfl (SOps.nil (SCode.ret ?_))))))))))))))))))
     exact ⟨_, Res.one (.tmp rfl), congrArg (fun b => DV.v (.bool b)) (by rcases Classical.em ((runes r.«to»).length ≤ 4) with h4 | h4 <;> rcases hx : idx a r.fr with _ | k <;> first | (exfalso; omega) | (simp_all [validR, consS_eq, validPat_adm, idxI]; done) | (simp_all [validR, consS_eq, validPat_adm, idxI] <;> intros <;> omega)), rfl⟩
   ·try simp only [nmL] at hb5
    refine SOps.move rfl (SOps.fieldPin rfl fieldB_47_0_0 (SOps.loadPin rfl flatB_21 (SOps.callP (qIndex _ _) rfl ?_)))
    rintro _ rfl
    refine SOps.bin rfl rfl rfl (SOps.pick rfl rfl (SOps.pick rfl rfl (SOps.move rfl ?_)))
    refine SOps.caseB 28 rfl (fun hb9 => ?_) (fun hb9 => ?_)
    ·try simp only [nmL] at hb9
     refine SOps.move rfl (SOps.pick rfl rfl (SOps.move rfl ?_))
     refine SOps.caseB 31 rfl (fun hb10 => ?_) (fun hb10 => ?_)
     ·try simp only [nmL] at hb10
      refine SOps.move rfl (SOps.lenM rfl sliceB_84_21_1 (SOps.bin rfl rfl rfl (SOps.pick rfl rfl (SOps.move rfl ?_))))
      refine SOps.caseB 36 rfl (fun hb11 => ?_) (fun hb11 => ?_)
      ·try simp only [nmL] at hb11
       refine SOps.move rfl (SOps.fieldPin rfl fieldB_47_2_2 (SOps.loadPin rfl flatB_45 (SOps.callP (qPattern hV _ _) rfl ?_)))
       rintro _ rfl
       refine SOps.pick rfl rfl (SOps.move rfl ?_)
       refine SOps.caseB 42 rfl (fun hb12 => ?_) (fun hb12 => ?_)
       ·try simp only [nmL] at hb12
        refine SOps.move rfl (SOps.fieldPin rfl fieldB_47_3_3 (SOps.loadPin rfl flatB_45 (SOps.callP (qPattern hV _ _) rfl ?_)))
        rintro _ rfl
        refine SOps.pick rfl rfl (SOps.assign rfl (SOps.nil (SCode.ret ?_)))
        exact ⟨_, Res.one (.tmp rfl), congrArg (fun b => DV.v (.bool b)) (by rcases Classical.em ((runes r.«to»).length ≤ 4) with h4 | h4 <;> rcases hx : idx a r.fr with _ | k <;> first | (exfalso; omega) | (simp_all [validR, consS_eq, validPat_adm, idxI]; done) | (simp_all [validR, consS_eq, validPat_adm, idxI] <;> intros <;> omega)), rfl⟩
       ·try simp only [nmL] at hb12
        refine SOps.skip rfl (SOps.skip rfl (SOps.skip rfl (SOps.skip rfl (SOps.pick rfl rfl (SOps.assign rfl (SOps.nil (SCode.ret ?_)))))))
        exact ⟨_, Res.one (.tmp rfl), congrArg (fun b => DV.v (.bool b)) (by rcases Classical.em ((runes r.«to»).length ≤ 4) with h4 | h4 <;> rcases hx : idx a r.fr with _ | k <;> first | (exfalso; omega) | (simp_all [validR, consS_eq, validPat_adm, idxI]; done) | (simp_all [validR, consS_eq, validPat_adm, idxI] <;> intros <;> omega)), rfl⟩
      ·try simp only [nmL] at hb11
       refine SOps.skip rfl (SOps.skip rfl (SOps.skip rfl (SOps.skip rfl (SOps.pick rfl rfl (SOps.move rfl (SOps.skip rfl (SOps.skip rfl (SOps.skip rfl (SOps.skip rfl (SOps.pick rfl rfl (SOps.assign rfl (SOps.nil (SCode.ret ?_)))))))))))))
       exact ⟨_, Res.one (.tmp rfl), congrArg (fun b => DV.v (.bool b)) (by rcases Classical.em ((runes r.«to»).length ≤ 4) with h4 | h4 <;> rcases hx : idx a r.fr with _ | k <;> first | (exfalso; omega) | (simp_all [validR, consS_eq, validPat_adm, idxI]; done) | (simp_all [validR, consS_eq, validPat_adm, idxI] <;> intros <;> omega)), rfl⟩
     ·try simp only [nmL] at hb10
      refine SOps.skip rfl (SOps.skip rfl (SOps.skip rfl (SOps.pick rfl rfl (SOps.move rfl (SOps.skip rfl (SOps.skip rfl (SOps.skip rfl (SOps.skip rfl (SOps.pick rfl rfl (SOps.move rfl (SOps.skip rfl (SOps.skip rfl (SOps.skip rfl (SOps.skip rfl (SOps.pick rfl rfl (SOps.assign rfl (SOps.nil (SCode.ret ?_))))))))))))))))))
      exact ⟨_, Res.one (.tmp rfl), congrArg (fun b => DV.v (.bool b)) (by rcases Classical.em ((runes r.«to»).length ≤ 4) with h4 | h4 <;> rcases hx : idx a r.fr with _ | k <;> first | (exfalso; omega) | (simp_all [validR, consS_eq, validPat_adm, idxI]; done) | (simp_all [validR, consS_eq, validPat_adm, idxI] <;> intros <;> omega)), rfl⟩
    ·try simp only [nmL] at hb9
     refine SOps.skip rfl (SOps.pick rfl rfl (SOps.move rfl (SOps.skip rfl (SOps.skip rfl (SOps.skip rfl (SOps.pick rfl rfl (SOps.move rfl (SOps.skip rfl (SOps.skip rfl (SOps.skip rfl (SOps.skip rfl (SOps.pick rfl rfl (SOps.move rfl (SOps.skip rfl (SOps.skip rfl (SOps.skip rfl (SOps.skip rfl (SOps.pick rfl rfl (SOps.assign rfl (SOps.nil (SCode.ret ?_)))))))))))))))))))))
     exact ⟨_, Res.one (.tmp rfl), congrArg (fun b => DV.v (.bool b)) (by rcases Classical.em ((runes r.«to»).length ≤ 4) with h4 | h4 <;> rcases hx : idx a r.fr with _ | k <;> first | (exfalso; omega) | (simp_all [validR, consS_eq, validPat_adm, idxI]; done) | (simp_all [validR, consS_eq, validPat_adm, idxI] <;> intros <;> omega)), rfl⟩
  ·try simp only [nmL] at hb4
   refine SOps.skip rfl (SOps.skip rfl (SOps.skip rfl (SOps.skip rfl (SOps.skip rfl (SOps.skip rfl (SOps.skip rfl (SOps.skip rfl (SOps.skip rfl (SOps.skip rfl (SOps.pick rfl rfl (SOps.move rfl (SOps.skip rfl (SOps.pick rfl rfl (SOps.move rfl (SOps.skip rfl (SOps.skip rfl (SOps.skip rfl (SOps.pick rfl rfl (SOps.move rfl (SOps.skip rfl (SOps.skip rfl (SOps.skip rfl (SOps.skip rfl (SOps.pick rfl rfl (SOps.move rfl (SOps.skip rfl (SOps.skip rfl (SOps.skip rfl (SOps.skip rfl (SOps.pick rfl rfl (SOps.assign rfl (SOps.nil (SCode.ret ?_)))))))))))))))))))))))))))))))))
   exact ⟨_, Res.one (.tmp rfl), congrArg (fun b => DV.v (.bool b)) (by rcases Classical.em ((runes r.«to»).length ≤ 4) with h4 | h4 <;> rcases hx : idx a r.fr with _ | k <;> first | (exfalso; omega) | (simp_all [validR, consS_eq, validPat_adm, idxI]; done) | (simp_all [validR, consS_eq, validPat_adm, idxI] <;> intros <;> omega)), rfl⟩
theorem qHas (w : List Int) (r : Int)  : GCall Tryd.prog E 95 [DRunes w, .v (.int .i32 r)] [] (fun d H => d = .v (.bool (w.any (fun c => c == r))) ∧ H = []) := by
 refine GCall.body (C := ⟨Tryd.prog, E, true⟩) Tryd.func95 rfl (fun _ => rfl) (by kernel_rfl) rfl ?_
 refine SCode.seqR (SOps.assign rfl (SOps.nil (SCode.seq (SCode.seqR (SOps.assign rfl (SOps.nil (SCode.block (SCode.loop1 (fun (i : Nat) => (⟨18, [(0, DRunes w), (1, .v (.int .i32 r)), (5, .v (.int .i64 (i : Int)))], []⟩ : St)) (fun (i : Nat) => i ≤ w.length ∧ ∀ c ∈ w.take i, ¬ c = r) (fun (i : Nat) => w.length - i) (0) (by simp) (St.Le.of ⟨(by first | rfl | (show some _ = some _; simp)), (by first | rfl | (show some _ = some _; simp)), (by first | rfl | (show some _ = some _; simp)), trivial⟩ rfl (by first | rfl | (simp))) ?_))))))))
 rintro i ⟨hi, hf⟩
 refine SCode.fact (isl_len (t := 0) rfl) (fun hB => ?_)
 simp only [List.length_map, lenB] at hB
 refine SCode.seq (SCode.seqR (SOps.move rfl (SOps.move rfl (SOps.lenM rfl sliceB_84_21_1 (SOps.bin rfl rfl rfl (SOps.nil ?_))))))
 refine SCode.cond rfl (fun hc1 => ?_) (fun hc1 => ?_)
 ·try simp only [nmL] at hc1
  refine SCode.skip ?_
  show SCode _ _ _ _
  refine SCode.seq (SCode.block (SCode.seqR (SOps.move rfl (SOps.move rfl (SOps.indexM (i) rfl rfl sliceB_84_21_1 (by omega) (by omega) (SOps.loadPin rfl flatB_21 (SOps.move rfl (SOps.bin rfl rfl rfl (SOps.nil ?_)))))))))
  refine SCode.cond rfl (fun hc2 => ?_) (fun hc2 => ?_)
  ·try simp only [nmL] at hc2
   refine SCode.seqR (SOps.assign rfl (SOps.nil (SCode.ret ?_)))
   exact ⟨_, Res.one (.tmp rfl), congrArg (fun b => DV.v (.bool b)) (Eq.symm (List.any_eq_true.2 ⟨_, List.getElem_mem (show i < w.length by omega), by simpa using hc2⟩)), rfl⟩
  ·try simp only [nmL] at hc2
   refine SCode.skip ?_
   show SCode _ _ _ _
   refine SCode.region (SOps.move rfl (SOps.addI rfl rfl (by omega) (by omega) (SOps.assign rfl (SOps.nil ?_))))
   exact ⟨i + 1, by exact ⟨by omega, take_more hf (by omega) hc2⟩, by omega, (St.Le.of ⟨(by first | rfl | (show some _ = some _; simp)), (by first | rfl | (show some _ = some _; simp)), (by first | rfl | (show some _ = some _; simp)), trivial⟩ rfl (by first | rfl | (simp)))⟩
 ·try simp only [nmL] at hc1
  refine SCode.exit ?_
  show SCode _ _ _ _
  refine SCode.seqR (SOps.assign rfl (SOps.nil (SCode.ret ?_)))
  exact ⟨_, Res.one (.tmp rfl), congrArg (fun b => DV.v (.bool b)) (Eq.symm (Bool.eq_false_iff.2 (fun h => by obtain ⟨c, h1, h2⟩ := List.any_eq_true.1 h; exact all_of (by omega) hf c h1 (by simpa using h2)))), rfl⟩
theorem qAdmits (a : List Letter) (x : Item) (r : Int)  : GCall Tryd.prog E 89 [DLs a, .agg (encIt x), .v (.int .i32 r)] [] (fun d H => d = .v (.bool (rAdm a x r)) ∧ H = []) := by
 refine GCall.body (C := ⟨Tryd.prog, E, true⟩) Tryd.func89 rfl (fun _ => rfl) (by kernel_rfl) rfl ?_
 refine SCode.seqR (SOps.boxAM rfl rfl (SOps.assign rfl (SOps.nil (SCode.seqR (SOps.move rfl (SOps.move rfl (SOps.callP (qIndex _ _) rfl ?_)))))))
 rintro _ rfl
 refine SOps.assign rfl (SOps.nil (SCode.seq (SCode.seqR (SOps.move rfl (SOps.bin rfl rfl rfl (SOps.nil ?_))))))
 refine SCode.cond rfl (fun hc1 => ?_) (fun hc1 => ?_)
 ·try simp only [nmL] at hc1
  have hx : idx a r = none := by cases h : idx a r with | none => rfl | some k => rw [idxI_some h] at hc1; omega
  refine SCode.seqR (SOps.assign rfl (SOps.nil (SCode.ret ?_)))
  exact ⟨_, Res.one (.tmp rfl), congrArg (fun b => DV.v (.bool b)) (by rw [rAdm, hx]), rfl⟩
 ·try simp only [nmL] at hc1
  obtain ⟨k, hk⟩ := idxI_nonneg.1 hc1
  have hkl := idx_lt hk
  have hrn : (a[k]).rune = r := (idx_spec hk).2.1
  refine SCode.skip ?_
  show SCode _ _ _ _
  refine SCode.seq (SCode.weaken (st' := (⟨41, [(0, DLs a), (2, .v (.int .i32 r)), (4, .ipin (encIt x)), (7, .v (.int .i64 (idxI a r)))], []⟩ : St)) (St.Le.of ⟨rfl, rfl, rfl, rfl, trivial⟩) ?_)
  rcases (show hasC (a[k]).cls x.mask = false ∨ (hasC (a[k]).cls x.mask = true ∧ x.lets = ⟨#[]⟩) ∨ (hasC (a[k]).cls x.mask = true ∧ ¬ x.lets = ⟨#[]⟩) from by rcases h : hasC (a[k]).cls x.mask with _ | _ <;> simp <;> exact Classical.em _) with hq | ⟨hq, hq2⟩ | ⟨hq, hq2⟩
  ·refine SCode.drawPure mixed_ [(14, DLs a), (15, .v (.int .i64 (idxI a r))), (16, .ipin (encL (a[k]))), (17, .ipin ((encL (a[k])).drop 1)), (18, .v (.int .u32 (a[k]).cls)), (19, .ipin ((encIt x).drop 0)), (20, .v (.int .u32 x.mask)), (21, .v (.int .u32 (andU (a[k]).cls x.mask))), (22, .ipin ((encIt x).drop 0)), (23, .v (.int .u32 x.mask)), (24, .v (.bool false)), (25, .v (.bool false)), (26, .v (.tuple #[])), (27, .v (.tuple #[])), (28, .v (.tuple #[])), (29, .v (.tuple #[])), (30, .v (.tuple #[])), (31, .v (.tuple #[])), (32, .v (.tuple #[])), (33, .v (.tuple #[])), (34, .v (.tuple #[])), (35, .v (.tuple #[])), (36, .v (.bool false)), (8, .v (.bool false))] [14, 15, 16, 17, 18, 19, 20, 21, 22, 23, 24, 25, 26, 27, 28, 29, 30, 31, 32, 33, 34, 35, 36, 8] [[.inr 0], [.inr 7], [.inl 0, .inl 1], [.inl 2], [.inl 3], [.inr 4], [.inl 5], [.inl 4, .inl 6], [.inr 4], [.inl 8], [.inl 7, .inl 9], [.inl 10], [.inl 11], [.inl 11], [.inl 11], [.inl 11], [.inl 15], [.inl 15], [.inl 15], [.inl 15], [.inl 15], [.inl 11], [.inl 11, .inl 21], [.inl 22]] [[(0, DLs a)], [(7, .v (.int .i64 (idxI a r)))], [(14, DLs a), (15, .v (.int .i64 (idxI a r)))], [(16, .ipin (encL (a[k])))], [(17, .ipin ((encL (a[k])).drop 1))], [(4, .ipin (encIt x))], [(19, .ipin ((encIt x).drop 0))], [(18, .v (.int .u32 (a[k]).cls)), (20, .v (.int .u32 x.mask))], [(4, .ipin (encIt x))], [(22, .ipin ((encIt x).drop 0))], [(21, .v (.int .u32 (andU (a[k]).cls x.mask))), (23, .v (.int .u32 x.mask))], [(24, .v (.bool false))], [(25, .v (.bool false))], [(25, .v (.bool false))], [(25, .v (.bool false))], [(25, .v (.bool false))], [(29, .v (.tuple #[]))], [(29, .v (.tuple #[]))], [(29, .v (.tuple #[]))], [(29, .v (.tuple #[]))], [(29, .v (.tuple #[]))], [(25, .v (.bool false))], [(25, .v (.bool false)), (35, .v (.tuple #[]))], [(36, .v (.bool false))]] rfl (by kernel_rfl) (by kernel_rfl) rfl ?_ ?_
   ·refine OpsOk.cons (fun rest => ?_) ?_
    ·refine SOps.move rfl ?_
     exact SOps.nil (by first | rfl | simp_all)
    refine OpsOk.cons (fun rest => ?_) ?_
    ·refine SOps.move rfl ?_
     exact SOps.nil (by first | rfl | simp_all)
    refine OpsOk.cons (fun rest => ?_) ?_
    ·refine SOps.indexM (k) rfl rfl sliceB_22_28_2 (by first | omega | exact idxI_some hk) (by first | omega | exact idxI_some hk) ?_
     exact SOps.nil (by first | rfl | simp_all)
    refine OpsOk.cons (fun rest => ?_) ?_
    ·refine SOps.fieldPin rfl fieldB_28_1_1 ?_
     exact SOps.nil (by first | rfl | simp_all)
    refine OpsOk.cons (fun rest => ?_) ?_
    ·refine SOps.loadPin rfl flatB_26 ?_
     exact SOps.nil (by first | rfl | simp_all)
    refine OpsOk.cons (fun rest => ?_) ?_
    ·refine SOps.fieldPin rfl fieldB_87_0_0 ?_
     exact SOps.nil (by first | rfl | simp_all)
    refine OpsOk.cons (fun rest => ?_) ?_
    ·refine SOps.loadPin rfl flatB_26 ?_
     exact SOps.nil (by first | rfl | simp_all)
    refine OpsOk.cons (fun rest => ?_) ?_
    ·refine SOps.bits rfl rfl rfl ?_
     exact SOps.nil (by first | rfl | simp_all)
    refine OpsOk.cons (fun rest => ?_) ?_
    ·refine SOps.fieldPin rfl fieldB_87_0_0 ?_
     exact SOps.nil (by first | rfl | simp_all)
    refine OpsOk.cons (fun rest => ?_) ?_
    ·refine SOps.loadPin rfl flatB_26 ?_
     exact SOps.nil (by first | rfl | simp_all)
    refine OpsOk.cons (fun rest => ?_) ?_
    ·refine SOps.bin rfl rfl rfl ?_
     exact SOps.nil (by first | rfl | exact congrArg (fun b => St.put _ _ (.v (.bool b))) hq)
    refine OpsOk.cons (fun rest => ?_) ?_
    ·refine SOps.move rfl ?_
     exact SOps.nil (by first | rfl | simp_all)
    refine OpsOk.cons (fun rest => ?_) ?_
    ·refine SOps.skip rfl ?_
     exact SOps.nil (by first | rfl | simp_all)
    refine OpsOk.cons (fun rest => ?_) ?_
    ·refine SOps.skip rfl ?_
     exact SOps.nil (by first | rfl | simp_all)
    refine OpsOk.cons (fun rest => ?_) ?_
    ·refine SOps.skip rfl ?_
     exact SOps.nil (by first | rfl | simp_all)
    refine OpsOk.cons (fun rest => ?_) ?_
    ·refine SOps.skip rfl ?_
     exact SOps.nil (by first | rfl | simp_all)
    refine OpsOk.cons (fun rest => ?_) ?_
    ·refine SOps.skip rfl ?_
     exact SOps.nil (by first | rfl | simp_all)
    refine OpsOk.cons (fun rest => ?_) ?_
    ·refine SOps.skip rfl ?_
     exact SOps.nil (by first | rfl | simp_all)
    refine OpsOk.cons (fun rest => ?_) ?_
    ·refine SOps.skip rfl ?_
     exact SOps.nil (by first | rfl | simp_all)
    refine OpsOk.cons (fun rest => ?_) ?_
    ·refine SOps.skip rfl ?_
     exact SOps.nil (by first | rfl | simp_all)
    refine OpsOk.cons (fun rest => ?_) ?_
    ·refine SOps.skip rfl ?_
     exact SOps.nil (by first | rfl | simp_all)
    refine OpsOk.cons (fun rest => ?_) ?_
    ·refine SOps.skip rfl ?_
     exact SOps.nil (by first | rfl | simp_all)
    refine OpsOk.cons (fun rest => ?_) ?_
    ·refine SOps.pick rfl rfl ?_
     exact SOps.nil (by first | rfl | simp_all)
    refine OpsOk.cons (fun rest => ?_) ?_
    ·refine SOps.assign rfl ?_
     exact SOps.nil (by first | rfl | simp_all)
    exact OpsOk.nil
   ·show SCode _ _ _ _
    refine SCode.seqR (SOps.move rfl (SOps.fieldPin rfl fieldB_87_2_2 (SOps.loadPin rfl flatB_4 (SOps.boolNe rfl rfl boolTy_4 (SOps.assign rfl (SOps.nil (SCode.ret ?_)))))))
    exact ⟨_, Res.one (.tmp rfl), congrArg (fun b => DV.v (.bool b)) (by rw [rAdm, hk]; simp only [admB, atL_lt hkl, hq, Bool.false_and]), rfl⟩
  ·refine SCode.drawPure mixed_ [(14, DLs a), (15, .v (.int .i64 (idxI a r))), (16, .ipin (encL (a[k]))), (17, .ipin ((encL (a[k])).drop 1)), (18, .v (.int .u32 (a[k]).cls)), (19, .ipin ((encIt x).drop 0)), (20, .v (.int .u32 x.mask)), (21, .v (.int .u32 (andU (a[k]).cls x.mask))), (22, .ipin ((encIt x).drop 0)), (23, .v (.int .u32 x.mask)), (24, .v (.bool true)), (25, .v (.bool true)), (26, .ipin ((encIt x).drop 1)), (27, .v (.string x.lets)), (28, .v (.bool true)), (29, .v (.bool true)), (30, .v (.tuple #[])), (31, .v (.tuple #[])), (32, .v (.tuple #[])), (33, .v (.tuple #[])), (34, .v (.tuple #[])), (35, .v (.bool true)), (36, .v (.bool true)), (8, .v (.bool true))] [14, 15, 16, 17, 18, 19, 20, 21, 22, 23, 24, 25, 26, 27, 28, 29, 30, 31, 32, 33, 34, 35, 36, 8] [[.inr 0], [.inr 7], [.inl 0, .inl 1], [.inl 2], [.inl 3], [.inr 4], [.inl 5], [.inl 4, .inl 6], [.inr 4], [.inl 8], [.inl 7, .inl 9], [.inl 10], [.inl 11, .inr 4], [.inl 11, .inl 12], [.inl 11, .inl 13], [.inl 11, .inl 14], [.inl 15], [.inl 15], [.inl 15], [.inl 15], [.inl 15], [.inl 11, .inl 15, .inl 20], [.inl 11, .inl 21], [.inl 22]] [[(0, DLs a)], [(7, .v (.int .i64 (idxI a r)))], [(14, DLs a), (15, .v (.int .i64 (idxI a r)))], [(16, .ipin (encL (a[k])))], [(17, .ipin ((encL (a[k])).drop 1))], [(4, .ipin (encIt x))], [(19, .ipin ((encIt x).drop 0))], [(18, .v (.int .u32 (a[k]).cls)), (20, .v (.int .u32 x.mask))], [(4, .ipin (encIt x))], [(22, .ipin ((encIt x).drop 0))], [(21, .v (.int .u32 (andU (a[k]).cls x.mask))), (23, .v (.int .u32 x.mask))], [(24, .v (.bool true))], [(25, .v (.bool true)), (4, .ipin (encIt x))], [(25, .v (.bool true)), (26, .ipin ((encIt x).drop 1))], [(25, .v (.bool true)), (27, .v (.string x.lets))], [(25, .v (.bool true)), (28, .v (.bool true))], [(29, .v (.bool true))], [(29, .v (.bool true))], [(29, .v (.bool true))], [(29, .v (.bool true))], [(29, .v (.bool true))], [(25, .v (.bool true)), (29, .v (.bool true)), (34, .v (.tuple #[]))], [(25, .v (.bool true)), (35, .v (.bool true))], [(36, .v (.bool true))]] rfl (by kernel_rfl) (by kernel_rfl) rfl ?_ ?_
   ·refine OpsOk.cons (fun rest => ?_) ?_
    ·refine SOps.move rfl ?_
     exact SOps.nil (by first | rfl | simp_all)
    refine OpsOk.cons (fun rest => ?_) ?_
    ·refine SOps.move rfl ?_
     exact SOps.nil (by first | rfl | simp_all)
    refine OpsOk.cons (fun rest => ?_) ?_
    ·refine SOps.indexM (k) rfl rfl sliceB_22_28_2 (by first | omega | exact idxI_some hk) (by first | omega | exact idxI_some hk) ?_
     exact SOps.nil (by first | rfl | simp_all)
    refine OpsOk.cons (fun rest => ?_) ?_
    ·refine SOps.fieldPin rfl fieldB_28_1_1 ?_
     exact SOps.nil (by first | rfl | simp_all)
    refine OpsOk.cons (fun rest => ?_) ?_
    ·refine SOps.loadPin rfl flatB_26 ?_
     exact SOps.nil (by first | rfl | simp_all)
    refine OpsOk.cons (fun rest => ?_) ?_
    ·refine SOps.fieldPin rfl fieldB_87_0_0 ?_
     exact SOps.nil (by first | rfl | simp_all)
    refine OpsOk.cons (fun rest => ?_) ?_
    ·refine SOps.loadPin rfl flatB_26 ?_
     exact SOps.nil (by first | rfl | simp_all)
    refine OpsOk.cons (fun rest => ?_) ?_
    ·refine SOps.bits rfl rfl rfl ?_
     exact SOps.nil (by first | rfl | simp_all)
    refine OpsOk.cons (fun rest => ?_) ?_
    ·refine SOps.fieldPin rfl fieldB_87_0_0 ?_
     exact SOps.nil (by first | rfl | simp_all)
    refine OpsOk.cons (fun rest => ?_) ?_
    ·refine SOps.loadPin rfl flatB_26 ?_
     exact SOps.nil (by first | rfl | simp_all)
    refine OpsOk.cons (fun rest => ?_) ?_
    ·refine SOps.bin rfl rfl rfl ?_
     exact SOps.nil (by first | rfl | exact congrArg (fun b => St.put _ _ (.v (.bool b))) hq)
    refine OpsOk.cons (fun rest => ?_) ?_
    ·refine SOps.move rfl ?_
     exact SOps.nil (by first | rfl | simp_all)
    refine OpsOk.cons (fun rest => ?_) ?_
    ·refine SOps.fieldPin rfl fieldB_87_1_1 ?_
     exact SOps.nil (by first | rfl | simp_all)
    refine OpsOk.cons (fun rest => ?_) ?_
    ·refine SOps.loadPin rfl flatB_9 ?_
     exact SOps.nil (by first | rfl | simp_all)
    refine OpsOk.cons (fun rest => ?_) ?_
    ·refine SOps.bin rfl rfl rfl ?_
     exact SOps.nil (by simp only [decide_eq_true hq2]; rfl)
    refine OpsOk.cons (fun rest => ?_) ?_
    ·refine SOps.move rfl ?_
     exact SOps.nil (by first | rfl | simp_all)
    refine OpsOk.cons (fun rest => ?_) ?_
    ·refine SOps.skip rfl ?_
     exact SOps.nil (by first | rfl | simp_all)
    refine OpsOk.cons (fun rest => ?_) ?_
    ·refine SOps.skip rfl ?_
     exact SOps.nil (by first | rfl | simp_all)
    refine OpsOk.cons (fun rest => ?_) ?_
    ·refine SOps.skip rfl ?_
     exact SOps.nil (by first | rfl | simp_all)
    refine OpsOk.cons (fun rest => ?_) ?_
    ·refine SOps.skip rfl ?_
     exact SOps.nil (by first | rfl | simp_all)
    refine OpsOk.cons (fun rest => ?_) ?_
    ·refine SOps.skip rfl ?_
     exact SOps.nil (by first | rfl | simp_all)
    refine OpsOk.cons (fun rest => ?_) ?_
    ·refine SOps.pick rfl rfl ?_
     exact SOps.nil (by first | rfl | simp_all)
    refine OpsOk.cons (fun rest => ?_) ?_
    ·refine SOps.pick rfl rfl ?_
     exact SOps.nil (by first | rfl | simp_all)
    refine OpsOk.cons (fun rest => ?_) ?_
    ·refine SOps.assign rfl ?_
     exact SOps.nil (by first | rfl | simp_all)
    exact OpsOk.nil
   ·show SCode _ _ _ _
    refine SCode.seqR (SOps.move rfl (SOps.fieldPin rfl fieldB_87_2_2 (SOps.loadPin rfl flatB_4 (SOps.boolNe rfl rfl boolTy_4 (SOps.assign rfl (SOps.nil (SCode.ret ?_)))))))
    exact ⟨_, Res.one (.tmp rfl), congrArg (fun b => DV.v (.bool b)) (by rw [rAdm, hk]; simp only [admB, atL_lt hkl, hq, decide_eq_true hq2, Bool.true_or, Bool.true_and]), rfl⟩
  ·refine SCode.drawPure mixed_ [(14, DLs a), (15, .v (.int .i64 (idxI a r))), (16, .ipin (encL (a[k]))), (17, .ipin ((encL (a[k])).drop 1)), (18, .v (.int .u32 (a[k]).cls)), (19, .ipin ((encIt x).drop 0)), (20, .v (.int .u32 x.mask)), (21, .v (.int .u32 (andU (a[k]).cls x.mask))), (22, .ipin ((encIt x).drop 0)), (23, .v (.int .u32 x.mask)), (24, .v (.bool true)), (25, .v (.bool true)), (26, .ipin ((encIt x).drop 1)), (27, .v (.string x.lets)), (28, .v (.bool false)), (29, .v (.bool false)), (30, .ipin ((encIt x).drop 1)), (31, .v (.string x.lets)), (32, DRunes (runes x.lets)), (33, .v (.int .i32 r)), (34, .v (.bool (listed x.lets r))), (35, .v (.bool (listed x.lets r))), (36, .v (.bool (listed x.lets r))), (8, .v (.bool (listed x.lets r)))] [14, 15, 16, 17, 18, 19, 20, 21, 22, 23, 24, 25, 26, 27, 28, 29, 30, 31, 32, 33, 34, 35, 36, 8] [[.inr 0], [.inr 7], [.inl 0, .inl 1], [.inl 2], [.inl 3], [.inr 4], [.inl 5], [.inl 4, .inl 6], [.inr 4], [.inl 8], [.inl 7, .inl 9], [.inl 10], [.inl 11, .inr 4], [.inl 11, .inl 12], [.inl 11, .inl 13], [.inl 11, .inl 14], [.inl 15, .inr 4], [.inl 15, .inl 16], [.inl 15, .inl 17], [.inl 15, .inr 2], [.inl 15, .inl 18, .inl 19], [.inl 11, .inl 15, .inl 20], [.inl 11, .inl 21], [.inl 22]] [[(0, DLs a)], [(7, .v (.int .i64 (idxI a r)))], [(14, DLs a), (15, .v (.int .i64 (idxI a r)))], [(16, .ipin (encL (a[k])))], [(17, .ipin ((encL (a[k])).drop 1))], [(4, .ipin (encIt x))], [(19, .ipin ((encIt x).drop 0))], [(18, .v (.int .u32 (a[k]).cls)), (20, .v (.int .u32 x.mask))], [(4, .ipin (encIt x))], [(22, .ipin ((encIt x).drop 0))], [(21, .v (.int .u32 (andU (a[k]).cls x.mask))), (23, .v (.int .u32 x.mask))], [(24, .v (.bool true))], [(25, .v (.bool true)), (4, .ipin (encIt x))], [(25, .v (.bool true)), (26, .ipin ((encIt x).drop 1))], [(25, .v (.bool true)), (27, .v (.string x.lets))], [(25, .v (.bool true)), (28, .v (.bool false))], [(29, .v (.bool false)), (4, .ipin (encIt x))], [(29, .v (.bool false)), (30, .ipin ((encIt x).drop 1))], [(29, .v (.bool false)), (31, .v (.string x.lets))], [(29, .v (.bool false)), (2, .v (.int .i32 r))], [(29, .v (.bool false)), (32, DRunes (runes x.lets)), (33, .v (.int .i32 r))], [(25, .v (.bool true)), (29, .v (.bool false)), (34, .v (.bool (listed x.lets r)))], [(25, .v (.bool true)), (35, .v (.bool (listed x.lets r)))], [(36, .v (.bool (listed x.lets r)))]] rfl (by kernel_rfl) (by kernel_rfl) rfl ?_ ?_
   ·refine OpsOk.cons (fun rest => ?_) ?_
    ·refine SOps.move rfl ?_
     exact SOps.nil (by first | rfl | simp_all)
    refine OpsOk.cons (fun rest => ?_) ?_
    ·refine SOps.move rfl ?_
     exact SOps.nil (by first | rfl | simp_all)
    refine OpsOk.cons (fun rest => ?_) ?_
    ·refine SOps.indexM (k) rfl rfl sliceB_22_28_2 (by first | omega | exact idxI_some hk) (by first | omega | exact idxI_some hk) ?_
     exact SOps.nil (by first | rfl | simp_all)
    refine OpsOk.cons (fun rest => ?_) ?_
    ·refine SOps.fieldPin rfl fieldB_28_1_1 ?_
     exact SOps.nil (by first | rfl | simp_all)
    refine OpsOk.cons (fun rest => ?_) ?_
    ·refine SOps.loadPin rfl flatB_26 ?_
     exact SOps.nil (by first | rfl | simp_all)
    refine OpsOk.cons (fun rest => ?_) ?_
    ·refine SOps.fieldPin rfl fieldB_87_0_0 ?_
     exact SOps.nil (by first | rfl | simp_all)
    refine OpsOk.cons (fun rest => ?_) ?_
    ·refine SOps.loadPin rfl flatB_26 ?_
     exact SOps.nil (by first | rfl | simp_all)
    refine OpsOk.cons (fun rest => ?_) ?_
    ·refine SOps.bits rfl rfl rfl ?_
     exact SOps.nil (by first | rfl | simp_all)
    refine OpsOk.cons (fun rest => ?_) ?_
    ·refine SOps.fieldPin rfl fieldB_87_0_0 ?_
     exact SOps.nil (by first | rfl | simp_all)
    refine OpsOk.cons (fun rest => ?_) ?_
    ·refine SOps.loadPin rfl flatB_26 ?_
     exact SOps.nil (by first | rfl | simp_all)
    refine OpsOk.cons (fun rest => ?_) ?_
    ·refine SOps.bin rfl rfl rfl ?_
     exact SOps.nil (by first | rfl | exact congrArg (fun b => St.put _ _ (.v (.bool b))) hq)
    refine OpsOk.cons (fun rest => ?_) ?_
    ·refine SOps.move rfl ?_
     exact SOps.nil (by first | rfl | simp_all)
    refine OpsOk.cons (fun rest => ?_) ?_
    ·refine SOps.fieldPin rfl fieldB_87_1_1 ?_
     exact SOps.nil (by first | rfl | simp_all)
    refine OpsOk.cons (fun rest => ?_) ?_
    ·refine SOps.loadPin rfl flatB_9 ?_
     exact SOps.nil (by first | rfl | simp_all)
    refine OpsOk.cons (fun rest => ?_) ?_
    ·refine SOps.bin rfl rfl rfl ?_
     exact SOps.nil (by simp only [decide_eq_false hq2]; rfl)
    refine OpsOk.cons (fun rest => ?_) ?_
    ·refine SOps.move rfl ?_
     exact SOps.nil (by first | rfl | simp_all)
    refine OpsOk.cons (fun rest => ?_) ?_
    ·refine SOps.fieldPin rfl fieldB_87_1_1 ?_
     exact SOps.nil (by first | rfl | simp_all)
    refine OpsOk.cons (fun rest => ?_) ?_
    ·refine SOps.loadPin rfl flatB_9 ?_
     exact SOps.nil (by first | rfl | simp_all)
    refine OpsOk.cons (fun rest => ?_) ?_
    ·refine SOps.runesF rfl rfl strB_9 sliceB_84_21_1 intB_21_i32 ?_
     exact SOps.nil (by first | rfl | simp_all)
    refine OpsOk.cons (fun rest => ?_) ?_
    ·refine SOps.move rfl ?_
     exact SOps.nil (by first | rfl | simp_all)
    refine OpsOk.cons (fun rest => ?_) ?_
    ·refine SOps.callP (qHas _ _) rfl ?_
     rintro _ rfl
     exact SOps.nil (by first | rfl | simp_all)
    refine OpsOk.cons (fun rest => ?_) ?_
    ·refine SOps.pick rfl rfl ?_
     exact SOps.nil (by first | rfl | simp_all)
    refine OpsOk.cons (fun rest => ?_) ?_
    ·refine SOps.pick rfl rfl ?_
     exact SOps.nil (by first | rfl | simp_all)
    refine OpsOk.cons (fun rest => ?_) ?_
    ·refine SOps.assign rfl ?_
     exact SOps.nil (by first | rfl | simp_all)
    exact OpsOk.nil
   ·show SCode _ _ _ _
    refine SCode.seqR (SOps.move rfl (SOps.fieldPin rfl fieldB_87_2_2 (SOps.loadPin rfl flatB_4 (SOps.boolNe rfl rfl boolTy_4 (SOps.assign rfl (SOps.nil (SCode.ret ?_)))))))
    exact ⟨_, Res.one (.tmp rfl), congrArg (fun b => DV.v (.bool b)) (by rw [rAdm, hk]; simp only [admB, atL_lt hkl, hq, decide_eq_false hq2, Bool.false_or, Bool.true_and, hrn]), rfl⟩
theorem qMatches1 (a : List Letter) (p : List Item) (w : List Int) (ih : ∀ (p1 : List Item) (w1 : List Int), p1.length + w1.length < p.length + w.length → GCall Tryd.prog E 77 [DLs a, DIts p1, DRunes w1] [] (fun d H => d = .v (.bool (Mr a p1 w1)) ∧ H = [])) : GCall Tryd.prog E 77 [DLs a, DIts p, DRunes w] [] (fun d H => d = .v (.bool (Mr a p w)) ∧ H = []) := by
 refine GCall.body (C := ⟨Tryd.prog, E, true⟩) Tryd.func77 rfl (fun _ => rfl) (by kernel_rfl) rfl ?_
 refine SCode.seqR (SOps.assign rfl (SOps.nil (SCode.seq (SCode.seqR (SOps.move rfl (SOps.lenM rfl sliceB_45_87_4 (SOps.bin rfl rfl rfl (SOps.nil ?_))))))))
 refine SCode.cond rfl (fun hc1 => ?_) (fun hc1 => ?_)
 ·try simp only [nmL] at hc1
  refine SCode.seqR (SOps.move rfl (SOps.lenM rfl sliceB_84_21_1 (SOps.bin rfl rfl rfl (SOps.assign rfl (SOps.nil (SCode.ret ?_))))))
  exact ⟨_, Res.one (.tmp rfl), congrArg (fun b => DV.v (.bool b)) (by cases p with | nil => (cases w with | nil => rfl | cons c w0 => exact beq_eq_false_iff_ne.2 (by simp only [List.length_cons]; omega)) | cons x q => (simp only [List.length_cons] at hc1; omega)), rfl⟩
 ·try simp only [nmL] at hc1
  refine SCode.skip ?_
  show SCode _ _ _ _
  refine SCode.seq (SCode.seqR ?_)
  obtain ⟨x, q, rfl⟩ : ∃ x q, p = x :: q := by cases p with | nil => exact absurd rfl hc1 | cons x q => exact ⟨x, q, rfl⟩
  refine SOps.move rfl (SOps.indexM (0) rfl rfl sliceB_45_87_4 (by first | omega | (simp; done)) (by first | omega | (simp; done)) (SOps.fieldPin rfl fieldB_87_3_3 (SOps.loadPin rfl flatB_4 (SOps.move rfl ?_))))
  refine SOps.caseB 17 rfl (fun hb2 => ?_) (fun hb2 => ?_)
  ·try simp only [nmL] at hb2
   refine SOps.move rfl (SOps.move rfl (SOps.sliceD (n1 := 0) (1) sliceB_45_87_4 rfl rfl (by first | omega | (simp; done)) (by first | omega | (simp; done)) (SOps.move rfl (SOps.callP (ih q w (by simp)) rfl ?_))))
   rintro _ rfl
   refine SOps.pick rfl rfl (SOps.nil ?_)
   refine SCode.cond rfl (fun hc3 => ?_) (fun hc3 => ?_)
   ·try simp only [nmL] at hc3
    refine SCode.seqR (SOps.assign rfl (SOps.nil (SCode.ret ?_)))
    exact ⟨_, Res.one (.tmp rfl), congrArg (fun b => DV.v (.bool b)) ((M_rep_skip (rAdm a) (x := x) hb2 hc3).symm), rfl⟩
   ·try simp only [nmL] at hc3
    refine SCode.skip ?_
    show SCode _ _ _ _
    refine SCode.seq (SCode.seq (SCode.weaken (st' := (⟨53, [(0, DLs a), (1, DIts (x :: q)), (2, DRunes w)], []⟩ : St)) (St.Le.of ⟨rfl, rfl, rfl, trivial⟩) ?_))
    rcases w with _ | ⟨c, w0⟩
    ·refine SCode.drawPure mixed_ [(24, DRunes []), (25, .v (.int .i64 ((([] : List Int).length : Nat) : Int))), (26, .v (.bool true)), (27, .v (.bool true)), (28, .v (.tuple #[])), (29, .v (.tuple #[])), (30, .v (.tuple #[])), (31, .v (.tuple #[])), (32, .v (.tuple #[])), (33, .v (.tuple #[])), (34, .v (.tuple #[])), (35, .v (.tuple #[])), (36, .v (.tuple #[])), (37, .v (.bool true))] [24, 25, 26, 27, 28, 29, 30, 31, 32, 33, 34, 35, 36, 37] [[.inr 2], [.inl 0], [.inl 1], [.inl 2], [.inl 3], [.inl 3], [.inl 3], [.inl 3], [.inl 3], [.inl 3], [.inl 3], [.inl 3], [.inl 3], [.inl 3, .inl 12]] [[(2, DRunes [])], [(24, DRunes [])], [(25, .v (.int .i64 ((([] : List Int).length : Nat) : Int)))], [(26, .v (.bool true))], [(27, .v (.bool true))], [(27, .v (.bool true))], [(27, .v (.bool true))], [(27, .v (.bool true))], [(27, .v (.bool true))], [(27, .v (.bool true))], [(27, .v (.bool true))], [(27, .v (.bool true))], [(27, .v (.bool true))], [(27, .v (.bool true)), (36, .v (.tuple #[]))]] rfl (by kernel_rfl) (by kernel_rfl) rfl ?_ ?_
     ·refine OpsOk.cons (fun rest => ?_) ?_
      ·refine SOps.move rfl ?_
       exact SOps.nil (by first | rfl | simp_all)
      refine OpsOk.cons (fun rest => ?_) ?_
      ·refine SOps.lenM rfl sliceB_84_21_1 ?_
       exact SOps.nil (by first | rfl | simp_all)
      refine OpsOk.cons (fun rest => ?_) ?_
      ·refine SOps.bin rfl rfl rfl ?_
       exact SOps.nil (by first | rfl | simp_all)
      refine OpsOk.cons (fun rest => ?_) ?_
      ·refine SOps.move rfl ?_
       exact SOps.nil (by first | rfl | simp_all)
      refine OpsOk.cons (fun rest => ?_) ?_
      ·refine SOps.skip rfl ?_
       exact SOps.nil (by first | rfl | simp_all)
      refine OpsOk.cons (fun rest => ?_) ?_
      ·refine SOps.skip rfl ?_
       exact SOps.nil (by first | rfl | simp_all)
      refine OpsOk.cons (fun rest => ?_) ?_
      ·refine SOps.skip rfl ?_
       exact SOps.nil (by first | rfl | simp_all)
      refine OpsOk.cons (fun rest => ?_) ?_
      ·refine SOps.skip rfl ?_
       exact SOps.nil (by first | rfl | simp_all)
      refine OpsOk.cons (fun rest => ?_) ?_
      ·refine SOps.skip rfl ?_
       exact SOps.nil (by first | rfl | simp_all)
      refine OpsOk.cons (fun rest => ?_) ?_
      ·refine SOps.skip rfl ?_
       exact SOps.nil (by first | rfl | simp_all)
      refine OpsOk.cons (fun rest => ?_) ?_
      ·refine SOps.skip rfl ?_
       exact SOps.nil (by first | rfl | simp_all)
      refine OpsOk.cons (fun rest => ?_) ?_
      ·refine SOps.skip rfl ?_
       exact SOps.nil (by first | rfl | simp_all)
      refine OpsOk.cons (fun rest => ?_) ?_
      ·refine SOps.skip rfl ?_
       exact SOps.nil (by first | rfl | simp_all)
      refine OpsOk.cons (fun rest => ?_) ?_
      ·refine SOps.pick rfl rfl ?_
       exact SOps.nil (by first | rfl | simp_all)
      exact OpsOk.nil
     ·show SCode _ _ _ _
      refine SCode.cond rfl (fun _ => ?_) (fun h => by cases h)
      refine SCode.seqR (SOps.assign rfl (SOps.nil (SCode.ret ?_)))
      exact ⟨_, Res.one (.tmp rfl), congrArg (fun b => DV.v (.bool b)) (by simp_all [Mr, M_cons, M_nil]), rfl⟩
    ·refine SCode.drawPure mixed_ [(24, DRunes (c :: w0)), (25, .v (.int .i64 (((c :: w0).length : Nat) : Int))), (26, .v (.bool false)), (27, .v (.bool false)), (28, DLs a), (29, DIts (x :: q)), (30, .ipin (encIt x)), (31, .agg (encIt x)), (32, DRunes (c :: w0)), (33, .ipin (rcell c)), (34, .v (.int .i32 c)), (35, .v (.bool (rAdm a x c))), (36, .v (.bool (!rAdm a x c))), (37, .v (.bool (!rAdm a x c)))] [24, 25, 26, 27, 28, 29, 30, 31, 32, 33, 34, 35, 36, 37] [[.inr 2], [.inl 0], [.inl 1], [.inl 2], [.inl 3, .inr 0], [.inl 3, .inr 1], [.inl 3, .inl 5], [.inl 3, .inl 6], [.inl 3, .inr 2], [.inl 3, .inl 8], [.inl 3, .inl 9], [.inl 3, .inl 4, .inl 7, .inl 10], [.inl 3, .inl 11], [.inl 3, .inl 12]] [[(2, DRunes (c :: w0))], [(24, DRunes (c :: w0))], [(25, .v (.int .i64 (((c :: w0).length : Nat) : Int)))], [(26, .v (.bool false))], [(27, .v (.bool false)), (0, DLs a)], [(27, .v (.bool false)), (1, DIts (x :: q))], [(27, .v (.bool false)), (29, DIts (x :: q))], [(27, .v (.bool false)), (30, .ipin (encIt x))], [(27, .v (.bool false)), (2, DRunes (c :: w0))], [(27, .v (.bool false)), (32, DRunes (c :: w0))], [(27, .v (.bool false)), (33, .ipin (rcell c))], [(27, .v (.bool false)), (28, DLs a), (31, .agg (encIt x)), (34, .v (.int .i32 c))], [(27, .v (.bool false)), (35, .v (.bool (rAdm a x c)))], [(27, .v (.bool false)), (36, .v (.bool (!rAdm a x c)))]] rfl (by kernel_rfl) (by kernel_rfl) rfl ?_ ?_
     ·refine OpsOk.cons (fun rest => ?_) ?_
      ·refine SOps.move rfl ?_
       exact SOps.nil (by first | rfl | simp_all)
      refine OpsOk.cons (fun rest => ?_) ?_
      ·refine SOps.lenM rfl sliceB_84_21_1 ?_
       exact SOps.nil (by first | rfl | simp_all)
      refine OpsOk.cons (fun rest => ?_) ?_
      ·refine SOps.bin rfl rfl rfl ?_
       exact SOps.nil (by exact congrArg (fun b => St.put _ _ (.v (.bool b))) (beq_eq_false_iff_ne.2 (by simp only [List.length_cons]; omega)))
      refine OpsOk.cons (fun rest => ?_) ?_
      ·refine SOps.move rfl ?_
       exact SOps.nil (by first | rfl | simp_all)
      refine OpsOk.cons (fun rest => ?_) ?_
      ·refine SOps.move rfl ?_
       exact SOps.nil (by first | rfl | simp_all)
      refine OpsOk.cons (fun rest => ?_) ?_
      ·refine SOps.move rfl ?_
       exact SOps.nil (by first | rfl | simp_all)
      refine OpsOk.cons (fun rest => ?_) ?_
      ·refine SOps.indexM (0) rfl rfl sliceB_45_87_4 (by first | omega | (simp; done)) (by first | omega | (simp; done)) ?_
       exact SOps.nil (by first | rfl | simp_all)
      refine OpsOk.cons (fun rest => ?_) ?_
      ·refine SOps.loadPinA rfl aggB_87_4 (Nat.le_of_ble_eq_true rfl) ?_
       exact SOps.nil (by first | rfl | simp_all)
      refine OpsOk.cons (fun rest => ?_) ?_
      ·refine SOps.move rfl ?_
       exact SOps.nil (by first | rfl | simp_all)
      refine OpsOk.cons (fun rest => ?_) ?_
      ·refine SOps.indexM (0) rfl rfl sliceB_84_21_1 (by first | omega | (simp; done)) (by first | omega | (simp; done)) ?_
       exact SOps.nil (by first | rfl | simp_all)
      refine OpsOk.cons (fun rest => ?_) ?_
      ·refine SOps.loadPin rfl flatB_21 ?_
       exact SOps.nil (by first | rfl | simp_all)
      refine OpsOk.cons (fun rest => ?_) ?_
      ·refine SOps.callP (qAdmits a x c) rfl ?_
       rintro _ rfl
       exact SOps.nil (by first | rfl | simp_all)
      refine OpsOk.cons (fun rest => ?_) ?_
      ·refine SOps.un rfl rfl ?_
       exact SOps.nil (by first | rfl | simp_all)
      refine OpsOk.cons (fun rest => ?_) ?_
      ·refine SOps.pick rfl rfl ?_
       exact SOps.nil (by first | rfl | simp_all)
      exact OpsOk.nil
     ·show SCode _ _ _ _
      refine SCode.cond rfl (fun hc4 => ?_) (fun hc4 => ?_)
      ·try simp only [nmL] at hc4
       refine SCode.seqR (SOps.assign rfl (SOps.nil (SCode.ret ?_)))
       exact ⟨_, Res.one (.tmp rfl), congrArg (fun b => DV.v (.bool b)) (by simp_all [Mr, M_cons, M_nil]), rfl⟩
      ·try simp only [nmL] at hc4
       refine SCode.skip ?_
       show SCode _ _ _ _
       refine SCode.seq (SCode.seqR (SOps.move rfl (SOps.indexM (0) rfl rfl sliceB_45_87_4 (by first | omega | (simp; done)) (by first | omega | (simp; done)) (SOps.fieldPin rfl fieldB_87_3_3 (SOps.loadPin rfl flatB_4 (SOps.nil ?_))))))
       refine SCode.cond rfl (fun hc5 => ?_) (fun hc5 => ?_)
       ·try simp only [nmL] at hc5
        refine SCode.seqR (SOps.move rfl (SOps.move rfl (SOps.move rfl (SOps.sliceD (n1 := 0) (1) sliceB_84_21_1 rfl rfl (by first | omega | (simp; done)) (by first | omega | (simp; done)) (SOps.callP (ih (x :: q) w0 (by simp)) rfl ?_)))))
        rintro _ rfl
        refine SOps.assign rfl (SOps.nil (SCode.ret ?_))
        exact ⟨_, Res.one (.tmp rfl), congrArg (fun b => DV.v (.bool b)) (by simp_all [Mr, M_cons, M_nil]), rfl⟩
       ·try simp only [nmL] at hc5
        refine SCode.skip ?_
        show SCode _ _ _ _
        refine SCode.seq ?_
        refine SCode.drawPure mixed_ [(47, DLs a), (48, DIts (x :: q)), (49, DIts q), (50, DRunes (c :: w0)), (51, DRunes w0), (52, .v (.bool (Mr a q w0))), (6, .v (.bool (Mr a q w0)))] [47, 48, 49, 50, 51, 52, 6] [[.inr 0], [.inr 1], [.inl 1], [.inr 2], [.inl 3], [.inl 0, .inl 2, .inl 4], [.inl 5]] [[(0, DLs a)], [(1, DIts (x :: q))], [(48, DIts (x :: q))], [(2, DRunes (c :: w0))], [(50, DRunes (c :: w0))], [(47, DLs a), (49, DIts q), (51, DRunes w0)], [(52, .v (.bool (Mr a q w0)))]] rfl (by kernel_rfl) (by kernel_rfl) rfl ?_ ?_
        ·refine OpsOk.cons (fun rest => ?_) ?_
         ·refine SOps.move rfl ?_
          exact SOps.nil (by first | rfl | simp_all)
         refine OpsOk.cons (fun rest => ?_) ?_
         ·refine SOps.move rfl ?_
          exact SOps.nil (by first | rfl | simp_all)
         refine OpsOk.cons (fun rest => ?_) ?_
         ·refine SOps.sliceD (n1 := 0) (1) sliceB_45_87_4 rfl rfl (by first | omega | (simp; done)) (by first | omega | (simp; done)) ?_
          exact SOps.nil (by first | rfl | simp_all)
         refine OpsOk.cons (fun rest => ?_) ?_
         ·refine SOps.move rfl ?_
          exact SOps.nil (by first | rfl | simp_all)
         refine OpsOk.cons (fun rest => ?_) ?_
         ·refine SOps.sliceD (n1 := 0) (1) sliceB_84_21_1 rfl rfl (by first | omega | (simp; done)) (by first | omega | (simp; done)) ?_
          exact SOps.nil (by first | rfl | simp_all)
         refine OpsOk.cons (fun rest => ?_) ?_
         ·refine SOps.callP (ih q w0 (by simp; omega)) rfl ?_
          rintro _ rfl
          exact SOps.nil (by first | rfl | simp_all)
         refine OpsOk.cons (fun rest => ?_) ?_
         ·refine SOps.assign rfl ?_
          exact SOps.nil (by first | rfl | simp_all)
         exact OpsOk.nil
        ·show SCode _ _ _ _
         refine SCode.ret ?_
         exact ⟨_, Res.one (.tmp rfl), congrArg (fun b => DV.v (.bool b)) (by simp_all [Mr, M_cons, M_nil]), rfl⟩
  ·try simp only [nmL] at hb2
   refine SOps.skip rfl (SOps.skip rfl (SOps.skip rfl (SOps.skip rfl (SOps.skip rfl (SOps.pick rfl rfl (SOps.nil ?_))))))
   refine SCode.cond rfl (fun h => by cases h) (fun _ => ?_)
   refine SCode.skip ?_
   show SCode _ _ _ _
   refine SCode.seq (SCode.seq (SCode.weaken (st' := (⟨53, [(0, DLs a), (1, DIts (x :: q)), (2, DRunes w)], []⟩ : St)) (St.Le.of ⟨rfl, rfl, rfl, trivial⟩) ?_))
   rcases w with _ | ⟨c, w0⟩
   ·refine SCode.drawPure mixed_ [(24, DRunes []), (25, .v (.int .i64 ((([] : List Int).length : Nat) : Int))), (26, .v (.bool true)), (27, .v (.bool true)), (28, .v (.tuple #[])), (29, .v (.tuple #[])), (30, .v (.tuple #[])), (31, .v (.tuple #[])), (32, .v (.tuple #[])), (33, .v (.tuple #[])), (34, .v (.tuple #[])), (35, .v (.tuple #[])), (36, .v (.tuple #[])), (37, .v (.bool true))] [24, 25, 26, 27, 28, 29, 30, 31, 32, 33, 34, 35, 36, 37] [[.inr 2], [.inl 0], [.inl 1], [.inl 2], [.inl 3], [.inl 3], [.inl 3], [.inl 3], [.inl 3], [.inl 3], [.inl 3], [.inl 3], [.inl 3], [.inl 3, .inl 12]] [[(2, DRunes [])], [(24, DRunes [])], [(25, .v (.int .i64 ((([] : List Int).length : Nat) : Int)))], [(26, .v (.bool true))], [(27, .v (.bool true))], [(27, .v (.bool true))], [(27, .v (.bool true))], [(27, .v (.bool true))], [(27, .v (.bool true))], [(27, .v (.bool true))], [(27, .v (.bool true))], [(27, .v (.bool true))], [(27, .v (.bool true))], [(27, .v (.bool true)), (36, .v (.tuple #[]))]] rfl (by kernel_rfl) (by kernel_rfl) rfl ?_ ?_
    ·refine OpsOk.cons (fun rest => ?_) ?_
     ·refine SOps.move rfl ?_
      exact SOps.nil (by first | rfl | simp_all)
     refine OpsOk.cons (fun rest => ?_) ?_
     ·refine SOps.lenM rfl sliceB_84_21_1 ?_
      exact SOps.nil (by first | rfl | simp_all)
     refine OpsOk.cons (fun rest => ?_) ?_
     ·refine SOps.bin rfl rfl rfl ?_
      exact SOps.nil (by first | rfl | simp_all)
     refine OpsOk.cons (fun rest => ?_) ?_
     ·refine SOps.move rfl ?_
      exact SOps.nil (by first | rfl | simp_all)
     refine OpsOk.cons (fun rest => ?_) ?_
     ·refine SOps.skip rfl ?_
      exact SOps.nil (by first | rfl | simp_all)
     refine OpsOk.cons (fun rest => ?_) ?_
     ·refine SOps.skip rfl ?_
      exact SOps.nil (by first | rfl | simp_all)
     refine OpsOk.cons (fun rest => ?_) ?_
     ·refine SOps.skip rfl ?_
      exact SOps.nil (by first | rfl | simp_all)
     refine OpsOk.cons (fun rest => ?_) ?_
     ·refine SOps.skip rfl ?_
      exact SOps.nil (by first | rfl | simp_all)
     refine OpsOk.cons (fun rest => ?_) ?_
     ·refine SOps.skip rfl ?_
      exact SOps.nil (by first | rfl | simp_all)
     refine OpsOk.cons (fun rest => ?_) ?_
     ·refine SOps.skip rfl ?_
      exact SOps.nil (by first | rfl | simp_all)
     refine OpsOk.cons (fun rest => ?_) ?_
     ·refine SOps.skip rfl ?_
      exact SOps.nil (by first | rfl | simp_all)
     refine OpsOk.cons (fun rest => ?_) ?_
     ·refine SOps.skip rfl ?_
      exact SOps.nil (by first | rfl | simp_all)
     refine OpsOk.cons (fun rest => ?_) ?_
     ·refine SOps.skip rfl ?_
      exact SOps.nil (by first | rfl | simp_all)
     refine OpsOk.cons (fun rest => ?_) ?_
     ·refine SOps.pick rfl rfl ?_
      exact SOps.nil (by first | rfl | simp_all)
     exact OpsOk.nil
    ·show SCode _ _ _ _
     refine SCode.cond rfl (fun _ => ?_) (fun h => by cases h)
     refine SCode.seqR (SOps.assign rfl (SOps.nil (SCode.ret ?_)))
     exact ⟨_, Res.one (.tmp rfl), congrArg (fun b => DV.v (.bool b)) (by simp_all [Mr, M_cons, M_nil]), rfl⟩
   ·refine SCode.drawPure mixed_ [(24, DRunes (c :: w0)), (25, .v (.int .i64 (((c :: w0).length : Nat) : Int))), (26, .v (.bool false)), (27, .v (.bool false)), (28, DLs a), (29, DIts (x :: q)), (30, .ipin (encIt x)), (31, .agg (encIt x)), (32, DRunes (c :: w0)), (33, .ipin (rcell c)), (34, .v (.int .i32 c)), (35, .v (.bool (rAdm a x c))), (36, .v (.bool (!rAdm a x c))), (37, .v (.bool (!rAdm a x c)))] [24, 25, 26, 27, 28, 29, 30, 31, 32, 33, 34, 35, 36, 37] [[.inr 2], [.inl 0], [.inl 1], [.inl 2], [.inl 3, .inr 0], [.inl 3, .inr 1], [.inl 3, .inl 5], [.inl 3, .inl 6], [.inl 3, .inr 2], [.inl 3, .inl 8], [.inl 3, .inl 9], [.inl 3, .inl 4, .inl 7, .inl 10], [.inl 3, .inl 11], [.inl 3, .inl 12]] [[(2, DRunes (c :: w0))], [(24, DRunes (c :: w0))], [(25, .v (.int .i64 (((c :: w0).length : Nat) : Int)))], [(26, .v (.bool false))], [(27, .v (.bool false)), (0, DLs a)], [(27, .v (.bool false)), (1, DIts (x :: q))], [(27, .v (.bool false)), (29, DIts (x :: q))], [(27, .v (.bool false)), (30, .ipin (encIt x))], [(27, .v (.bool false)), (2, DRunes (c :: w0))], [(27, .v (.bool false)), (32, DRunes (c :: w0))], [(27, .v (.bool false)), (33, .ipin (rcell c))], [(27, .v (.bool false)), (28, DLs a), (31, .agg (encIt x)), (34, .v (.int .i32 c))], [(27, .v (.bool false)), (35, .v (.bool (rAdm a x c)))], [(27, .v (.bool false)), (36, .v (.bool (!rAdm a x c)))]] rfl (by kernel_rfl) (by kernel_rfl) rfl ?_ ?_
    ·refine OpsOk.cons (fun rest => ?_) ?_
     ·refine SOps.move rfl ?_
      exact SOps.nil (by first | rfl | simp_all)
     refine OpsOk.cons (fun rest => ?_) ?_
     ·refine SOps.lenM rfl sliceB_84_21_1 ?_
      exact SOps.nil (by first | rfl | simp_all)
     refine OpsOk.cons (fun rest => ?_) ?_
     ·refine SOps.bin rfl rfl rfl ?_
      exact SOps.nil (by exact congrArg (fun b => St.put _ _ (.v (.bool b))) (beq_eq_false_iff_ne.2 (by simp only [List.length_cons]; omega)))
     refine OpsOk.cons (fun rest => ?_) ?_
     ·refine SOps.move rfl ?_
      exact SOps.nil (by first | rfl | simp_all)
     refine OpsOk.cons (fun rest => ?_) ?_
     ·refine SOps.move rfl ?_
      exact SOps.nil (by first | rfl | simp_all)
     refine OpsOk.cons (fun rest => ?_) ?_
     ·refine SOps.move rfl ?_
      exact SOps.nil (by first | rfl | simp_all)
     refine OpsOk.cons (fun rest => ?_) ?_
     ·refine SOps.indexM (0) rfl rfl sliceB_45_87_4 (by first | omega | (simp; done)) (by first | omega | (simp; done)) ?_
      exact SOps.nil (by first | rfl | simp_all)
     refine OpsOk.cons (fun rest => ?_) ?_
     ·refine SOps.loadPinA rfl aggB_87_4 (Nat.le_of_ble_eq_true rfl) ?_
      exact SOps.nil (by first | rfl | simp_all)
     refine OpsOk.cons (fun rest => ?_) ?_
     ·refine SOps.move rfl ?_
      exact SOps.nil (by first | rfl | simp_all)
     refine OpsOk.cons (fun rest => ?_) ?_
     ·refine SOps.indexM (0) rfl rfl sliceB_84_21_1 (by first | omega | (simp; done)) (by first | omega | (simp; done)) ?_
      exact SOps.nil (by first | rfl | simp_all)
     refine OpsOk.cons (fun rest => ?_) ?_
     ·refine SOps.loadPin rfl flatB_21 ?_
      exact SOps.nil (by first | rfl | simp_all)
     refine OpsOk.cons (fun rest => ?_) ?_
     ·refine SOps.callP (qAdmits a x c) rfl ?_
      rintro _ rfl
      exact SOps.nil (by first | rfl | simp_all)
     refine OpsOk.cons (fun rest => ?_) ?_
     ·refine SOps.un rfl rfl ?_
      exact SOps.nil (by first | rfl | simp_all)
     refine OpsOk.cons (fun rest => ?_) ?_
     ·refine SOps.pick rfl rfl ?_
      exact SOps.nil (by first | rfl | simp_all)
     exact OpsOk.nil
    ·show SCode _ _ _ _
     refine SCode.cond rfl (fun hc6 => ?_) (fun hc6 => ?_)
     ·try simp only [nmL] at hc6
      refine SCode.seqR (SOps.assign rfl (SOps.nil (SCode.ret ?_)))
      exact ⟨_, Res.one (.tmp rfl), congrArg (fun b => DV.v (.bool b)) (by simp_all [Mr, M_cons, M_nil]), rfl⟩
     ·try simp only [nmL] at hc6
      refine SCode.skip ?_
      show SCode _ _ _ _
      refine SCode.seq (SCode.seqR (SOps.move rfl (SOps.indexM (0) rfl rfl sliceB_45_87_4 (by first | omega | (simp; done)) (by first | omega | (simp; done)) (SOps.fieldPin rfl fieldB_87_3_3 (SOps.loadPin rfl flatB_4 (SOps.nil ?_))))))
      refine SCode.cond rfl (fun hc7 => ?_) (fun hc7 => ?_)
      ·try simp only [nmL] at hc7
       refine SCode.seqR (SOps.move rfl (SOps.move rfl (SOps.move rfl (SOps.sliceD (n1 := 0) (1) sliceB_84_21_1 rfl rfl (by first | omega | (simp; done)) (by first | omega | (simp; done)) (SOps.callP (ih (x :: q) w0 (by simp)) rfl ?_)))))
       rintro _ rfl
       refine SOps.assign rfl (SOps.nil (SCode.ret ?_))
       exact ⟨_, Res.one (.tmp rfl), congrArg (fun b => DV.v (.bool b)) (by simp_all [Mr, M_cons, M_nil]), rfl⟩
      ·try simp only [nmL] at hc7
       refine SCode.skip ?_
       show SCode _ _ _ _
       refine SCode.seq ?_
       refine SCode.drawPure mixed_ [(47, DLs a), (48, DIts (x :: q)), (49, DIts q), (50, DRunes (c :: w0)), (51, DRunes w0), (52, .v (.bool (Mr a q w0))), (6, .v (.bool (Mr a q w0)))] [47, 48, 49, 50, 51, 52, 6] [[.inr 0], [.inr 1], [.inl 1], [.inr 2], [.inl 3], [.inl 0, .inl 2, .inl 4], [.inl 5]] [[(0, DLs a)], [(1, DIts (x :: q))], [(48, DIts (x :: q))], [(2, DRunes (c :: w0))], [(50, DRunes (c :: w0))], [(47, DLs a), (49, DIts q), (51, DRunes w0)], [(52, .v (.bool (Mr a q w0)))]] rfl (by kernel_rfl) (by kernel_rfl) rfl ?_ ?_
       ·refine OpsOk.cons (fun rest => ?_) ?_
        ·refine SOps.move rfl ?_
         exact SOps.nil (by first | rfl | simp_all)
        refine OpsOk.cons (fun rest => ?_) ?_
        ·refine SOps.move rfl ?_
         exact SOps.nil (by first | rfl | simp_all)
        refine OpsOk.cons (fun rest => ?_) ?_
        ·refine SOps.sliceD (n1 := 0) (1) sliceB_45_87_4 rfl rfl (by first | omega | (simp; done)) (by first | omega | (simp; done)) ?_
         exact SOps.nil (by first | rfl | simp_all)
        refine OpsOk.cons (fun rest => ?_) ?_
        ·refine SOps.move rfl ?_
         exact SOps.nil (by first | rfl | simp_all)
        refine OpsOk.cons (fun rest => ?_) ?_
        ·refine SOps.sliceD (n1 := 0) (1) sliceB_84_21_1 rfl rfl (by first | omega | (simp; done)) (by first | omega | (simp; done)) ?_
         exact SOps.nil (by first | rfl | simp_all)
        refine OpsOk.cons (fun rest => ?_) ?_
        ·refine SOps.callP (ih q w0 (by simp; omega)) rfl ?_
         rintro _ rfl
         exact SOps.nil (by first | rfl | simp_all)
        refine OpsOk.cons (fun rest => ?_) ?_
        ·refine SOps.assign rfl ?_
         exact SOps.nil (by first | rfl | simp_all)
        exact OpsOk.nil
       ·show SCode _ _ _ _
        refine SCode.ret ?_
        exact ⟨_, Res.one (.tmp rfl), congrArg (fun b => DV.v (.bool b)) (by simp_all [Mr, M_cons, M_nil]), rfl⟩
theorem qMatches (a : List Letter) : ∀ (p : List Item) (w : List Int), GCall Tryd.prog E 77 [DLs a, DIts p, DRunes w] [] (fun d H => d = .v (.bool (Mr a p w)) ∧ H = []) := by
  have key : ∀ (n : Nat) (p : List Item) (w : List Int), p.length + w.length ≤ n → GCall Tryd.prog E 77 [DLs a, DIts p, DRunes w] [] (fun d H => d = .v (.bool (Mr a p w)) ∧ H = []) := by
    intro n
    induction n with
    | zero => exact fun p w h => qMatches1 a p w (fun p1 w1 h1 => by omega)
    | succ n ih => exact fun p w h => qMatches1 a p w (fun p1 w1 h1 => ih p1 w1 (by omega))
  exact fun p w => key _ p w (Nat.le_refl _)
theorem qLeft (a : List Letter) (r : Rule) (w : List Int) (hw : w.length ≤ 1048576) : GCall Tryd.prog E 54 [DLs a, .agg (encR r), DRunes w] [] (fun d H => d = .v (.bool (leftR a r w)) ∧ H = []) := by
 refine GCall.body (C := ⟨Tryd.prog, E, true⟩) Tryd.func54 rfl (fun _ => rfl) (by kernel_rfl) rfl ?_
 refine SCode.seqR (SOps.boxAM rfl rfl (SOps.assign rfl (SOps.nil (SCode.seq (SCode.seqR (SOps.fieldPin rfl fieldB_47_4_4 (SOps.loadPin rfl flatB_4 (SOps.nil ?_))))))))
 refine SCode.cond rfl (fun hc1 => ?_) (fun hc1 => ?_)
 ·try simp only [nmL] at hc1
  refine SCode.seqR (SOps.move rfl (SOps.fieldPin rfl fieldB_47_2_2 (SOps.loadPin rfl flatB_45 (SOps.move rfl (SOps.callP (qMatches _ _ _) rfl ?_)))))
  rintro _ rfl
  refine SOps.assign rfl (SOps.nil (SCode.ret ?_))
  exact ⟨_, Res.one (.tmp rfl), congrArg (fun b => DV.v (.bool b)) (by rw [leftR, if_pos hc1]), rfl⟩
 ·try simp only [nmL] at hc1
  refine SCode.skip ?_
  show SCode _ _ _ _
  refine SCode.seq (SCode.seqR (SOps.assign rfl (SOps.nil (SCode.block (SCode.loop1 (fun (i : Nat) => (⟨28, [(0, DLs a), (2, DRunes w), (4, .ipin (encR r)), (7, .v (.int .i64 (i : Int)))], []⟩ : St)) (fun (i : Nat) => i ≤ w.length + 1 ∧ ∀ j, j < i → Mr a r.left (w.drop j) = false) (fun (i : Nat) => w.length + 1 - i) (0) (by exact ⟨Nat.zero_le _, fun j h => absurd h (Nat.not_lt_zero _)⟩) (St.Le.of ⟨(by first | rfl | (show some _ = some _; simp)), (by first | rfl | (show some _ = some _; simp)), (by first | rfl | (show some _ = some _; simp)), (by first | rfl | (show some _ = some _; simp)), trivial⟩ rfl (by first | rfl | (simp))) ?_)))))
  rintro i ⟨hi, hf⟩
  refine SCode.fact (isl_len (t := 2) rfl) (fun hB => ?_)
  simp only [List.length_map, lenB] at hB
  refine SCode.seq (SCode.seqR (SOps.move rfl (SOps.move rfl (SOps.lenM rfl sliceB_84_21_1 (SOps.bin rfl rfl rfl (SOps.nil ?_))))))
  refine SCode.cond rfl (fun hc2 => ?_) (fun hc2 => ?_)
  ·try simp only [nmL] at hc2
   refine SCode.skip ?_
   show SCode _ _ _ _
   refine SCode.seq (SCode.block (SCode.seq ?_))
   have hi2 : i ≤ w.length := by omega
   refine SCode.drawPure mixed_ [(21, DLs a), (22, .ipin ((encR r).drop 2)), (23, DIts r.left), (24, DRunes w), (25, .v (.int .i64 (i : Int))), (26, DRunes (w.drop i)), (27, .v (.bool (Mr a r.left (w.drop i))))] [21, 22, 23, 24, 25, 26, 27] [[.inr 0], [.inr 4], [.inl 1], [.inr 2], [.inr 7], [.inl 3, .inl 4], [.inl 0, .inl 2, .inl 5]] [[(0, DLs a)], [(4, .ipin (encR r))], [(22, .ipin ((encR r).drop 2))], [(2, DRunes w)], [(7, .v (.int .i64 (i : Int)))], [(24, DRunes w), (25, .v (.int .i64 (i : Int)))], [(21, DLs a), (23, DIts r.left), (26, DRunes (w.drop i))]] rfl (by kernel_rfl) (by kernel_rfl) rfl ?_ ?_
   ·refine OpsOk.cons (fun rest => ?_) ?_
    ·refine SOps.move rfl ?_
     exact SOps.nil (by first | rfl | simp_all)
    refine OpsOk.cons (fun rest => ?_) ?_
    ·refine SOps.fieldPin rfl fieldB_47_2_2 ?_
     exact SOps.nil (by first | rfl | simp_all)
    refine OpsOk.cons (fun rest => ?_) ?_
    ·refine SOps.loadPin rfl flatB_45 ?_
     exact SOps.nil (by first | rfl | simp_all)
    refine OpsOk.cons (fun rest => ?_) ?_
    ·refine SOps.move rfl ?_
     exact SOps.nil (by first | rfl | simp_all)
    refine OpsOk.cons (fun rest => ?_) ?_
    ·refine SOps.move rfl ?_
     exact SOps.nil (by first | rfl | simp_all)
    refine OpsOk.cons (fun rest => ?_) ?_
    ·refine SOps.sliceD (n1 := 0) (i) sliceB_84_21_1 rfl rfl (by first | omega | (simp only [lenB]; omega)) (by first | omega | (simp only [lenB]; omega)) ?_
     exact SOps.nil (by first | rfl | simp_all)
    refine OpsOk.cons (fun rest => ?_) ?_
    ·refine SOps.callP (qMatches _ _ _) rfl ?_
     rintro _ rfl
     exact SOps.nil (by first | rfl | simp_all)
    exact OpsOk.nil
   ·show SCode _ _ _ _
    refine SCode.cond rfl (fun hc3 => ?_) (fun hc3 => ?_)
    ·try simp only [nmL] at hc3
     refine SCode.seqR (SOps.assign rfl (SOps.nil (SCode.ret ?_)))
     exact ⟨_, Res.one (.tmp rfl), congrArg (fun b => DV.v (.bool b)) (Eq.symm (by rw [leftR, if_neg (by rw [hc1]; simp)]; exact List.any_eq_true.2 ⟨i, List.mem_range.2 (by omega), hc3⟩)), rfl⟩
    ·try simp only [nmL] at hc3
     refine SCode.skip ?_
     show SCode _ _ _ _
     refine SCode.region (SOps.move rfl (SOps.addI rfl rfl (by first | omega | (simp only [lenB]; omega)) (by first | omega | (simp only [lenB]; omega)) (SOps.assign rfl (SOps.nil ?_))))
     exact ⟨i + 1, by exact ⟨by omega, fun j hj => by rcases Nat.lt_or_ge j i with h | h; exact hf j h; obtain rfl : j = i := (by omega); exact hc3⟩, by omega, (St.Le.of ⟨(by first | rfl | (show some _ = some _; simp)), (by first | rfl | (show some _ = some _; simp)), (by first | rfl | (show some _ = some _; simp)), (by first | rfl | (show some _ = some _; simp)), trivial⟩ rfl (by first | rfl | (simp)))⟩
  ·try simp only [nmL] at hc2
   refine SCode.exit ?_
   show SCode _ _ _ _
   refine SCode.seqR (SOps.assign rfl (SOps.nil (SCode.ret ?_)))
   exact ⟨_, Res.one (.tmp rfl), congrArg (fun b => DV.v (.bool b)) (Eq.symm (by rw [leftR, if_neg (by rw [hc1]; simp)]; exact Bool.eq_false_iff.2 (fun h => by obtain ⟨j, h1, h2⟩ := List.any_eq_true.1 h; rw [hf j (by have := List.mem_range.1 h1; omega)] at h2; cases h2))), rfl⟩
theorem qRight (a : List Letter) (r : Rule) (w : List Int) (hw : w.length ≤ 1048576) : GCall Tryd.prog E 55 [DLs a, .agg (encR r), DRunes w] [] (fun d H => d = .v (.bool (rightR a r w)) ∧ H = []) := by
 refine GCall.body (C := ⟨Tryd.prog, E, true⟩) Tryd.func55 rfl (fun _ => rfl) (by kernel_rfl) rfl ?_
 refine SCode.seqR (SOps.boxAM rfl rfl (SOps.assign rfl (SOps.nil (SCode.seq (SCode.seqR (SOps.fieldPin rfl fieldB_47_5_5 (SOps.loadPin rfl flatB_4 (SOps.nil ?_))))))))
 refine SCode.cond rfl (fun hc1 => ?_) (fun hc1 => ?_)
 ·try simp only [nmL] at hc1
  refine SCode.seqR (SOps.move rfl (SOps.fieldPin rfl fieldB_47_3_3 (SOps.loadPin rfl flatB_45 (SOps.move rfl (SOps.callP (qMatches _ _ _) rfl ?_)))))
  rintro _ rfl
  refine SOps.assign rfl (SOps.nil (SCode.ret ?_))
  exact ⟨_, Res.one (.tmp rfl), congrArg (fun b => DV.v (.bool b)) (by rw [rightR, if_pos hc1]), rfl⟩
 ·try simp only [nmL] at hc1
  refine SCode.skip ?_
  show SCode _ _ _ _
  refine SCode.seq (SCode.seqR (SOps.assign rfl (SOps.nil (SCode.block (SCode.loop1 (fun (i : Nat) => (⟨28, [(0, DLs a), (2, DRunes w), (4, .ipin (encR r)), (7, .v (.int .i64 (i : Int)))], []⟩ : St)) (fun (i : Nat) => i ≤ w.length + 1 ∧ ∀ j, j < i → Mr a r.right (w.take j) = false) (fun (i : Nat) => w.length + 1 - i) (0) (by exact ⟨Nat.zero_le _, fun j h => absurd h (Nat.not_lt_zero _)⟩) (St.Le.of ⟨(by first | rfl | (show some _ = some _; simp)), (by first | rfl | (show some _ = some _; simp)), (by first | rfl | (show some _ = some _; simp)), (by first | rfl | (show some _ = some _; simp)), trivial⟩ rfl (by first | rfl | (simp))) ?_)))))
  rintro i ⟨hi, hf⟩
  refine SCode.fact (isl_len (t := 2) rfl) (fun hB => ?_)
  simp only [List.length_map, lenB] at hB
  refine SCode.seq (SCode.seqR (SOps.move rfl (SOps.move rfl (SOps.lenM rfl sliceB_84_21_1 (SOps.bin rfl rfl rfl (SOps.nil ?_))))))
  refine SCode.cond rfl (fun hc2 => ?_) (fun hc2 => ?_)
  ·try simp only [nmL] at hc2
   refine SCode.skip ?_
   show SCode _ _ _ _
   refine SCode.seq (SCode.block (SCode.seq ?_))
   have hi2 : i ≤ w.length := by omega
   refine SCode.drawPure mixed_ [(21, DLs a), (22, .ipin ((encR r).drop 3)), (23, DIts r.right), (24, DRunes w), (25, .v (.int .i64 (i : Int))), (26, DRunes (w.take i)), (27, .v (.bool (Mr a r.right (w.take i))))] [21, 22, 23, 24, 25, 26, 27] [[.inr 0], [.inr 4], [.inl 1], [.inr 2], [.inr 7], [.inl 3, .inl 4], [.inl 0, .inl 2, .inl 5]] [[(0, DLs a)], [(4, .ipin (encR r))], [(22, .ipin ((encR r).drop 3))], [(2, DRunes w)], [(7, .v (.int .i64 (i : Int)))], [(24, DRunes w), (25, .v (.int .i64 (i : Int)))], [(21, DLs a), (23, DIts r.right), (26, DRunes (w.take i))]] rfl (by kernel_rfl) (by kernel_rfl) rfl ?_ ?_
   ·refine OpsOk.cons (fun rest => ?_) ?_
    ·refine SOps.move rfl ?_
     exact SOps.nil (by first | rfl | simp_all)
    refine OpsOk.cons (fun rest => ?_) ?_
    ·refine SOps.fieldPin rfl fieldB_47_3_3 ?_
     exact SOps.nil (by first | rfl | simp_all)
    refine OpsOk.cons (fun rest => ?_) ?_
    ·refine SOps.loadPin rfl flatB_45 ?_
     exact SOps.nil (by first | rfl | simp_all)
    refine OpsOk.cons (fun rest => ?_) ?_
    ·refine SOps.move rfl ?_
     exact SOps.nil (by first | rfl | simp_all)
    refine OpsOk.cons (fun rest => ?_) ?_
    ·refine SOps.move rfl ?_
     exact SOps.nil (by first | rfl | simp_all)
    refine OpsOk.cons (fun rest => ?_) ?_
    ·refine SOps.sliceT (n1 := 0) (i) sliceB_84_21_1 rfl rfl (by first | omega | (simp only [lenB]; omega)) (by first | omega | (simp only [lenB]; omega)) ?_
     exact SOps.nil (by first | rfl | simp_all)
    refine OpsOk.cons (fun rest => ?_) ?_
    ·refine SOps.callP (qMatches _ _ _) rfl ?_
     rintro _ rfl
     exact SOps.nil (by first | rfl | simp_all)
    exact OpsOk.nil
   ·show SCode _ _ _ _
    refine SCode.cond rfl (fun hc3 => ?_) (fun hc3 => ?_)
    ·try simp only [nmL] at hc3
     refine SCode.seqR (SOps.assign rfl (SOps.nil (SCode.ret ?_)))
     exact ⟨_, Res.one (.tmp rfl), congrArg (fun b => DV.v (.bool b)) (Eq.symm (by rw [rightR, if_neg (by rw [hc1]; simp)]; exact List.any_eq_true.2 ⟨i, List.mem_range.2 (by omega), hc3⟩)), rfl⟩
    ·try simp only [nmL] at hc3
     refine SCode.skip ?_
     show SCode _ _ _ _
     refine SCode.region (SOps.move rfl (SOps.addI rfl rfl (by first | omega | (simp only [lenB]; omega)) (by first | omega | (simp only [lenB]; omega)) (SOps.assign rfl (SOps.nil ?_))))
     exact ⟨i + 1, by exact ⟨by omega, fun j hj => by rcases Nat.lt_or_ge j i with h | h; exact hf j h; obtain rfl : j = i := (by omega); exact hc3⟩, by omega, (St.Le.of ⟨(by first | rfl | (show some _ = some _; simp)), (by first | rfl | (show some _ = some _; simp)), (by first | rfl | (show some _ = some _; simp)), (by first | rfl | (show some _ = some _; simp)), trivial⟩ rfl (by first | rfl | (simp)))⟩
  ·try simp only [nmL] at hc2
   refine SCode.exit ?_
   show SCode _ _ _ _
   refine SCode.seqR (SOps.assign rfl (SOps.nil (SCode.ret ?_)))
   exact ⟨_, Res.one (.tmp rfl), congrArg (fun b => DV.v (.bool b)) (Eq.symm (by rw [rightR, if_neg (by rw [hc1]; simp)]; exact Bool.eq_false_iff.2 (fun h => by obtain ⟨j, h1, h2⟩ := List.any_eq_true.1 h; rw [hf j (by have := List.mem_range.1 h1; omega)] at h2; cases h2))), rfl⟩
theorem rFollows (hV : VS E) (a : List Letter) (r : Rule) (s : ByteArray) (hr : SmR r) (hs : s.size ≤ 1048576) : GCall Tryd.prog E 98 [DLs a, .agg (encR r), .v (.string s)] [] (fun d H => d = .v (.bool (followsR a r s)) ∧ H = []) := by
 obtain ⟨hr1, hp1, hp2⟩ := hr
 refine GCall.body (C := ⟨Tryd.prog, E, true⟩) Tryd.func98 rfl (fun _ => rfl) (by kernel_rfl) rfl ?_
 refine SCode.seqR (SOps.boxAM rfl rfl (SOps.assign rfl (SOps.nil (SCode.seq (SCode.seqR (SOps.fieldPin rfl fieldB_47_4_4 (SOps.loadPin rfl flatB_4 (SOps.nil ?_))))))))
 refine SCode.cond rfl (fun hc1 => ?_) (fun hc1 => ?_)
 ·try simp only [nmL] at hc1
  refine SCode.seqR (SOps.move rfl (SOps.fieldPin rfl fieldB_47_2_2 (SOps.loadPin rfl flatB_45 (SOps.move rfl (SOps.callP (pMatches hV _ _ _ hp1 hs) rfl ?_)))))
  rintro _ rfl
  refine SOps.assign rfl (SOps.nil (SCode.ret ?_))
  exact ⟨_, Res.one (.tmp rfl), congrArg (fun b => DV.v (.bool b)) (by rw [followsR, if_pos hc1]), rfl⟩
 ·try simp only [nmL] at hc1
  refine SCode.skip ?_
  show SCode _ _ _ _
  refine SCode.seqR (SOps.move rfl (SOps.fieldPin rfl fieldB_47_2_2 (SOps.loadPin rfl flatB_45 (SOps.move rfl (SOps.callP (pSuffixes hV _ _ _ hp1 hs) rfl ?_)))))
  rintro _ rfl
  refine SOps.lenM rfl sliceB_43_3_1 (SOps.bin rfl rfl rfl (SOps.assign rfl (SOps.nil (SCode.ret ?_))))
  exact ⟨_, Res.one (.tmp rfl), congrArg (fun b => DV.v (.bool b)) (by rw [followsR, if_neg (by rw [hc1]; simp), Bool.eq_iff_iff]; simp only [decide_eq_true_eq]; omega), rfl⟩
theorem rPrecedes (hV : VS E) (a : List Letter) (r : Rule) (s : ByteArray) (hr : SmR r) (hs : s.size ≤ 1048576) : GCall Tryd.prog E 99 [DLs a, .agg (encR r), .v (.string s)] [] (fun d H => d = .v (.bool (precedesR a r s)) ∧ H = []) := by
 obtain ⟨hr1, hp1, hp2⟩ := hr
 refine GCall.body (C := ⟨Tryd.prog, E, true⟩) Tryd.func99 rfl (fun _ => rfl) (by kernel_rfl) rfl ?_
 refine SCode.seqR (SOps.boxAM rfl rfl (SOps.assign rfl (SOps.nil (SCode.seq (SCode.seqR (SOps.fieldPin rfl fieldB_47_5_5 (SOps.loadPin rfl flatB_4 (SOps.nil ?_))))))))
 refine SCode.cond rfl (fun hc1 => ?_) (fun hc1 => ?_)
 ·try simp only [nmL] at hc1
  refine SCode.seqR (SOps.move rfl (SOps.fieldPin rfl fieldB_47_3_3 (SOps.loadPin rfl flatB_45 (SOps.move rfl (SOps.callP (pMatches hV _ _ _ hp2 hs) rfl ?_)))))
  rintro _ rfl
  refine SOps.assign rfl (SOps.nil (SCode.ret ?_))
  exact ⟨_, Res.one (.tmp rfl), congrArg (fun b => DV.v (.bool b)) (by rw [precedesR, if_pos hc1]), rfl⟩
 ·try simp only [nmL] at hc1
  refine SCode.skip ?_
  show SCode _ _ _ _
  refine SCode.seqR (SOps.move rfl (SOps.fieldPin rfl fieldB_47_3_3 (SOps.loadPin rfl flatB_45 (SOps.move rfl (SOps.callP (pPrefixes hV _ _ _ hp2 hs) rfl ?_)))))
  rintro _ rfl
  refine SOps.lenM rfl sliceB_43_3_1 (SOps.bin rfl rfl rfl (SOps.assign rfl (SOps.nil (SCode.ret ?_))))
  exact ⟨_, Res.one (.tmp rfl), congrArg (fun b => DV.v (.bool b)) (by rw [precedesR, if_neg (by rw [hc1]; simp), Bool.eq_iff_iff]; simp only [decide_eq_true_eq]; omega), rfl⟩
def siteB (a : List Letter) (r : Rule) (w : List Int) (i : Nat) : Bool := (decide (r.fr = 0) || (w[i]? == some r.fr)) && followsR a r (encs (w.take i)) && precedesR a r (encs (w.drop (if r.fr = 0 then i else i + 1)))
def siteQ (a : List Letter) (r : Rule) (w : List Int) (i : Nat) : Bool := (decide (r.fr = 0) || (w[i]? == some r.fr)) && leftR a r (w.take i) && rightR a r (w.drop (if r.fr = 0 then i else i + 1))
def okR (a : List Letter) (r : Rule) (s : ByteArray) : Bool := validR a r && consS a 40 s
def sitesF (p : Nat → Bool) (w : List Int) : List Nat := (List.range (w.length + 1)).filter p
theorem filter_succ (p : Nat → Bool) (i : Nat) : (List.range (i + 1)).filter p = (List.range i).filter p ++ if p i then [i] else [] := by
  rw [List.range_succ, List.filter_append]
  cases h : p i <;> simp [h]
theorem filter_len (p : Nat → Bool) (i : Nat) : ((List.range i).filter p).length ≤ i := by
  have := List.length_filter_le p (List.range i)
  simpa using this
theorem encs_take_size (w : List Int) (n : Nat) (h : w.length ≤ 40) : (encs (w.take n)).size ≤ 1048576 := by
  have := runesBytes_size_le (w.take n)
  rw [encs_eq] at this
  simp only [List.length_take] at this
  omega
theorem encs_drop_size (w : List Int) (n : Nat) (h : w.length ≤ 40) : (encs (w.drop n)).size ≤ 1048576 := by
  have := runesBytes_size_le (w.drop n)
  rw [encs_eq] at this
  simp only [List.length_drop] at this
  omega
theorem rSites0 (hV : VS E) (a : List Letter) (r : Rule) (s : ByteArray) (hr : SmR r) (hs : s.size ≤ 1048576) : GCall Tryd.prog E 97 [DLs a, .agg (encR r), .v (.string s)] [] (fun d H => d = (if okR a r s then DNats (sitesF (siteB a r (runes s)) (runes s)) else .v (.slice none 0 0)) ∧ H = []) := by
 refine GCall.body (C := ⟨Tryd.prog, E, true⟩) Tryd.func97 rfl (fun _ => rfl) (by kernel_rfl) rfl ?_
 refine SCode.seqR (SOps.boxAM rfl rfl (SOps.assign rfl (SOps.nil (SCode.scope (SCode.seq (SCode.seqR (SOps.move rfl (SOps.loadPinA rfl aggB_47_6 (Nat.le_of_ble_eq_true rfl) (SOps.callP (rValid hV _ _ (by assumption)) rfl ?_)))))))))
 rintro _ rfl
 refine SOps.un rfl rfl (SOps.move rfl ?_)
 refine SOps.caseB 15 rfl (fun hb1 => ?_) (fun hb1 => ?_)
 ·try simp only [nmL] at hb1
  refine SOps.skip rfl (SOps.skip rfl (SOps.skip rfl (SOps.skip rfl (SOps.pick rfl rfl (SOps.nil ?_)))))
  refine SCode.cond rfl (fun _ => ?_) (fun h => by cases h)
  refine SCode.seqR (SOps.assign rfl (SOps.nil (SCode.ret ?_)))
  exact ⟨_, Res.one (.tmp rfl), by first | (rw [if_neg (by simp_all [okR])]; done) | (rw [if_pos hok, ← ho]; rfl), rfl⟩
 ·try simp only [nmL] at hb1
  refine SOps.move rfl (SOps.move rfl (SOps.callP (lIsWord hV _ _) rfl ?_))
  rintro _ rfl
  refine SOps.un rfl rfl (SOps.pick rfl rfl (SOps.nil ?_))
  refine SCode.cond rfl (fun hc2 => ?_) (fun hc2 => ?_)
  ·try simp only [nmL] at hc2
   refine SCode.seqR (SOps.assign rfl (SOps.nil (SCode.ret ?_)))
   exact ⟨_, Res.one (.tmp rfl), by first | (rw [if_neg (by simp_all [okR])]; done) | (rw [if_pos hok, ← ho]; rfl), rfl⟩
  ·try simp only [nmL] at hc2
   refine SCode.skip ?_
   show SCode _ _ _ _
   refine SCode.seqR (SOps.move rfl (SOps.runesF rfl rfl strB_9 sliceB_84_21_1 intB_21_i32 (SOps.assign rfl (SOps.nil (SCode.seqR (SOps.assign rfl (SOps.nil (SCode.seq (SCode.label ?_)))))))))
   show SCode _ _ _ _
   refine SCode.seq (SCode.seqR (SOps.assign rfl (SOps.nil (SCode.block ?_))))
   have hok : okR a r s = true := by simp_all [okR]
   have hw40 : (runes s).length ≤ 40 := by have h40 : consS a 40 s = true := (by simp_all); rw [consS_eq] at h40; simp only [Bool.and_eq_true, decide_eq_true_eq] at h40; exact h40.1.2
   refine SCode.loop3 (fun (i : Nat) (out : List Nat) (k : Nat) => (⟨69, [(0, DLs a), (4, .ipin (encR r)), (7, DRunes (runes s)), (8, accD 1 k (out.map encN)), (9, .v (.int .i64 (i : Int)))], accH 3 1 k (out.map encN) ++ []⟩ : St)) (fun (i : Nat) (out : List Nat) (k : Nat) => i ≤ (runes s).length + 1 ∧ (List.range i).filter (siteB a r (runes s)) = out) (fun (i : Nat) (out : List Nat) (k : Nat) => (runes s).length + 1 - i) (0) ([]) (0) (by exact ⟨Nat.zero_le _, rfl⟩) (St.Le.of ⟨(by first | rfl | (show some _ = some _; simp)), (by first | rfl | (show some _ = some _; simp)), (by first | rfl | (show some _ = some _; simp)), (by first | rfl | (show some _ = some _; simp)), (by first | rfl | (show some _ = some _; simp)), trivial⟩ rfl (by first | rfl | (simp))) ?_
   rintro i out k ⟨hi, ho⟩
   have hol := filter_len (siteB a r (runes s)) i
   rw [ho] at hol
   refine SCode.seq (SCode.seqR (SOps.move rfl (SOps.move rfl (SOps.lenM rfl sliceB_84_21_1 (SOps.bin rfl rfl rfl (SOps.nil ?_))))))
   refine SCode.cond rfl (fun hc3 => ?_) (fun hc3 => ?_)
   ·try simp only [nmL] at hc3
    refine SCode.skip ?_
    show SCode _ _ _ _
    refine SCode.seq (SCode.block (SCode.seqR (SOps.move rfl (SOps.assign rfl (SOps.nil (SCode.seq (SCode.seqR (SOps.fieldPin rfl fieldB_47_0_0 (SOps.loadPin rfl flatB_21 (SOps.bin rfl rfl rfl (SOps.nil ?_)))))))))))
    refine SCode.cond rfl (fun hc4 => ?_) (fun hc4 => ?_)
    ·try simp only [nmL] at hc4
     refine SCode.seq (SCode.seq ?_)
     rcases (show i = (runes s).length ∨ i < (runes s).length from by omega) with hq | hq
     ·refine SCode.drawPure mixed_ [(33, .v (.int .i64 (i : Int))), (34, DRunes (runes s)), (35, .v (.int .i64 (((runes s).length : Nat) : Int))), (36, .v (.bool true)), (37, .v (.bool true)), (38, .v (.tuple #[])), (39, .v (.tuple #[])), (40, .v (.tuple #[])), (41, .v (.tuple #[])), (42, .v (.tuple #[])), (43, .v (.tuple #[])), (44, .v (.tuple #[])), (45, .v (.bool true))] [33, 34, 35, 36, 37, 38, 39, 40, 41, 42, 43, 44, 45] [[.inr 9], [.inr 7], [.inl 1], [.inl 0, .inl 2], [.inl 3], [.inl 4], [.inl 4], [.inl 4], [.inl 4], [.inl 4], [.inl 4], [.inl 4], [.inl 4, .inl 11]] [[(9, .v (.int .i64 (i : Int)))], [(7, DRunes (runes s))], [(34, DRunes (runes s))], [(33, .v (.int .i64 (i : Int))), (35, .v (.int .i64 (((runes s).length : Nat) : Int)))], [(36, .v (.bool true))], [(37, .v (.bool true))], [(37, .v (.bool true))], [(37, .v (.bool true))], [(37, .v (.bool true))], [(37, .v (.bool true))], [(37, .v (.bool true))], [(37, .v (.bool true))], [(37, .v (.bool true)), (44, .v (.tuple #[]))]] rfl (by kernel_rfl) (by kernel_rfl) rfl ?_ ?_
      ·refine OpsOk.cons (fun rest => ?_) ?_
       ·refine SOps.move rfl ?_
        exact SOps.nil (by first | rfl | simp_all)
       refine OpsOk.cons (fun rest => ?_) ?_
       ·refine SOps.move rfl ?_
        exact SOps.nil (by first | rfl | simp_all)
       refine OpsOk.cons (fun rest => ?_) ?_
       ·refine SOps.lenM rfl sliceB_84_21_1 ?_
        exact SOps.nil (by first | rfl | simp_all)
       refine OpsOk.cons (fun rest => ?_) ?_
       ·refine SOps.bin rfl rfl rfl ?_
        exact SOps.nil (by exact congrArg (fun b => St.put _ _ (.v (.bool b))) (beq_iff_eq.2 (by omega)))
       refine OpsOk.cons (fun rest => ?_) ?_
       ·refine SOps.move rfl ?_
        exact SOps.nil (by first | rfl | simp_all)
       refine OpsOk.cons (fun rest => ?_) ?_
       ·refine SOps.skip rfl ?_
        exact SOps.nil (by first | rfl | simp_all)
       refine OpsOk.cons (fun rest => ?_) ?_
       ·refine SOps.skip rfl ?_
        exact SOps.nil (by first | rfl | simp_all)
       refine OpsOk.cons (fun rest => ?_) ?_
       ·refine SOps.skip rfl ?_
        exact SOps.nil (by first | rfl | simp_all)
       refine OpsOk.cons (fun rest => ?_) ?_
       ·refine SOps.skip rfl ?_
        exact SOps.nil (by first | rfl | simp_all)
       refine OpsOk.cons (fun rest => ?_) ?_
       ·refine SOps.skip rfl ?_
        exact SOps.nil (by first | rfl | simp_all)
       refine OpsOk.cons (fun rest => ?_) ?_
       ·refine SOps.skip rfl ?_
        exact SOps.nil (by first | rfl | simp_all)
       refine OpsOk.cons (fun rest => ?_) ?_
       ·refine SOps.skip rfl ?_
        exact SOps.nil (by first | rfl | simp_all)
       refine OpsOk.cons (fun rest => ?_) ?_
       ·refine SOps.pick rfl rfl ?_
        exact SOps.nil (by first | rfl | simp_all)
       exact OpsOk.nil
      ·show SCode _ _ _ _
       refine SCode.cond rfl (fun _ => ?_) (fun h => by cases h)
       refine SCode.exit ?_
       show SCode _ _ _ _
       refine SCode.region (SOps.move rfl (SOps.addI rfl rfl (by first | omega | (simp only [lenB]; omega)) (by first | omega | (simp only [lenB]; omega)) (SOps.assign rfl (SOps.nil ?_))))
       first
        | exact ⟨i + 1, out ++ [i], b0, ⟨by omega, by rw [filter_succ, if_pos (by simp_all [siteB]), ho]⟩, by omega, St.Le.of ⟨rfl, rfl, rfl, (by show some _ = some _; rw [List.map_append]; rfl), rfl, trivial⟩ rfl (by rw [List.map_append]; rfl)⟩
        | exact ⟨i + 1, out ++ [i], b1, ⟨by omega, by rw [filter_succ, if_pos (by simp_all [siteB]), ho]⟩, by omega, St.Le.of ⟨rfl, rfl, rfl, (by show some _ = some _; rw [List.map_append]; rfl), rfl, trivial⟩ rfl (by rw [List.map_append]; rfl)⟩
        | exact ⟨i + 1, out, k, ⟨by omega, by rw [filter_succ, if_neg (by simp_all [siteB]), ho, List.append_nil]⟩, by omega, St.Le.of ⟨rfl, rfl, rfl, rfl, rfl, trivial⟩⟩
     ·refine SCode.drawPure mixed_ [(33, .v (.int .i64 (i : Int))), (34, DRunes (runes s)), (35, .v (.int .i64 (((runes s).length : Nat) : Int))), (36, .v (.bool false)), (37, .v (.bool false)), (38, DRunes (runes s)), (39, .v (.int .i64 (i : Int))), (40, .ipin (rcell ((runes s)[i]))), (41, .v (.int .i32 ((runes s)[i]))), (42, .ipin ((encR r).drop 0)), (43, .v (.int .i32 r.fr)), (44, .v (.bool (!decide ((runes s)[i] = r.fr)))), (45, .v (.bool (!decide ((runes s)[i] = r.fr))))] [33, 34, 35, 36, 37, 38, 39, 40, 41, 42, 43, 44, 45] [[.inr 9], [.inr 7], [.inl 1], [.inl 0, .inl 2], [.inl 3], [.inl 4, .inr 7], [.inl 4, .inr 9], [.inl 4, .inl 5, .inl 6], [.inl 4, .inl 7], [.inl 4, .inr 4], [.inl 4, .inl 9], [.inl 4, .inl 8, .inl 10], [.inl 4, .inl 11]] [[(9, .v (.int .i64 (i : Int)))], [(7, DRunes (runes s))], [(34, DRunes (runes s))], [(33, .v (.int .i64 (i : Int))), (35, .v (.int .i64 (((runes s).length : Nat) : Int)))], [(36, .v (.bool false))], [(37, .v (.bool false)), (7, DRunes (runes s))], [(37, .v (.bool false)), (9, .v (.int .i64 (i : Int)))], [(37, .v (.bool false)), (38, DRunes (runes s)), (39, .v (.int .i64 (i : Int)))], [(37, .v (.bool false)), (40, .ipin (rcell ((runes s)[i])))], [(37, .v (.bool false)), (4, .ipin (encR r))], [(37, .v (.bool false)), (42, .ipin ((encR r).drop 0))], [(37, .v (.bool false)), (41, .v (.int .i32 ((runes s)[i]))), (43, .v (.int .i32 r.fr))], [(37, .v (.bool false)), (44, .v (.bool (!decide ((runes s)[i] = r.fr))))]] rfl (by kernel_rfl) (by kernel_rfl) rfl ?_ ?_
      ·refine OpsOk.cons (fun rest => ?_) ?_
       ·refine SOps.move rfl ?_
        exact SOps.nil (by first | rfl | simp_all)
       refine OpsOk.cons (fun rest => ?_) ?_
       ·refine SOps.move rfl ?_
        exact SOps.nil (by first | rfl | simp_all)
       refine OpsOk.cons (fun rest => ?_) ?_
       ·refine SOps.lenM rfl sliceB_84_21_1 ?_
        exact SOps.nil (by first | rfl | simp_all)
       refine OpsOk.cons (fun rest => ?_) ?_
       ·refine SOps.bin rfl rfl rfl ?_
        exact SOps.nil (by exact congrArg (fun b => St.put _ _ (.v (.bool b))) (beq_eq_false_iff_ne.2 (by omega)))
       refine OpsOk.cons (fun rest => ?_) ?_
       ·refine SOps.move rfl ?_
        exact SOps.nil (by first | rfl | simp_all)
       refine OpsOk.cons (fun rest => ?_) ?_
       ·refine SOps.move rfl ?_
        exact SOps.nil (by first | rfl | simp_all)
       refine OpsOk.cons (fun rest => ?_) ?_
       ·refine SOps.move rfl ?_
        exact SOps.nil (by first | rfl | simp_all)
       refine OpsOk.cons (fun rest => ?_) ?_
       ·refine SOps.indexM (i) rfl rfl sliceB_84_21_1 (by first | omega | (simp only [lenB]; omega)) (by first | omega | (simp only [lenB]; omega)) ?_
        exact SOps.nil (by first | rfl | simp_all)
       refine OpsOk.cons (fun rest => ?_) ?_
       ·refine SOps.loadPin rfl flatB_21 ?_
        exact SOps.nil (by first | rfl | simp_all)
       refine OpsOk.cons (fun rest => ?_) ?_
       ·refine SOps.fieldPin rfl fieldB_47_0_0 ?_
        exact SOps.nil (by first | rfl | simp_all)
       refine OpsOk.cons (fun rest => ?_) ?_
       ·refine SOps.loadPin rfl flatB_21 ?_
        exact SOps.nil (by first | rfl | simp_all)
       refine OpsOk.cons (fun rest => ?_) ?_
       ·refine SOps.bin rfl rfl rfl ?_
        exact SOps.nil (by first | rfl | simp_all)
       refine OpsOk.cons (fun rest => ?_) ?_
       ·refine SOps.pick rfl rfl ?_
        exact SOps.nil (by first | rfl | simp_all)
       exact OpsOk.nil
      ·show SCode _ _ _ _
       refine SCode.cond rfl (fun hc5 => ?_) (fun hc5 => ?_)
       ·try simp only [nmL] at hc5
        refine SCode.exit ?_
        show SCode _ _ _ _
        refine SCode.region (SOps.move rfl (SOps.addI rfl rfl (by first | omega | (simp only [lenB]; omega)) (by first | omega | (simp only [lenB]; omega)) (SOps.assign rfl (SOps.nil ?_))))
        first
         | exact ⟨i + 1, out ++ [i], b0, ⟨by omega, by rw [filter_succ, if_pos (by simp_all [siteB]), ho]⟩, by omega, St.Le.of ⟨rfl, rfl, rfl, (by show some _ = some _; rw [List.map_append]; rfl), rfl, trivial⟩ rfl (by rw [List.map_append]; rfl)⟩
         | exact ⟨i + 1, out ++ [i], b1, ⟨by omega, by rw [filter_succ, if_pos (by simp_all [siteB]), ho]⟩, by omega, St.Le.of ⟨rfl, rfl, rfl, (by show some _ = some _; rw [List.map_append]; rfl), rfl, trivial⟩ rfl (by rw [List.map_append]; rfl)⟩
         | exact ⟨i + 1, out, k, ⟨by omega, by rw [filter_succ, if_neg (by simp_all [siteB]), ho, List.append_nil]⟩, by omega, St.Le.of ⟨rfl, rfl, rfl, rfl, rfl, trivial⟩⟩
       ·try simp only [nmL] at hc5
        refine SCode.skip ?_
        show SCode _ _ _ _
        refine SCode.region (SOps.move rfl (SOps.addI rfl rfl (by first | omega | (simp only [lenB]; omega)) (by first | omega | (simp only [lenB]; omega)) (SOps.assign rfl (SOps.nil ?_))))
        show SCode _ _ _ _
        refine SCode.seq ?_
        have hz1 := encs_take_size (runes s) i hw40
        have hz2 := encs_drop_size (runes s) (i + 1) hw40
        rcases hq3 : followsR a r (encs ((runes s).take i)) with _ | _
        ·refine SCode.drawPure mixed_ [(48, DLs a), (49, .agg (encR r)), (50, DRunes (runes s)), (51, .v (.int .i64 (i : Int))), (52, DRunes ((runes s).take i)), (53, .v (.string (encs ((runes s).take i)))), (54, .v (.bool false)), (55, .v (.bool false)), (56, .v (.tuple #[])), (57, .v (.tuple #[])), (58, .v (.tuple #[])), (59, .v (.tuple #[])), (60, .v (.tuple #[])), (61, .v (.tuple #[])), (62, .v (.tuple #[])), (63, .v (.bool false))] [48, 49, 50, 51, 52, 53, 54, 55, 56, 57, 58, 59, 60, 61, 62, 63] [[.inr 0], [.inr 4], [.inr 7], [.inr 9], [.inl 2, .inl 3], [.inl 4], [.inl 0, .inl 1, .inl 5], [.inl 6], [.inl 7], [.inl 7], [.inl 7], [.inl 7], [.inl 7], [.inl 7], [.inl 7], [.inl 7, .inl 14]] [[(0, DLs a)], [(4, .ipin (encR r))], [(7, DRunes (runes s))], [(9, .v (.int .i64 (i : Int)))], [(50, DRunes (runes s)), (51, .v (.int .i64 (i : Int)))], [(52, DRunes ((runes s).take i))], [(48, DLs a), (49, .agg (encR r)), (53, .v (.string (encs ((runes s).take i))))], [(54, .v (.bool false))], [(55, .v (.bool false))], [(55, .v (.bool false))], [(55, .v (.bool false))], [(55, .v (.bool false))], [(55, .v (.bool false))], [(55, .v (.bool false))], [(55, .v (.bool false))], [(55, .v (.bool false)), (62, .v (.tuple #[]))]] rfl (by kernel_rfl) (by kernel_rfl) rfl ?_ ?_
         ·refine OpsOk.cons (fun rest => ?_) ?_
          ·refine SOps.move rfl ?_
           exact SOps.nil (by first | rfl | simp_all)
          refine OpsOk.cons (fun rest => ?_) ?_
          ·refine SOps.loadPinA rfl aggB_47_6 (Nat.le_of_ble_eq_true rfl) ?_
           exact SOps.nil (by first | rfl | simp_all)
          refine OpsOk.cons (fun rest => ?_) ?_
          ·refine SOps.move rfl ?_
           exact SOps.nil (by first | rfl | simp_all)
          refine OpsOk.cons (fun rest => ?_) ?_
          ·refine SOps.move rfl ?_
           exact SOps.nil (by first | rfl | simp_all)
          refine OpsOk.cons (fun rest => ?_) ?_
          ·refine SOps.sliceT (n1 := 0) (i) sliceB_84_21_1 rfl rfl (by first | omega | (simp only [lenB]; omega)) (by first | omega | (simp only [lenB]; omega)) ?_
           exact SOps.nil (by first | rfl | simp_all)
          refine OpsOk.cons (fun rest => ?_) ?_
          ·refine SOps.convRunesStr rfl sliceB_84_21_1 intB_21_i32 strB_9 (by simp [lenB] <;> (first | omega | (simp only [lenB]; omega))) ?_
           exact SOps.nil (by first | rfl | simp_all)
          refine OpsOk.cons (fun rest => ?_) ?_
          ·refine SOps.callP (rFollows hV _ _ _ hr hz1) rfl ?_
           rintro _ rfl
           exact SOps.nil (by exact congrArg (fun b => St.put _ _ (.v (.bool b))) hq3)
          refine OpsOk.cons (fun rest => ?_) ?_
          ·refine SOps.move rfl ?_
           exact SOps.nil (by first | rfl | simp_all)
          refine OpsOk.cons (fun rest => ?_) ?_
          ·refine SOps.skip rfl ?_
           exact SOps.nil (by first | rfl | simp_all)
          refine OpsOk.cons (fun rest => ?_) ?_
          ·refine SOps.skip rfl ?_
           exact SOps.nil (by first | rfl | simp_all)
          refine OpsOk.cons (fun rest => ?_) ?_
          ·refine SOps.skip rfl ?_
           exact SOps.nil (by first | rfl | simp_all)
          refine OpsOk.cons (fun rest => ?_) ?_
          ·refine SOps.skip rfl ?_
           exact SOps.nil (by first | rfl | simp_all)
          refine OpsOk.cons (fun rest => ?_) ?_
          ·refine SOps.skip rfl ?_
           exact SOps.nil (by first | rfl | simp_all)
          refine OpsOk.cons (fun rest => ?_) ?_
          ·refine SOps.skip rfl ?_
           exact SOps.nil (by first | rfl | simp_all)
          refine OpsOk.cons (fun rest => ?_) ?_
          ·refine SOps.skip rfl ?_
           exact SOps.nil (by first | rfl | simp_all)
          refine OpsOk.cons (fun rest => ?_) ?_
          ·refine SOps.pick rfl rfl ?_
           exact SOps.nil (by first | rfl | simp_all)
          exact OpsOk.nil
         ·show SCode _ _ _ _
          refine SCode.cond rfl (fun h => by cases h) (fun _ => ?_)
          refine SCode.skip ?_
          show SCode _ _ _ _
          refine SCode.region (SOps.move rfl (SOps.addI rfl rfl (by first | omega | (simp only [lenB]; omega)) (by first | omega | (simp only [lenB]; omega)) (SOps.assign rfl (SOps.nil ?_))))
          first
           | exact ⟨i + 1, out ++ [i], b0, ⟨by omega, by rw [filter_succ, if_pos (by simp_all [siteB]), ho]⟩, by omega, St.Le.of ⟨rfl, rfl, rfl, (by show some _ = some _; rw [List.map_append]; rfl), rfl, trivial⟩ rfl (by rw [List.map_append]; rfl)⟩
           | exact ⟨i + 1, out ++ [i], b1, ⟨by omega, by rw [filter_succ, if_pos (by simp_all [siteB]), ho]⟩, by omega, St.Le.of ⟨rfl, rfl, rfl, (by show some _ = some _; rw [List.map_append]; rfl), rfl, trivial⟩ rfl (by rw [List.map_append]; rfl)⟩
           | exact ⟨i + 1, out, k, ⟨by omega, by rw [filter_succ, if_neg (by simp_all [siteB]), ho, List.append_nil]⟩, by omega, St.Le.of ⟨rfl, rfl, rfl, rfl, rfl, trivial⟩⟩
        ·refine SCode.drawPure mixed_ [(48, DLs a), (49, .agg (encR r)), (50, DRunes (runes s)), (51, .v (.int .i64 (i : Int))), (52, DRunes ((runes s).take i)), (53, .v (.string (encs ((runes s).take i)))), (54, .v (.bool true)), (55, .v (.bool true)), (56, DLs a), (57, .agg (encR r)), (58, DRunes (runes s)), (59, .v (.int .i64 ((i : Int) + 1))), (60, DRunes ((runes s).drop (i + 1))), (61, .v (.string (encs ((runes s).drop (i + 1))))), (62, .v (.bool (precedesR a r (encs ((runes s).drop (i + 1)))))), (63, .v (.bool (precedesR a r (encs ((runes s).drop (i + 1))))))] [48, 49, 50, 51, 52, 53, 54, 55, 56, 57, 58, 59, 60, 61, 62, 63] [[.inr 0], [.inr 4], [.inr 7], [.inr 9], [.inl 2, .inl 3], [.inl 4], [.inl 0, .inl 1, .inl 5], [.inl 6], [.inl 7, .inr 0], [.inl 7, .inr 4], [.inl 7, .inr 7], [.inl 7, .inr 10], [.inl 7, .inl 10, .inl 11], [.inl 7, .inl 12], [.inl 7, .inl 8, .inl 9, .inl 13], [.inl 7, .inl 14]] [[(0, DLs a)], [(4, .ipin (encR r))], [(7, DRunes (runes s))], [(9, .v (.int .i64 (i : Int)))], [(50, DRunes (runes s)), (51, .v (.int .i64 (i : Int)))], [(52, DRunes ((runes s).take i))], [(48, DLs a), (49, .agg (encR r)), (53, .v (.string (encs ((runes s).take i))))], [(54, .v (.bool true))], [(55, .v (.bool true)), (0, DLs a)], [(55, .v (.bool true)), (4, .ipin (encR r))], [(55, .v (.bool true)), (7, DRunes (runes s))], [(55, .v (.bool true)), (10, .v (.int .i64 ((i : Int) + 1)))], [(55, .v (.bool true)), (58, DRunes (runes s)), (59, .v (.int .i64 ((i : Int) + 1)))], [(55, .v (.bool true)), (60, DRunes ((runes s).drop (i + 1)))], [(55, .v (.bool true)), (56, DLs a), (57, .agg (encR r)), (61, .v (.string (encs ((runes s).drop (i + 1)))))], [(55, .v (.bool true)), (62, .v (.bool (precedesR a r (encs ((runes s).drop (i + 1))))))]] rfl (by kernel_rfl) (by kernel_rfl) rfl ?_ ?_
         ·refine OpsOk.cons (fun rest => ?_) ?_
          ·refine SOps.move rfl ?_
           exact SOps.nil (by first | rfl | simp_all)
          refine OpsOk.cons (fun rest => ?_) ?_
          ·refine SOps.loadPinA rfl aggB_47_6 (Nat.le_of_ble_eq_true rfl) ?_
           exact SOps.nil (by first | rfl | simp_all)
          refine OpsOk.cons (fun rest => ?_) ?_
          ·refine SOps.move rfl ?_
           exact SOps.nil (by first | rfl | simp_all)
          refine OpsOk.cons (fun rest => ?_) ?_
          ·refine SOps.move rfl ?_
           exact SOps.nil (by first | rfl | simp_all)
          refine OpsOk.cons (fun rest => ?_) ?_
          ·refine SOps.sliceT (n1 := 0) (i) sliceB_84_21_1 rfl rfl (by first | omega | (simp only [lenB]; omega)) (by first | omega | (simp only [lenB]; omega)) ?_
           exact SOps.nil (by first | rfl | simp_all)
          refine OpsOk.cons (fun rest => ?_) ?_
          ·refine SOps.convRunesStr rfl sliceB_84_21_1 intB_21_i32 strB_9 (by simp [lenB] <;> (first | omega | (simp only [lenB]; omega))) ?_
           exact SOps.nil (by first | rfl | simp_all)
          refine OpsOk.cons (fun rest => ?_) ?_
          ·refine SOps.callP (rFollows hV _ _ _ hr hz1) rfl ?_
           rintro _ rfl
           exact SOps.nil (by exact congrArg (fun b => St.put _ _ (.v (.bool b))) hq3)
          refine OpsOk.cons (fun rest => ?_) ?_
          ·refine SOps.move rfl ?_
           exact SOps.nil (by first | rfl | simp_all)
          refine OpsOk.cons (fun rest => ?_) ?_
          ·refine SOps.move rfl ?_
           exact SOps.nil (by first | rfl | simp_all)
          refine OpsOk.cons (fun rest => ?_) ?_
          ·refine SOps.loadPinA rfl aggB_47_6 (Nat.le_of_ble_eq_true rfl) ?_
           exact SOps.nil (by first | rfl | simp_all)
          refine OpsOk.cons (fun rest => ?_) ?_
          ·refine SOps.move rfl ?_
           exact SOps.nil (by first | rfl | simp_all)
          refine OpsOk.cons (fun rest => ?_) ?_
          ·refine SOps.move rfl ?_
           exact SOps.nil (by first | rfl | simp_all)
          refine OpsOk.cons (fun rest => ?_) ?_
          ·refine SOps.sliceD (n1 := 0) (i + 1) sliceB_84_21_1 rfl rfl (by first | omega | (simp only [lenB]; omega)) (by first | omega | (simp only [lenB]; omega)) ?_
           exact SOps.nil (by first | rfl | simp_all)
          refine OpsOk.cons (fun rest => ?_) ?_
          ·refine SOps.convRunesStr rfl sliceB_84_21_1 intB_21_i32 strB_9 (by simp [lenB] <;> (first | omega | (simp only [lenB]; omega))) ?_
           exact SOps.nil (by first | rfl | simp_all)
          refine OpsOk.cons (fun rest => ?_) ?_
          ·refine SOps.callP (rPrecedes hV _ _ _ hr hz2) rfl ?_
           rintro _ rfl
           exact SOps.nil (by first | rfl | simp_all)
          refine OpsOk.cons (fun rest => ?_) ?_
          ·refine SOps.pick rfl rfl ?_
           exact SOps.nil (by first | rfl | simp_all)
          exact OpsOk.nil
         ·show SCode _ _ _ _
          refine SCode.cond rfl (fun hc6 => ?_) (fun hc6 => ?_)
          ·try simp only [nmL] at hc6
           refine SCode.region (SOps.move rfl (SOps.move rfl (SOps.litF rfl sliceB_43_3_1 zeroIs_3 rfl ?_)))
           refine SOps.appendAcc [] [] sliceB_43_3_1 elemB_3_1_8 rfl rfl rfl SrcD.isl (by simp) (by first | (simp [lenB] <;> (first | omega | (simp only [lenB]; omega))) | (simp only [lenB]; (first | omega | (simp only [lenB]; omega)))) (by first | (simp <;> (first | omega | (simp only [lenB]; omega))) | (first | omega | (simp only [lenB]; omega))) (fun b0 => ?_)
           refine SOps.assign rfl (SOps.nil ?_)
           show SCode _ _ _ _
           refine SCode.region (SOps.move rfl (SOps.addI rfl rfl (by first | omega | (simp only [lenB]; omega)) (by first | omega | (simp only [lenB]; omega)) (SOps.assign rfl (SOps.nil ?_))))
           first
            | exact ⟨i + 1, out ++ [i], b0, ⟨by omega, by rw [filter_succ, if_pos (by simp_all [siteB]), ho]⟩, by omega, St.Le.of ⟨rfl, rfl, rfl, (by show some _ = some _; rw [List.map_append]; rfl), rfl, trivial⟩ rfl (by rw [List.map_append]; rfl)⟩
            | exact ⟨i + 1, out ++ [i], b1, ⟨by omega, by rw [filter_succ, if_pos (by simp_all [siteB]), ho]⟩, by omega, St.Le.of ⟨rfl, rfl, rfl, (by show some _ = some _; rw [List.map_append]; rfl), rfl, trivial⟩ rfl (by rw [List.map_append]; rfl)⟩
            | exact ⟨i + 1, out, k, ⟨by omega, by rw [filter_succ, if_neg (by simp_all [siteB]), ho, List.append_nil]⟩, by omega, St.Le.of ⟨rfl, rfl, rfl, rfl, rfl, trivial⟩⟩
          ·try simp only [nmL] at hc6
           refine SCode.skip ?_
           show SCode _ _ _ _
           refine SCode.region (SOps.move rfl (SOps.addI rfl rfl (by first | omega | (simp only [lenB]; omega)) (by first | omega | (simp only [lenB]; omega)) (SOps.assign rfl (SOps.nil ?_))))
           first
            | exact ⟨i + 1, out ++ [i], b0, ⟨by omega, by rw [filter_succ, if_pos (by simp_all [siteB]), ho]⟩, by omega, St.Le.of ⟨rfl, rfl, rfl, (by show some _ = some _; rw [List.map_append]; rfl), rfl, trivial⟩ rfl (by rw [List.map_append]; rfl)⟩
            | exact ⟨i + 1, out ++ [i], b1, ⟨by omega, by rw [filter_succ, if_pos (by simp_all [siteB]), ho]⟩, by omega, St.Le.of ⟨rfl, rfl, rfl, (by show some _ = some _; rw [List.map_append]; rfl), rfl, trivial⟩ rfl (by rw [List.map_append]; rfl)⟩
            | exact ⟨i + 1, out, k, ⟨by omega, by rw [filter_succ, if_neg (by simp_all [siteB]), ho, List.append_nil]⟩, by omega, St.Le.of ⟨rfl, rfl, rfl, rfl, rfl, trivial⟩⟩
    ·try simp only [nmL] at hc4
     refine SCode.skip ?_
     show SCode _ _ _ _
     refine SCode.seq ?_
     have hz1 := encs_take_size (runes s) i hw40
     have hz2 := encs_drop_size (runes s) (i) hw40
     rcases hq3 : followsR a r (encs ((runes s).take i)) with _ | _
     ·refine SCode.drawPure mixed_ [(48, DLs a), (49, .agg (encR r)), (50, DRunes (runes s)), (51, .v (.int .i64 (i : Int))), (52, DRunes ((runes s).take i)), (53, .v (.string (encs ((runes s).take i)))), (54, .v (.bool false)), (55, .v (.bool false)), (56, .v (.tuple #[])), (57, .v (.tuple #[])), (58, .v (.tuple #[])), (59, .v (.tuple #[])), (60, .v (.tuple #[])), (61, .v (.tuple #[])), (62, .v (.tuple #[])), (63, .v (.bool false))] [48, 49, 50, 51, 52, 53, 54, 55, 56, 57, 58, 59, 60, 61, 62, 63] [[.inr 0], [.inr 4], [.inr 7], [.inr 9], [.inl 2, .inl 3], [.inl 4], [.inl 0, .inl 1, .inl 5], [.inl 6], [.inl 7], [.inl 7], [.inl 7], [.inl 7], [.inl 7], [.inl 7], [.inl 7], [.inl 7, .inl 14]] [[(0, DLs a)], [(4, .ipin (encR r))], [(7, DRunes (runes s))], [(9, .v (.int .i64 (i : Int)))], [(50, DRunes (runes s)), (51, .v (.int .i64 (i : Int)))], [(52, DRunes ((runes s).take i))], [(48, DLs a), (49, .agg (encR r)), (53, .v (.string (encs ((runes s).take i))))], [(54, .v (.bool false))], [(55, .v (.bool false))], [(55, .v (.bool false))], [(55, .v (.bool false))], [(55, .v (.bool false))], [(55, .v (.bool false))], [(55, .v (.bool false))], [(55, .v (.bool false))], [(55, .v (.bool false)), (62, .v (.tuple #[]))]] rfl (by kernel_rfl) (by kernel_rfl) rfl ?_ ?_
      ·refine OpsOk.cons (fun rest => ?_) ?_
       ·refine SOps.move rfl ?_
        exact SOps.nil (by first | rfl | simp_all)
       refine OpsOk.cons (fun rest => ?_) ?_
       ·refine SOps.loadPinA rfl aggB_47_6 (Nat.le_of_ble_eq_true rfl) ?_
        exact SOps.nil (by first | rfl | simp_all)
       refine OpsOk.cons (fun rest => ?_) ?_
       ·refine SOps.move rfl ?_
        exact SOps.nil (by first | rfl | simp_all)
       refine OpsOk.cons (fun rest => ?_) ?_
       ·refine SOps.move rfl ?_
        exact SOps.nil (by first | rfl | simp_all)
       refine OpsOk.cons (fun rest => ?_) ?_
       ·refine SOps.sliceT (n1 := 0) (i) sliceB_84_21_1 rfl rfl (by first | omega | (simp only [lenB]; omega)) (by first | omega | (simp only [lenB]; omega)) ?_
        exact SOps.nil (by first | rfl | simp_all)
       refine OpsOk.cons (fun rest => ?_) ?_
       ·refine SOps.convRunesStr rfl sliceB_84_21_1 intB_21_i32 strB_9 (by simp [lenB] <;> (first | omega | (simp only [lenB]; omega))) ?_
        exact SOps.nil (by first | rfl | simp_all)
       refine OpsOk.cons (fun rest => ?_) ?_
       ·refine SOps.callP (rFollows hV _ _ _ hr hz1) rfl ?_
        rintro _ rfl
        exact SOps.nil (by exact congrArg (fun b => St.put _ _ (.v (.bool b))) hq3)
       refine OpsOk.cons (fun rest => ?_) ?_
       ·refine SOps.move rfl ?_
        exact SOps.nil (by first | rfl | simp_all)
       refine OpsOk.cons (fun rest => ?_) ?_
       ·refine SOps.skip rfl ?_
        exact SOps.nil (by first | rfl | simp_all)
       refine OpsOk.cons (fun rest => ?_) ?_
       ·refine SOps.skip rfl ?_
        exact SOps.nil (by first | rfl | simp_all)
       refine OpsOk.cons (fun rest => ?_) ?_
       ·refine SOps.skip rfl ?_
        exact SOps.nil (by first | rfl | simp_all)
       refine OpsOk.cons (fun rest => ?_) ?_
       ·refine SOps.skip rfl ?_
        exact SOps.nil (by first | rfl | simp_all)
       refine OpsOk.cons (fun rest => ?_) ?_
       ·refine SOps.skip rfl ?_
        exact SOps.nil (by first | rfl | simp_all)
       refine OpsOk.cons (fun rest => ?_) ?_
       ·refine SOps.skip rfl ?_
        exact SOps.nil (by first | rfl | simp_all)
       refine OpsOk.cons (fun rest => ?_) ?_
       ·refine SOps.skip rfl ?_
        exact SOps.nil (by first | rfl | simp_all)
       refine OpsOk.cons (fun rest => ?_) ?_
       ·refine SOps.pick rfl rfl ?_
        exact SOps.nil (by first | rfl | simp_all)
       exact OpsOk.nil
      ·show SCode _ _ _ _
       refine SCode.cond rfl (fun h => by cases h) (fun _ => ?_)
       refine SCode.skip ?_
       show SCode _ _ _ _
       refine SCode.region (SOps.move rfl (SOps.addI rfl rfl (by first | omega | (simp only [lenB]; omega)) (by first | omega | (simp only [lenB]; omega)) (SOps.assign rfl (SOps.nil ?_))))
       first
        | exact ⟨i + 1, out ++ [i], b0, ⟨by omega, by rw [filter_succ, if_pos (by simp_all [siteB]), ho]⟩, by omega, St.Le.of ⟨rfl, rfl, rfl, (by show some _ = some _; rw [List.map_append]; rfl), rfl, trivial⟩ rfl (by rw [List.map_append]; rfl)⟩
        | exact ⟨i + 1, out ++ [i], b1, ⟨by omega, by rw [filter_succ, if_pos (by simp_all [siteB]), ho]⟩, by omega, St.Le.of ⟨rfl, rfl, rfl, (by show some _ = some _; rw [List.map_append]; rfl), rfl, trivial⟩ rfl (by rw [List.map_append]; rfl)⟩
        | exact ⟨i + 1, out, k, ⟨by omega, by rw [filter_succ, if_neg (by simp_all [siteB]), ho, List.append_nil]⟩, by omega, St.Le.of ⟨rfl, rfl, rfl, rfl, rfl, trivial⟩⟩
     ·refine SCode.drawPure mixed_ [(48, DLs a), (49, .agg (encR r)), (50, DRunes (runes s)), (51, .v (.int .i64 (i : Int))), (52, DRunes ((runes s).take i)), (53, .v (.string (encs ((runes s).take i)))), (54, .v (.bool true)), (55, .v (.bool true)), (56, DLs a), (57, .agg (encR r)), (58, DRunes (runes s)), (59, .v (.int .i64 (i : Int))), (60, DRunes ((runes s).drop (i))), (61, .v (.string (encs ((runes s).drop (i))))), (62, .v (.bool (precedesR a r (encs ((runes s).drop (i)))))), (63, .v (.bool (precedesR a r (encs ((runes s).drop (i))))))] [48, 49, 50, 51, 52, 53, 54, 55, 56, 57, 58, 59, 60, 61, 62, 63] [[.inr 0], [.inr 4], [.inr 7], [.inr 9], [.inl 2, .inl 3], [.inl 4], [.inl 0, .inl 1, .inl 5], [.inl 6], [.inl 7, .inr 0], [.inl 7, .inr 4], [.inl 7, .inr 7], [.inl 7, .inr 10], [.inl 7, .inl 10, .inl 11], [.inl 7, .inl 12], [.inl 7, .inl 8, .inl 9, .inl 13], [.inl 7, .inl 14]] [[(0, DLs a)], [(4, .ipin (encR r))], [(7, DRunes (runes s))], [(9, .v (.int .i64 (i : Int)))], [(50, DRunes (runes s)), (51, .v (.int .i64 (i : Int)))], [(52, DRunes ((runes s).take i))], [(48, DLs a), (49, .agg (encR r)), (53, .v (.string (encs ((runes s).take i))))], [(54, .v (.bool true))], [(55, .v (.bool true)), (0, DLs a)], [(55, .v (.bool true)), (4, .ipin (encR r))], [(55, .v (.bool true)), (7, DRunes (runes s))], [(55, .v (.bool true)), (10, .v (.int .i64 (i : Int)))], [(55, .v (.bool true)), (58, DRunes (runes s)), (59, .v (.int .i64 (i : Int)))], [(55, .v (.bool true)), (60, DRunes ((runes s).drop (i)))], [(55, .v (.bool true)), (56, DLs a), (57, .agg (encR r)), (61, .v (.string (encs ((runes s).drop (i)))))], [(55, .v (.bool true)), (62, .v (.bool (precedesR a r (encs ((runes s).drop (i))))))]] rfl (by kernel_rfl) (by kernel_rfl) rfl ?_ ?_
      ·refine OpsOk.cons (fun rest => ?_) ?_
       ·refine SOps.move rfl ?_
        exact SOps.nil (by first | rfl | simp_all)
       refine OpsOk.cons (fun rest => ?_) ?_
       ·refine SOps.loadPinA rfl aggB_47_6 (Nat.le_of_ble_eq_true rfl) ?_
        exact SOps.nil (by first | rfl | simp_all)
       refine OpsOk.cons (fun rest => ?_) ?_
       ·refine SOps.move rfl ?_
        exact SOps.nil (by first | rfl | simp_all)
       refine OpsOk.cons (fun rest => ?_) ?_
       ·refine SOps.move rfl ?_
        exact SOps.nil (by first | rfl | simp_all)
       refine OpsOk.cons (fun rest => ?_) ?_
       ·refine SOps.sliceT (n1 := 0) (i) sliceB_84_21_1 rfl rfl (by first | omega | (simp only [lenB]; omega)) (by first | omega | (simp only [lenB]; omega)) ?_
        exact SOps.nil (by first | rfl | simp_all)
       refine OpsOk.cons (fun rest => ?_) ?_
       ·refine SOps.convRunesStr rfl sliceB_84_21_1 intB_21_i32 strB_9 (by simp [lenB] <;> (first | omega | (simp only [lenB]; omega))) ?_
        exact SOps.nil (by first | rfl | simp_all)
       refine OpsOk.cons (fun rest => ?_) ?_
       ·refine SOps.callP (rFollows hV _ _ _ hr hz1) rfl ?_
        rintro _ rfl
        exact SOps.nil (by exact congrArg (fun b => St.put _ _ (.v (.bool b))) hq3)
       refine OpsOk.cons (fun rest => ?_) ?_
       ·refine SOps.move rfl ?_
        exact SOps.nil (by first | rfl | simp_all)
       refine OpsOk.cons (fun rest => ?_) ?_
       ·refine SOps.move rfl ?_
        exact SOps.nil (by first | rfl | simp_all)
       refine OpsOk.cons (fun rest => ?_) ?_
       ·refine SOps.loadPinA rfl aggB_47_6 (Nat.le_of_ble_eq_true rfl) ?_
        exact SOps.nil (by first | rfl | simp_all)
       refine OpsOk.cons (fun rest => ?_) ?_
       ·refine SOps.move rfl ?_
        exact SOps.nil (by first | rfl | simp_all)
       refine OpsOk.cons (fun rest => ?_) ?_
       ·refine SOps.move rfl ?_
        exact SOps.nil (by first | rfl | simp_all)
       refine OpsOk.cons (fun rest => ?_) ?_
       ·refine SOps.sliceD (n1 := 0) (i) sliceB_84_21_1 rfl rfl (by first | omega | (simp only [lenB]; omega)) (by first | omega | (simp only [lenB]; omega)) ?_
        exact SOps.nil (by first | rfl | simp_all)
       refine OpsOk.cons (fun rest => ?_) ?_
       ·refine SOps.convRunesStr rfl sliceB_84_21_1 intB_21_i32 strB_9 (by simp [lenB] <;> (first | omega | (simp only [lenB]; omega))) ?_
        exact SOps.nil (by first | rfl | simp_all)
       refine OpsOk.cons (fun rest => ?_) ?_
       ·refine SOps.callP (rPrecedes hV _ _ _ hr hz2) rfl ?_
        rintro _ rfl
        exact SOps.nil (by first | rfl | simp_all)
       refine OpsOk.cons (fun rest => ?_) ?_
       ·refine SOps.pick rfl rfl ?_
        exact SOps.nil (by first | rfl | simp_all)
       exact OpsOk.nil
      ·show SCode _ _ _ _
       refine SCode.cond rfl (fun hc7 => ?_) (fun hc7 => ?_)
       ·try simp only [nmL] at hc7
        refine SCode.region (SOps.move rfl (SOps.move rfl (SOps.litF rfl sliceB_43_3_1 zeroIs_3 rfl ?_)))
        refine SOps.appendAcc [] [] sliceB_43_3_1 elemB_3_1_8 rfl rfl rfl SrcD.isl (by simp) (by first | (simp [lenB] <;> (first | omega | (simp only [lenB]; omega))) | (simp only [lenB]; (first | omega | (simp only [lenB]; omega)))) (by first | (simp <;> (first | omega | (simp only [lenB]; omega))) | (first | omega | (simp only [lenB]; omega))) (fun b1 => ?_)
        refine SOps.assign rfl (SOps.nil ?_)
        show SCode _ _ _ _
        refine SCode.region (SOps.move rfl (SOps.addI rfl rfl (by first | omega | (simp only [lenB]; omega)) (by first | omega | (simp only [lenB]; omega)) (SOps.assign rfl (SOps.nil ?_))))
        first
         | exact ⟨i + 1, out ++ [i], b0, ⟨by omega, by rw [filter_succ, if_pos (by simp_all [siteB]), ho]⟩, by omega, St.Le.of ⟨rfl, rfl, rfl, (by show some _ = some _; rw [List.map_append]; rfl), rfl, trivial⟩ rfl (by rw [List.map_append]; rfl)⟩
         | exact ⟨i + 1, out ++ [i], b1, ⟨by omega, by rw [filter_succ, if_pos (by simp_all [siteB]), ho]⟩, by omega, St.Le.of ⟨rfl, rfl, rfl, (by show some _ = some _; rw [List.map_append]; rfl), rfl, trivial⟩ rfl (by rw [List.map_append]; rfl)⟩
         | exact ⟨i + 1, out, k, ⟨by omega, by rw [filter_succ, if_neg (by simp_all [siteB]), ho, List.append_nil]⟩, by omega, St.Le.of ⟨rfl, rfl, rfl, rfl, rfl, trivial⟩⟩
       ·try simp only [nmL] at hc7
        refine SCode.skip ?_
        show SCode _ _ _ _
        refine SCode.region (SOps.move rfl (SOps.addI rfl rfl (by first | omega | (simp only [lenB]; omega)) (by first | omega | (simp only [lenB]; omega)) (SOps.assign rfl (SOps.nil ?_))))
        first
         | exact ⟨i + 1, out ++ [i], b0, ⟨by omega, by rw [filter_succ, if_pos (by simp_all [siteB]), ho]⟩, by omega, St.Le.of ⟨rfl, rfl, rfl, (by show some _ = some _; rw [List.map_append]; rfl), rfl, trivial⟩ rfl (by rw [List.map_append]; rfl)⟩
         | exact ⟨i + 1, out ++ [i], b1, ⟨by omega, by rw [filter_succ, if_pos (by simp_all [siteB]), ho]⟩, by omega, St.Le.of ⟨rfl, rfl, rfl, (by show some _ = some _; rw [List.map_append]; rfl), rfl, trivial⟩ rfl (by rw [List.map_append]; rfl)⟩
         | exact ⟨i + 1, out, k, ⟨by omega, by rw [filter_succ, if_neg (by simp_all [siteB]), ho, List.append_nil]⟩, by omega, St.Le.of ⟨rfl, rfl, rfl, rfl, rfl, trivial⟩⟩
   ·try simp only [nmL] at hc3
    refine SCode.exit ?_
    show SCode _ _ _ _
    refine SCode.seqR (SOps.freezeAcc (t := 8) [] [] rfl rfl rfl ?_)
    obtain rfl : i = (runes s).length + 1 := by omega
    refine SOps.move rfl (SOps.assign rfl (SOps.nil (SCode.ret ?_)))
    exact ⟨_, Res.one (.tmp rfl), by first | (rw [if_neg (by simp_all [okR])]; done) | (rw [if_pos hok, ← ho]; rfl), rfl⟩
def sitesR (a : List Letter) (r : Rule) (s : ByteArray) : List Nat := if okR a r s then sitesF (siteB a r (runes s)) (runes s) else []
theorem rSites (hV : VS E) (a : List Letter) (r : Rule) (s : ByteArray) (hr : SmR r) (hs : s.size ≤ 1048576) : GCall Tryd.prog E 97 [DLs a, .agg (encR r), .v (.string s)] [] (fun d H => d = DNats (sitesR a r s) ∧ H = []) :=
  (rSites0 hV a r s hr hs).nilI.mono (fun d H h => ⟨h.1.trans (by unfold sitesR; split <;> rfl), h.2⟩)
def sitesQ (a : List Letter) (r : Rule) (s : ByteArray) : List Nat := if okR a r s then sitesF (siteQ a r (runes s)) (runes s) else []
end Go.GH
namespace Go.GH
open Go Go.Proofs
variable {E : Env}
theorem qSites (hV : VS E) (a : List Letter) (r : Rule) (s : ByteArray) (hs : s.size ≤ 1048576) : GCall Tryd.prog E 23 [DLs a, .agg (encR r), .v (.string s)] [] (fun d H => d = DNats (sitesQ a r s) ∧ H = []) := by
 refine GCall.body (C := ⟨Tryd.prog, E, true⟩) Tryd.func23 rfl (fun _ => rfl) (by kernel_rfl) rfl ?_
 refine SCode.seqR (SOps.boxAM rfl rfl (SOps.assign rfl (SOps.nil (SCode.seqR ?_))))
 refine SOps.litO sliceB_43_3_1 zeroIs_3 rfl (fun b0 hb_0 => ?_)
 refine SOps.assign rfl (SOps.nil (SCode.seq (SCode.seqR (SOps.move rfl (SOps.loadPinA rfl aggB_47_6 (Nat.le_of_ble_eq_true rfl) (SOps.callP (qValid hV _ _) rfl ?_))))))
 rintro _ rfl
 refine SOps.un rfl rfl (SOps.move rfl ?_)
 refine SOps.caseB 16 rfl (fun hb1 => ?_) (fun hb1 => ?_)
 ·try simp only [nmL] at hb1
  refine SOps.skip rfl (SOps.skip rfl (SOps.skip rfl (SOps.skip rfl (SOps.pick rfl rfl (SOps.nil ?_)))))
  refine SCode.cond rfl (fun _ => ?_) (fun h => by cases h)
  refine SCode.seqR (SOps.freezeS (t := 7) 0 rfl rfl rfl rfl (SOps.move rfl (SOps.assign rfl (SOps.nil (SCode.drop (SCode.ret ?_))))))
  exact ⟨_, Res.one (.tmp rfl), by first | (rw [sitesQ, if_neg (by simp_all [okR])]; rfl) | (rw [sitesQ, if_pos hok, ← ho]; rfl), rfl⟩
 ·try simp only [nmL] at hb1
  refine SOps.move rfl (SOps.move rfl (SOps.callP (qWord hV _ _) rfl ?_))
  rintro _ rfl
  refine SOps.un rfl rfl (SOps.pick rfl rfl (SOps.nil ?_))
  refine SCode.cond rfl (fun hc2 => ?_) (fun hc2 => ?_)
  ·try simp only [nmL] at hc2
   refine SCode.seqR (SOps.freezeS (t := 7) 0 rfl rfl rfl rfl (SOps.move rfl (SOps.assign rfl (SOps.nil (SCode.drop (SCode.ret ?_))))))
   exact ⟨_, Res.one (.tmp rfl), by first | (rw [sitesQ, if_neg (by simp_all [okR])]; rfl) | (rw [sitesQ, if_pos hok, ← ho]; rfl), rfl⟩
  ·try simp only [nmL] at hc2
   refine SCode.skip ?_
   show SCode _ _ _ _
   refine SCode.seqR (SOps.move rfl (SOps.runesF rfl rfl strB_9 sliceB_84_21_1 intB_21_i32 (SOps.assign rfl (SOps.nil (SCode.seq (SCode.seqR (SOps.assign rfl (SOps.nil (SCode.block ?_)))))))))
   have hok : okR a r s = true := by simp_all [okR]
   have hw40 : (runes s).length ≤ 40 := by have h40 : consS a 40 s = true := (by simp_all); rw [consS_eq] at h40; simp only [Bool.and_eq_true, decide_eq_true_eq] at h40; exact h40.1.2
   refine SCode.loop3 (fun (i : Nat) (out : List Nat) (k : Nat) => (⟨69, [(0, DLs a), (4, .ipin (encR r)), (7, .sl k 1 0 out.length), (8, DRunes (runes s)), (9, .v (.int .i64 (i : Int)))], [(k, .row 3 1 (out.map encN))]⟩ : St)) (fun (i : Nat) (out : List Nat) (k : Nat) => i ≤ (runes s).length + 1 ∧ (List.range i).filter (siteQ a r (runes s)) = out) (fun (i : Nat) (out : List Nat) (k : Nat) => (runes s).length + 1 - i) (0) ([]) (b0) (by exact ⟨Nat.zero_le _, rfl⟩) (St.Le.of ⟨(by first | rfl | (show some _ = some _; simp)), (by first | rfl | (show some _ = some _; simp)), (by first | rfl | (show some _ = some _; simp)), (by first | rfl | (show some _ = some _; simp)), (by first | rfl | (show some _ = some _; simp)), trivial⟩ rfl (by first | rfl | (simp))) ?_
   rintro i out k ⟨hi, ho⟩
   have hol := filter_len (siteQ a r (runes s)) i
   rw [ho] at hol
   refine SCode.seq (SCode.seqR (SOps.move rfl (SOps.move rfl (SOps.lenM rfl sliceB_84_21_1 (SOps.bin rfl rfl rfl (SOps.nil ?_))))))
   refine SCode.cond rfl (fun hc3 => ?_) (fun hc3 => ?_)
   ·try simp only [nmL] at hc3
    refine SCode.skip ?_
    show SCode _ _ _ _
    refine SCode.seq (SCode.block (SCode.seqR (SOps.move rfl (SOps.assign rfl (SOps.nil (SCode.seq (SCode.seqR (SOps.fieldPin rfl fieldB_47_0_0 (SOps.loadPin rfl flatB_21 (SOps.bin rfl rfl rfl (SOps.nil ?_)))))))))))
    refine SCode.cond rfl (fun hc4 => ?_) (fun hc4 => ?_)
    ·try simp only [nmL] at hc4
     refine SCode.seq (SCode.seq ?_)
     rcases (show i = (runes s).length ∨ i < (runes s).length from by omega) with hq | hq
     ·refine SCode.drawPure mixed_ [(35, .v (.int .i64 (i : Int))), (36, DRunes (runes s)), (37, .v (.int .i64 (((runes s).length : Nat) : Int))), (38, .v (.bool true)), (39, .v (.bool true)), (40, .v (.tuple #[])), (41, .v (.tuple #[])), (42, .v (.tuple #[])), (43, .v (.tuple #[])), (44, .v (.tuple #[])), (45, .v (.tuple #[])), (46, .v (.tuple #[])), (47, .v (.bool true))] [35, 36, 37, 38, 39, 40, 41, 42, 43, 44, 45, 46, 47] [[.inr 9], [.inr 8], [.inl 1], [.inl 0, .inl 2], [.inl 3], [.inl 4], [.inl 4], [.inl 4], [.inl 4], [.inl 4], [.inl 4], [.inl 4], [.inl 4, .inl 11]] [[(9, .v (.int .i64 (i : Int)))], [(8, DRunes (runes s))], [(36, DRunes (runes s))], [(35, .v (.int .i64 (i : Int))), (37, .v (.int .i64 (((runes s).length : Nat) : Int)))], [(38, .v (.bool true))], [(39, .v (.bool true))], [(39, .v (.bool true))], [(39, .v (.bool true))], [(39, .v (.bool true))], [(39, .v (.bool true))], [(39, .v (.bool true))], [(39, .v (.bool true))], [(39, .v (.bool true)), (46, .v (.tuple #[]))]] rfl (by kernel_rfl) (by kernel_rfl) rfl ?_ ?_
      ·refine OpsOk.cons (fun rest => ?_) ?_
       ·refine SOps.move rfl ?_
        exact SOps.nil (by first | rfl | simp_all)
       refine OpsOk.cons (fun rest => ?_) ?_
       ·refine SOps.move rfl ?_
        exact SOps.nil (by first | rfl | simp_all)
       refine OpsOk.cons (fun rest => ?_) ?_
       ·refine SOps.lenM rfl sliceB_84_21_1 ?_
        exact SOps.nil (by first | rfl | simp_all)
       refine OpsOk.cons (fun rest => ?_) ?_
       ·refine SOps.bin rfl rfl rfl ?_
        exact SOps.nil (by exact congrArg (fun b => St.put _ _ (.v (.bool b))) (beq_iff_eq.2 (by omega)))
       refine OpsOk.cons (fun rest => ?_) ?_
       ·refine SOps.move rfl ?_
        exact SOps.nil (by first | rfl | simp_all)
       refine OpsOk.cons (fun rest => ?_) ?_
       ·refine SOps.skip rfl ?_
        exact SOps.nil (by first | rfl | simp_all)
       refine OpsOk.cons (fun rest => ?_) ?_
       ·refine SOps.skip rfl ?_
        exact SOps.nil (by first | rfl | simp_all)
       refine OpsOk.cons (fun rest => ?_) ?_
       ·refine SOps.skip rfl ?_
        exact SOps.nil (by first | rfl | simp_all)
       refine OpsOk.cons (fun rest => ?_) ?_
       ·refine SOps.skip rfl ?_
        exact SOps.nil (by first | rfl | simp_all)
       refine OpsOk.cons (fun rest => ?_) ?_
       ·refine SOps.skip rfl ?_
        exact SOps.nil (by first | rfl | simp_all)
       refine OpsOk.cons (fun rest => ?_) ?_
       ·refine SOps.skip rfl ?_
        exact SOps.nil (by first | rfl | simp_all)
       refine OpsOk.cons (fun rest => ?_) ?_
       ·refine SOps.skip rfl ?_
        exact SOps.nil (by first | rfl | simp_all)
       refine OpsOk.cons (fun rest => ?_) ?_
       ·refine SOps.pick rfl rfl ?_
        exact SOps.nil (by first | rfl | simp_all)
       exact OpsOk.nil
      ·show SCode _ _ _ _
       refine SCode.cond rfl (fun _ => ?_) (fun h => by cases h)
       refine SCode.exit ?_
       show SCode _ _ _ _
       refine SCode.region (SOps.move rfl (SOps.addI rfl rfl (by first | omega | (simp only [lenB]; omega)) (by first | omega | (simp only [lenB]; omega)) (SOps.assign rfl (SOps.nil ?_))))
       first
        | exact ⟨i + 1, out ++ [i], b1, ⟨by omega, by rw [filter_succ, if_pos (by simp_all [siteQ]), ho]⟩, by omega, St.Le.of ⟨rfl, rfl, (by show some _ = some _; simp), rfl, rfl, trivial⟩ rfl (by rw [List.map_append]; rfl)⟩
        | exact ⟨i + 1, out ++ [i], b2, ⟨by omega, by rw [filter_succ, if_pos (by simp_all [siteQ]), ho]⟩, by omega, St.Le.of ⟨rfl, rfl, (by show some _ = some _; simp), rfl, rfl, trivial⟩ rfl (by rw [List.map_append]; rfl)⟩
        | exact ⟨i + 1, out, k, ⟨by omega, by rw [filter_succ, if_neg (by simp_all [siteQ]), ho, List.append_nil]⟩, by omega, St.Le.of ⟨rfl, rfl, rfl, rfl, rfl, trivial⟩⟩
     ·refine SCode.drawPure mixed_ [(35, .v (.int .i64 (i : Int))), (36, DRunes (runes s)), (37, .v (.int .i64 (((runes s).length : Nat) : Int))), (38, .v (.bool false)), (39, .v (.bool false)), (40, DRunes (runes s)), (41, .v (.int .i64 (i : Int))), (42, .ipin (rcell ((runes s)[i]))), (43, .v (.int .i32 ((runes s)[i]))), (44, .ipin ((encR r).drop 0)), (45, .v (.int .i32 r.fr)), (46, .v (.bool (!decide ((runes s)[i] = r.fr)))), (47, .v (.bool (!decide ((runes s)[i] = r.fr))))] [35, 36, 37, 38, 39, 40, 41, 42, 43, 44, 45, 46, 47] [[.inr 9], [.inr 8], [.inl 1], [.inl 0, .inl 2], [.inl 3], [.inl 4, .inr 8], [.inl 4, .inr 9], [.inl 4, .inl 5, .inl 6], [.inl 4, .inl 7], [.inl 4, .inr 4], [.inl 4, .inl 9], [.inl 4, .inl 8, .inl 10], [.inl 4, .inl 11]] [[(9, .v (.int .i64 (i : Int)))], [(8, DRunes (runes s))], [(36, DRunes (runes s))], [(35, .v (.int .i64 (i : Int))), (37, .v (.int .i64 (((runes s).length : Nat) : Int)))], [(38, .v (.bool false))], [(39, .v (.bool false)), (8, DRunes (runes s))], [(39, .v (.bool false)), (9, .v (.int .i64 (i : Int)))], [(39, .v (.bool false)), (40, DRunes (runes s)), (41, .v (.int .i64 (i : Int)))], [(39, .v (.bool false)), (42, .ipin (rcell ((runes s)[i])))], [(39, .v (.bool false)), (4, .ipin (encR r))], [(39, .v (.bool false)), (44, .ipin ((encR r).drop 0))], [(39, .v (.bool false)), (43, .v (.int .i32 ((runes s)[i]))), (45, .v (.int .i32 r.fr))], [(39, .v (.bool false)), (46, .v (.bool (!decide ((runes s)[i] = r.fr))))]] rfl (by kernel_rfl) (by kernel_rfl) rfl ?_ ?_
      ·refine OpsOk.cons (fun rest => ?_) ?_
       ·refine SOps.move rfl ?_
        exact SOps.nil (by first | rfl | simp_all)
       refine OpsOk.cons (fun rest => ?_) ?_
       ·refine SOps.move rfl ?_
        exact SOps.nil (by first | rfl | simp_all)
       refine OpsOk.cons (fun rest => ?_) ?_
       ·refine SOps.lenM rfl sliceB_84_21_1 ?_
        exact SOps.nil (by first | rfl | simp_all)
       refine OpsOk.cons (fun rest => ?_) ?_
       ·refine SOps.bin rfl rfl rfl ?_
        exact SOps.nil (by exact congrArg (fun b => St.put _ _ (.v (.bool b))) (beq_eq_false_iff_ne.2 (by omega)))
       refine OpsOk.cons (fun rest => ?_) ?_
       ·refine SOps.move rfl ?_
        exact SOps.nil (by first | rfl | simp_all)
       refine OpsOk.cons (fun rest => ?_) ?_
       ·refine SOps.move rfl ?_
        exact SOps.nil (by first | rfl | simp_all)
       refine OpsOk.cons (fun rest => ?_) ?_
       ·refine SOps.move rfl ?_
        exact SOps.nil (by first | rfl | simp_all)
       refine OpsOk.cons (fun rest => ?_) ?_
       ·refine SOps.indexM (i) rfl rfl sliceB_84_21_1 (by first | omega | (simp only [lenB]; omega)) (by first | omega | (simp only [lenB]; omega)) ?_
        exact SOps.nil (by first | rfl | simp_all)
       refine OpsOk.cons (fun rest => ?_) ?_
       ·refine SOps.loadPin rfl flatB_21 ?_
        exact SOps.nil (by first | rfl | simp_all)
       refine OpsOk.cons (fun rest => ?_) ?_
       ·refine SOps.fieldPin rfl fieldB_47_0_0 ?_
        exact SOps.nil (by first | rfl | simp_all)
       refine OpsOk.cons (fun rest => ?_) ?_
       ·refine SOps.loadPin rfl flatB_21 ?_
        exact SOps.nil (by first | rfl | simp_all)
       refine OpsOk.cons (fun rest => ?_) ?_
       ·refine SOps.bin rfl rfl rfl ?_
        exact SOps.nil (by first | rfl | simp_all)
       refine OpsOk.cons (fun rest => ?_) ?_
       ·refine SOps.pick rfl rfl ?_
        exact SOps.nil (by first | rfl | simp_all)
       exact OpsOk.nil
      ·show SCode _ _ _ _
       refine SCode.cond rfl (fun hc5 => ?_) (fun hc5 => ?_)
       ·try simp only [nmL] at hc5
        refine SCode.exit ?_
        show SCode _ _ _ _
        refine SCode.region (SOps.move rfl (SOps.addI rfl rfl (by first | omega | (simp only [lenB]; omega)) (by first | omega | (simp only [lenB]; omega)) (SOps.assign rfl (SOps.nil ?_))))
        first
         | exact ⟨i + 1, out ++ [i], b1, ⟨by omega, by rw [filter_succ, if_pos (by simp_all [siteQ]), ho]⟩, by omega, St.Le.of ⟨rfl, rfl, (by show some _ = some _; simp), rfl, rfl, trivial⟩ rfl (by rw [List.map_append]; rfl)⟩
         | exact ⟨i + 1, out ++ [i], b2, ⟨by omega, by rw [filter_succ, if_pos (by simp_all [siteQ]), ho]⟩, by omega, St.Le.of ⟨rfl, rfl, (by show some _ = some _; simp), rfl, rfl, trivial⟩ rfl (by rw [List.map_append]; rfl)⟩
         | exact ⟨i + 1, out, k, ⟨by omega, by rw [filter_succ, if_neg (by simp_all [siteQ]), ho, List.append_nil]⟩, by omega, St.Le.of ⟨rfl, rfl, rfl, rfl, rfl, trivial⟩⟩
       ·try simp only [nmL] at hc5
        refine SCode.skip ?_
        show SCode _ _ _ _
        refine SCode.region (SOps.move rfl (SOps.addI rfl rfl (by first | omega | (simp only [lenB]; omega)) (by first | omega | (simp only [lenB]; omega)) (SOps.assign rfl (SOps.nil ?_))))
        show SCode _ _ _ _
        refine SCode.seq ?_
        rcases hq3 : leftR a r ((runes s).take i) with _ | _
        ·refine SCode.drawPure mixed_ [(50, DLs a), (51, .agg (encR r)), (52, DRunes (runes s)), (53, .v (.int .i64 (i : Int))), (54, DRunes ((runes s).take i)), (55, .v (.bool false)), (56, .v (.bool false)), (57, .v (.tuple #[])), (58, .v (.tuple #[])), (59, .v (.tuple #[])), (60, .v (.tuple #[])), (61, .v (.tuple #[])), (62, .v (.tuple #[])), (63, .v (.bool false))] [50, 51, 52, 53, 54, 55, 56, 57, 58, 59, 60, 61, 62, 63] [[.inr 0], [.inr 4], [.inr 8], [.inr 9], [.inl 2, .inl 3], [.inl 0, .inl 1, .inl 4], [.inl 5], [.inl 6], [.inl 6], [.inl 6], [.inl 6], [.inl 6], [.inl 6], [.inl 6, .inl 12]] [[(0, DLs a)], [(4, .ipin (encR r))], [(8, DRunes (runes s))], [(9, .v (.int .i64 (i : Int)))], [(52, DRunes (runes s)), (53, .v (.int .i64 (i : Int)))], [(50, DLs a), (51, .agg (encR r)), (54, DRunes ((runes s).take i))], [(55, .v (.bool false))], [(56, .v (.bool false))], [(56, .v (.bool false))], [(56, .v (.bool false))], [(56, .v (.bool false))], [(56, .v (.bool false))], [(56, .v (.bool false))], [(56, .v (.bool false)), (62, .v (.tuple #[]))]] rfl (by kernel_rfl) (by kernel_rfl) rfl ?_ ?_
         ·refine OpsOk.cons (fun rest => ?_) ?_
          ·refine SOps.move rfl ?_
           exact SOps.nil (by first | rfl | simp_all)
          refine OpsOk.cons (fun rest => ?_) ?_
          ·refine SOps.loadPinA rfl aggB_47_6 (Nat.le_of_ble_eq_true rfl) ?_
           exact SOps.nil (by first | rfl | simp_all)
          refine OpsOk.cons (fun rest => ?_) ?_
          ·refine SOps.move rfl ?_
           exact SOps.nil (by first | rfl | simp_all)
          refine OpsOk.cons (fun rest => ?_) ?_
          ·refine SOps.move rfl ?_
           exact SOps.nil (by first | rfl | simp_all)
          refine OpsOk.cons (fun rest => ?_) ?_
          ·refine SOps.sliceT (n1 := 0) (i) sliceB_84_21_1 rfl rfl (by first | omega | (simp only [lenB]; omega)) (by first | omega | (simp only [lenB]; omega)) ?_
           exact SOps.nil (by first | rfl | simp_all)
          refine OpsOk.cons (fun rest => ?_) ?_
          ·refine SOps.callP (qLeft a r _ (by simp; omega)) rfl ?_
           rintro _ rfl
           exact SOps.nil (by exact congrArg (fun b => St.put _ _ (.v (.bool b))) hq3)
          refine OpsOk.cons (fun rest => ?_) ?_
          ·refine SOps.move rfl ?_
           exact SOps.nil (by first | rfl | simp_all)
          refine OpsOk.cons (fun rest => ?_) ?_
          ·refine SOps.skip rfl ?_
           exact SOps.nil (by first | rfl | simp_all)
          refine OpsOk.cons (fun rest => ?_) ?_
          ·refine SOps.skip rfl ?_
           exact SOps.nil (by first | rfl | simp_all)
          refine OpsOk.cons (fun rest => ?_) ?_
          ·refine SOps.skip rfl ?_
           exact SOps.nil (by first | rfl | simp_all)
          refine OpsOk.cons (fun rest => ?_) ?_
          ·refine SOps.skip rfl ?_
           exact SOps.nil (by first | rfl | simp_all)
          refine OpsOk.cons (fun rest => ?_) ?_
          ·refine SOps.skip rfl ?_
           exact SOps.nil (by first | rfl | simp_all)
          refine OpsOk.cons (fun rest => ?_) ?_
          ·refine SOps.skip rfl ?_
           exact SOps.nil (by first | rfl | simp_all)
          refine OpsOk.cons (fun rest => ?_) ?_
          ·refine SOps.pick rfl rfl ?_
           exact SOps.nil (by first | rfl | simp_all)
          exact OpsOk.nil
         ·show SCode _ _ _ _
          refine SCode.cond rfl (fun h => by cases h) (fun _ => ?_)
          refine SCode.skip ?_
          show SCode _ _ _ _
          refine SCode.region (SOps.move rfl (SOps.addI rfl rfl (by first | omega | (simp only [lenB]; omega)) (by first | omega | (simp only [lenB]; omega)) (SOps.assign rfl (SOps.nil ?_))))
          first
           | exact ⟨i + 1, out ++ [i], b1, ⟨by omega, by rw [filter_succ, if_pos (by simp_all [siteQ]), ho]⟩, by omega, St.Le.of ⟨rfl, rfl, (by show some _ = some _; simp), rfl, rfl, trivial⟩ rfl (by rw [List.map_append]; rfl)⟩
           | exact ⟨i + 1, out ++ [i], b2, ⟨by omega, by rw [filter_succ, if_pos (by simp_all [siteQ]), ho]⟩, by omega, St.Le.of ⟨rfl, rfl, (by show some _ = some _; simp), rfl, rfl, trivial⟩ rfl (by rw [List.map_append]; rfl)⟩
           | exact ⟨i + 1, out, k, ⟨by omega, by rw [filter_succ, if_neg (by simp_all [siteQ]), ho, List.append_nil]⟩, by omega, St.Le.of ⟨rfl, rfl, rfl, rfl, rfl, trivial⟩⟩
        ·refine SCode.drawPure mixed_ [(50, DLs a), (51, .agg (encR r)), (52, DRunes (runes s)), (53, .v (.int .i64 (i : Int))), (54, DRunes ((runes s).take i)), (55, .v (.bool true)), (56, .v (.bool true)), (57, DLs a), (58, .agg (encR r)), (59, DRunes (runes s)), (60, .v (.int .i64 ((i : Int) + 1))), (61, DRunes ((runes s).drop (i + 1))), (62, .v (.bool (rightR a r ((runes s).drop (i + 1))))), (63, .v (.bool (rightR a r ((runes s).drop (i + 1)))))] [50, 51, 52, 53, 54, 55, 56, 57, 58, 59, 60, 61, 62, 63] [[.inr 0], [.inr 4], [.inr 8], [.inr 9], [.inl 2, .inl 3], [.inl 0, .inl 1, .inl 4], [.inl 5], [.inl 6, .inr 0], [.inl 6, .inr 4], [.inl 6, .inr 8], [.inl 6, .inr 10], [.inl 6, .inl 9, .inl 10], [.inl 6, .inl 7, .inl 8, .inl 11], [.inl 6, .inl 12]] [[(0, DLs a)], [(4, .ipin (encR r))], [(8, DRunes (runes s))], [(9, .v (.int .i64 (i : Int)))], [(52, DRunes (runes s)), (53, .v (.int .i64 (i : Int)))], [(50, DLs a), (51, .agg (encR r)), (54, DRunes ((runes s).take i))], [(55, .v (.bool true))], [(56, .v (.bool true)), (0, DLs a)], [(56, .v (.bool true)), (4, .ipin (encR r))], [(56, .v (.bool true)), (8, DRunes (runes s))], [(56, .v (.bool true)), (10, .v (.int .i64 ((i : Int) + 1)))], [(56, .v (.bool true)), (59, DRunes (runes s)), (60, .v (.int .i64 ((i : Int) + 1)))], [(56, .v (.bool true)), (57, DLs a), (58, .agg (encR r)), (61, DRunes ((runes s).drop (i + 1)))], [(56, .v (.bool true)), (62, .v (.bool (rightR a r ((runes s).drop (i + 1)))))]] rfl (by kernel_rfl) (by kernel_rfl) rfl ?_ ?_
         ·refine OpsOk.cons (fun rest => ?_) ?_
          ·refine SOps.move rfl ?_
           exact SOps.nil (by first | rfl | simp_all)
          refine OpsOk.cons (fun rest => ?_) ?_
          ·refine SOps.loadPinA rfl aggB_47_6 (Nat.le_of_ble_eq_true rfl) ?_
           exact SOps.nil (by first | rfl | simp_all)
          refine OpsOk.cons (fun rest => ?_) ?_
          ·refine SOps.move rfl ?_
           exact SOps.nil (by first | rfl | simp_all)
          refine OpsOk.cons (fun rest => ?_) ?_
          ·refine SOps.move rfl ?_
           exact SOps.nil (by first | rfl | simp_all)
          refine OpsOk.cons (fun rest => ?_) ?_
          ·refine SOps.sliceT (n1 := 0) (i) sliceB_84_21_1 rfl rfl (by first | omega | (simp only [lenB]; omega)) (by first | omega | (simp only [lenB]; omega)) ?_
           exact SOps.nil (by first | rfl | simp_all)
          refine OpsOk.cons (fun rest => ?_) ?_
          ·refine SOps.callP (qLeft a r _ (by simp; omega)) rfl ?_
           rintro _ rfl
           exact SOps.nil (by exact congrArg (fun b => St.put _ _ (.v (.bool b))) hq3)
          refine OpsOk.cons (fun rest => ?_) ?_
          ·refine SOps.move rfl ?_
           exact SOps.nil (by first | rfl | simp_all)
          refine OpsOk.cons (fun rest => ?_) ?_
          ·refine SOps.move rfl ?_
           exact SOps.nil (by first | rfl | simp_all)
          refine OpsOk.cons (fun rest => ?_) ?_
          ·refine SOps.loadPinA rfl aggB_47_6 (Nat.le_of_ble_eq_true rfl) ?_
           exact SOps.nil (by first | rfl | simp_all)
          refine OpsOk.cons (fun rest => ?_) ?_
          ·refine SOps.move rfl ?_
           exact SOps.nil (by first | rfl | simp_all)
          refine OpsOk.cons (fun rest => ?_) ?_
          ·refine SOps.move rfl ?_
           exact SOps.nil (by first | rfl | simp_all)
          refine OpsOk.cons (fun rest => ?_) ?_
          ·refine SOps.sliceD (n1 := 0) (i + 1) sliceB_84_21_1 rfl rfl (by first | omega | (simp only [lenB]; omega)) (by first | omega | (simp only [lenB]; omega)) ?_
           exact SOps.nil (by first | rfl | simp_all)
          refine OpsOk.cons (fun rest => ?_) ?_
          ·refine SOps.callP (qRight a r _ (by simp; omega)) rfl ?_
           rintro _ rfl
           exact SOps.nil (by first | rfl | simp_all)
          refine OpsOk.cons (fun rest => ?_) ?_
          ·refine SOps.pick rfl rfl ?_
           exact SOps.nil (by first | rfl | simp_all)
          exact OpsOk.nil
         ·show SCode _ _ _ _
          refine SCode.cond rfl (fun hc6 => ?_) (fun hc6 => ?_)
          ·try simp only [nmL] at hc6
           refine SCode.region (SOps.move rfl (SOps.move rfl (SOps.litF rfl sliceB_43_3_1 zeroIs_3 rfl ?_)))
           refine SOps.appendOwn 0 sliceB_43_3_1 elemB_3_1_8 rfl rfl rfl (by simp) SrcD.isl (by simp) (by first | (simp [lenB] <;> (first | omega | (simp only [lenB]; omega))) | (simp only [lenB]; (first | omega | (simp only [lenB]; omega)))) (by first | (simp <;> (first | omega | (simp only [lenB]; omega))) | (first | omega | (simp only [lenB]; omega))) (fun b1 hb_1 => ?_)
           refine SOps.assign rfl (SOps.nil ?_)
           show SCode _ _ _ _
           refine SCode.region (SOps.move rfl (SOps.addI rfl rfl (by first | omega | (simp only [lenB]; omega)) (by first | omega | (simp only [lenB]; omega)) (SOps.assign rfl (SOps.nil ?_))))
           first
            | exact ⟨i + 1, out ++ [i], b1, ⟨by omega, by rw [filter_succ, if_pos (by simp_all [siteQ]), ho]⟩, by omega, St.Le.of ⟨rfl, rfl, (by show some _ = some _; simp), rfl, rfl, trivial⟩ rfl (by rw [List.map_append]; rfl)⟩
            | exact ⟨i + 1, out ++ [i], b2, ⟨by omega, by rw [filter_succ, if_pos (by simp_all [siteQ]), ho]⟩, by omega, St.Le.of ⟨rfl, rfl, (by show some _ = some _; simp), rfl, rfl, trivial⟩ rfl (by rw [List.map_append]; rfl)⟩
            | exact ⟨i + 1, out, k, ⟨by omega, by rw [filter_succ, if_neg (by simp_all [siteQ]), ho, List.append_nil]⟩, by omega, St.Le.of ⟨rfl, rfl, rfl, rfl, rfl, trivial⟩⟩
          ·try simp only [nmL] at hc6
           refine SCode.skip ?_
           show SCode _ _ _ _
           refine SCode.region (SOps.move rfl (SOps.addI rfl rfl (by first | omega | (simp only [lenB]; omega)) (by first | omega | (simp only [lenB]; omega)) (SOps.assign rfl (SOps.nil ?_))))
           first
            | exact ⟨i + 1, out ++ [i], b1, ⟨by omega, by rw [filter_succ, if_pos (by simp_all [siteQ]), ho]⟩, by omega, St.Le.of ⟨rfl, rfl, (by show some _ = some _; simp), rfl, rfl, trivial⟩ rfl (by rw [List.map_append]; rfl)⟩
            | exact ⟨i + 1, out ++ [i], b2, ⟨by omega, by rw [filter_succ, if_pos (by simp_all [siteQ]), ho]⟩, by omega, St.Le.of ⟨rfl, rfl, (by show some _ = some _; simp), rfl, rfl, trivial⟩ rfl (by rw [List.map_append]; rfl)⟩
            | exact ⟨i + 1, out, k, ⟨by omega, by rw [filter_succ, if_neg (by simp_all [siteQ]), ho, List.append_nil]⟩, by omega, St.Le.of ⟨rfl, rfl, rfl, rfl, rfl, trivial⟩⟩
    ·try simp only [nmL] at hc4
     refine SCode.skip ?_
     show SCode _ _ _ _
     refine SCode.seq ?_
     rcases hq3 : leftR a r ((runes s).take i) with _ | _
     ·refine SCode.drawPure mixed_ [(50, DLs a), (51, .agg (encR r)), (52, DRunes (runes s)), (53, .v (.int .i64 (i : Int))), (54, DRunes ((runes s).take i)), (55, .v (.bool false)), (56, .v (.bool false)), (57, .v (.tuple #[])), (58, .v (.tuple #[])), (59, .v (.tuple #[])), (60, .v (.tuple #[])), (61, .v (.tuple #[])), (62, .v (.tuple #[])), (63, .v (.bool false))] [50, 51, 52, 53, 54, 55, 56, 57, 58, 59, 60, 61, 62, 63] [[.inr 0], [.inr 4], [.inr 8], [.inr 9], [.inl 2, .inl 3], [.inl 0, .inl 1, .inl 4], [.inl 5], [.inl 6], [.inl 6], [.inl 6], [.inl 6], [.inl 6], [.inl 6], [.inl 6, .inl 12]] [[(0, DLs a)], [(4, .ipin (encR r))], [(8, DRunes (runes s))], [(9, .v (.int .i64 (i : Int)))], [(52, DRunes (runes s)), (53, .v (.int .i64 (i : Int)))], [(50, DLs a), (51, .agg (encR r)), (54, DRunes ((runes s).take i))], [(55, .v (.bool false))], [(56, .v (.bool false))], [(56, .v (.bool false))], [(56, .v (.bool false))], [(56, .v (.bool false))], [(56, .v (.bool false))], [(56, .v (.bool false))], [(56, .v (.bool false)), (62, .v (.tuple #[]))]] rfl (by kernel_rfl) (by kernel_rfl) rfl ?_ ?_
      ·refine OpsOk.cons (fun rest => ?_) ?_
       ·refine SOps.move rfl ?_
        exact SOps.nil (by first | rfl | simp_all)
       refine OpsOk.cons (fun rest => ?_) ?_
       ·refine SOps.loadPinA rfl aggB_47_6 (Nat.le_of_ble_eq_true rfl) ?_
        exact SOps.nil (by first | rfl | simp_all)
       refine OpsOk.cons (fun rest => ?_) ?_
       ·refine SOps.move rfl ?_
        exact SOps.nil (by first | rfl | simp_all)
       refine OpsOk.cons (fun rest => ?_) ?_
       ·refine SOps.move rfl ?_
        exact SOps.nil (by first | rfl | simp_all)
       refine OpsOk.cons (fun rest => ?_) ?_
       ·refine SOps.sliceT (n1 := 0) (i) sliceB_84_21_1 rfl rfl (by first | omega | (simp only [lenB]; omega)) (by first | omega | (simp only [lenB]; omega)) ?_
        exact SOps.nil (by first | rfl | simp_all)
       refine OpsOk.cons (fun rest => ?_) ?_
       ·refine SOps.callP (qLeft a r _ (by simp; omega)) rfl ?_
        rintro _ rfl
        exact SOps.nil (by exact congrArg (fun b => St.put _ _ (.v (.bool b))) hq3)
       refine OpsOk.cons (fun rest => ?_) ?_
       ·refine SOps.move rfl ?_
        exact SOps.nil (by first | rfl | simp_all)
       refine OpsOk.cons (fun rest => ?_) ?_
       ·refine SOps.skip rfl ?_
        exact SOps.nil (by first | rfl | simp_all)
       refine OpsOk.cons (fun rest => ?_) ?_
       ·refine SOps.skip rfl ?_
        exact SOps.nil (by first | rfl | simp_all)
       refine OpsOk.cons (fun rest => ?_) ?_
       ·refine SOps.skip rfl ?_
        exact SOps.nil (by first | rfl | simp_all)
       refine OpsOk.cons (fun rest => ?_) ?_
       ·refine SOps.skip rfl ?_
        exact SOps.nil (by first | rfl | simp_all)
       refine OpsOk.cons (fun rest => ?_) ?_
       ·refine SOps.skip rfl ?_
        exact SOps.nil (by first | rfl | simp_all)
       refine OpsOk.cons (fun rest => ?_) ?_
       ·refine SOps.skip rfl ?_
        exact SOps.nil (by first | rfl | simp_all)
       refine OpsOk.cons (fun rest => ?_) ?_
       ·refine SOps.pick rfl rfl ?_
        exact SOps.nil (by first | rfl | simp_all)
       exact OpsOk.nil
      ·show SCode _ _ _ _
       refine SCode.cond rfl (fun h => by cases h) (fun _ => ?_)
       refine SCode.skip ?_
       show SCode _ _ _ _
       refine SCode.region (SOps.move rfl (SOps.addI rfl rfl (by first | omega | (simp only [lenB]; omega)) (by first | omega | (simp only [lenB]; omega)) (SOps.assign rfl (SOps.nil ?_))))
       first
        | exact ⟨i + 1, out ++ [i], b1, ⟨by omega, by rw [filter_succ, if_pos (by simp_all [siteQ]), ho]⟩, by omega, St.Le.of ⟨rfl, rfl, (by show some _ = some _; simp), rfl, rfl, trivial⟩ rfl (by rw [List.map_append]; rfl)⟩
        | exact ⟨i + 1, out ++ [i], b2, ⟨by omega, by rw [filter_succ, if_pos (by simp_all [siteQ]), ho]⟩, by omega, St.Le.of ⟨rfl, rfl, (by show some _ = some _; simp), rfl, rfl, trivial⟩ rfl (by rw [List.map_append]; rfl)⟩
        | exact ⟨i + 1, out, k, ⟨by omega, by rw [filter_succ, if_neg (by simp_all [siteQ]), ho, List.append_nil]⟩, by omega, St.Le.of ⟨rfl, rfl, rfl, rfl, rfl, trivial⟩⟩
     ·refine SCode.drawPure mixed_ [(50, DLs a), (51, .agg (encR r)), (52, DRunes (runes s)), (53, .v (.int .i64 (i : Int))), (54, DRunes ((runes s).take i)), (55, .v (.bool true)), (56, .v (.bool true)), (57, DLs a), (58, .agg (encR r)), (59, DRunes (runes s)), (60, .v (.int .i64 (i : Int))), (61, DRunes ((runes s).drop (i))), (62, .v (.bool (rightR a r ((runes s).drop (i))))), (63, .v (.bool (rightR a r ((runes s).drop (i)))))] [50, 51, 52, 53, 54, 55, 56, 57, 58, 59, 60, 61, 62, 63] [[.inr 0], [.inr 4], [.inr 8], [.inr 9], [.inl 2, .inl 3], [.inl 0, .inl 1, .inl 4], [.inl 5], [.inl 6, .inr 0], [.inl 6, .inr 4], [.inl 6, .inr 8], [.inl 6, .inr 10], [.inl 6, .inl 9, .inl 10], [.inl 6, .inl 7, .inl 8, .inl 11], [.inl 6, .inl 12]] [[(0, DLs a)], [(4, .ipin (encR r))], [(8, DRunes (runes s))], [(9, .v (.int .i64 (i : Int)))], [(52, DRunes (runes s)), (53, .v (.int .i64 (i : Int)))], [(50, DLs a), (51, .agg (encR r)), (54, DRunes ((runes s).take i))], [(55, .v (.bool true))], [(56, .v (.bool true)), (0, DLs a)], [(56, .v (.bool true)), (4, .ipin (encR r))], [(56, .v (.bool true)), (8, DRunes (runes s))], [(56, .v (.bool true)), (10, .v (.int .i64 (i : Int)))], [(56, .v (.bool true)), (59, DRunes (runes s)), (60, .v (.int .i64 (i : Int)))], [(56, .v (.bool true)), (57, DLs a), (58, .agg (encR r)), (61, DRunes ((runes s).drop (i)))], [(56, .v (.bool true)), (62, .v (.bool (rightR a r ((runes s).drop (i)))))]] rfl (by kernel_rfl) (by kernel_rfl) rfl ?_ ?_
      ·refine OpsOk.cons (fun rest => ?_) ?_
       ·refine SOps.move rfl ?_
        exact SOps.nil (by first | rfl | simp_all)
       refine OpsOk.cons (fun rest => ?_) ?_
       ·refine SOps.loadPinA rfl aggB_47_6 (Nat.le_of_ble_eq_true rfl) ?_
        exact SOps.nil (by first | rfl | simp_all)
       refine OpsOk.cons (fun rest => ?_) ?_
       ·refine SOps.move rfl ?_
        exact SOps.nil (by first | rfl | simp_all)
       refine OpsOk.cons (fun rest => ?_) ?_
       ·refine SOps.move rfl ?_
        exact SOps.nil (by first | rfl | simp_all)
       refine OpsOk.cons (fun rest => ?_) ?_
       ·refine SOps.sliceT (n1 := 0) (i) sliceB_84_21_1 rfl rfl (by first | omega | (simp only [lenB]; omega)) (by first | omega | (simp only [lenB]; omega)) ?_
        exact SOps.nil (by first | rfl | simp_all)
       refine OpsOk.cons (fun rest => ?_) ?_
       ·refine SOps.callP (qLeft a r _ (by simp; omega)) rfl ?_
        rintro _ rfl
        exact SOps.nil (by exact congrArg (fun b => St.put _ _ (.v (.bool b))) hq3)
       refine OpsOk.cons (fun rest => ?_) ?_
       ·refine SOps.move rfl ?_
        exact SOps.nil (by first | rfl | simp_all)
       refine OpsOk.cons (fun rest => ?_) ?_
       ·refine SOps.move rfl ?_
        exact SOps.nil (by first | rfl | simp_all)
       refine OpsOk.cons (fun rest => ?_) ?_
       ·refine SOps.loadPinA rfl aggB_47_6 (Nat.le_of_ble_eq_true rfl) ?_
        exact SOps.nil (by first | rfl | simp_all)
       refine OpsOk.cons (fun rest => ?_) ?_
       ·refine SOps.move rfl ?_
        exact SOps.nil (by first | rfl | simp_all)
       refine OpsOk.cons (fun rest => ?_) ?_
       ·refine SOps.move rfl ?_
        exact SOps.nil (by first | rfl | simp_all)
       refine OpsOk.cons (fun rest => ?_) ?_
       ·refine SOps.sliceD (n1 := 0) (i) sliceB_84_21_1 rfl rfl (by first | omega | (simp only [lenB]; omega)) (by first | omega | (simp only [lenB]; omega)) ?_
        exact SOps.nil (by first | rfl | simp_all)
       refine OpsOk.cons (fun rest => ?_) ?_
       ·refine SOps.callP (qRight a r _ (by simp; omega)) rfl ?_
        rintro _ rfl
        exact SOps.nil (by first | rfl | simp_all)
       refine OpsOk.cons (fun rest => ?_) ?_
       ·refine SOps.pick rfl rfl ?_
        exact SOps.nil (by first | rfl | simp_all)
       exact OpsOk.nil
      ·show SCode _ _ _ _
       refine SCode.cond rfl (fun hc7 => ?_) (fun hc7 => ?_)
       ·try simp only [nmL] at hc7
        refine SCode.region (SOps.move rfl (SOps.move rfl (SOps.litF rfl sliceB_43_3_1 zeroIs_3 rfl ?_)))
        refine SOps.appendOwn 0 sliceB_43_3_1 elemB_3_1_8 rfl rfl rfl (by simp) SrcD.isl (by simp) (by first | (simp [lenB] <;> (first | omega | (simp only [lenB]; omega))) | (simp only [lenB]; (first | omega | (simp only [lenB]; omega)))) (by first | (simp <;> (first | omega | (simp only [lenB]; omega))) | (first | omega | (simp only [lenB]; omega))) (fun b2 hb_2 => ?_)
        refine SOps.assign rfl (SOps.nil ?_)
        show SCode _ _ _ _
        refine SCode.region (SOps.move rfl (SOps.addI rfl rfl (by first | omega | (simp only [lenB]; omega)) (by first | omega | (simp only [lenB]; omega)) (SOps.assign rfl (SOps.nil ?_))))
        first
         | exact ⟨i + 1, out ++ [i], b1, ⟨by omega, by rw [filter_succ, if_pos (by simp_all [siteQ]), ho]⟩, by omega, St.Le.of ⟨rfl, rfl, (by show some _ = some _; simp), rfl, rfl, trivial⟩ rfl (by rw [List.map_append]; rfl)⟩
         | exact ⟨i + 1, out ++ [i], b2, ⟨by omega, by rw [filter_succ, if_pos (by simp_all [siteQ]), ho]⟩, by omega, St.Le.of ⟨rfl, rfl, (by show some _ = some _; simp), rfl, rfl, trivial⟩ rfl (by rw [List.map_append]; rfl)⟩
         | exact ⟨i + 1, out, k, ⟨by omega, by rw [filter_succ, if_neg (by simp_all [siteQ]), ho, List.append_nil]⟩, by omega, St.Le.of ⟨rfl, rfl, rfl, rfl, rfl, trivial⟩⟩
       ·try simp only [nmL] at hc7
        refine SCode.skip ?_
        show SCode _ _ _ _
        refine SCode.region (SOps.move rfl (SOps.addI rfl rfl (by first | omega | (simp only [lenB]; omega)) (by first | omega | (simp only [lenB]; omega)) (SOps.assign rfl (SOps.nil ?_))))
        first
         | exact ⟨i + 1, out ++ [i], b1, ⟨by omega, by rw [filter_succ, if_pos (by simp_all [siteQ]), ho]⟩, by omega, St.Le.of ⟨rfl, rfl, (by show some _ = some _; simp), rfl, rfl, trivial⟩ rfl (by rw [List.map_append]; rfl)⟩
         | exact ⟨i + 1, out ++ [i], b2, ⟨by omega, by rw [filter_succ, if_pos (by simp_all [siteQ]), ho]⟩, by omega, St.Le.of ⟨rfl, rfl, (by show some _ = some _; simp), rfl, rfl, trivial⟩ rfl (by rw [List.map_append]; rfl)⟩
         | exact ⟨i + 1, out, k, ⟨by omega, by rw [filter_succ, if_neg (by simp_all [siteQ]), ho, List.append_nil]⟩, by omega, St.Le.of ⟨rfl, rfl, rfl, rfl, rfl, trivial⟩⟩
   ·try simp only [nmL] at hc3
    refine SCode.exit ?_
    show SCode _ _ _ _
    refine SCode.seqR (SOps.freezeS (t := 7) 0 rfl rfl rfl (by simp) ?_)
    obtain rfl : i = (runes s).length + 1 := by omega
    refine SOps.move rfl (SOps.assign rfl (SOps.nil (SCode.drop (SCode.ret ?_))))
    exact ⟨_, Res.one (.tmp rfl), by first | (rw [sitesQ, if_neg (by simp_all [okR])]; rfl) | (rw [sitesQ, if_pos hok, ← ho]; rfl), rfl⟩
def resF (fr : Int) (tl : List Int) : List Int → Nat → List Nat → List Int
  | [], i, ss => if ss.head? = some i then tl else []
  | c :: w, i, ss => (if ss.head? = some i then tl else []) ++ ((if ss.head? = some i ∧ fr ≠ 0 then [] else [c]) ++ resF fr tl w (i + 1) (if ss.head? = some i then ss.tail else ss))
theorem resF_nil (fr : Int) (tl : List Int) (i : Nat) (ss : List Nat) : resF fr tl [] i ss = if ss.head? = some i then tl else [] := rfl
theorem resF_cons (fr : Int) (tl : List Int) (c : Int) (w : List Int) (i : Nat) (ss : List Nat) : resF fr tl (c :: w) i ss = (if ss.head? = some i then tl else []) ++ ((if ss.head? = some i ∧ fr ≠ 0 then [] else [c]) ++ resF fr tl w (i + 1) (if ss.head? = some i then ss.tail else ss)) := rfl
theorem resF_len (fr : Int) (tl : List Int) : ∀ (w : List Int) (i : Nat) (ss : List Nat), (resF fr tl w i ss).length ≤ (w.length + 1) * (tl.length + 1)
  | [], i, ss => by rw [resF_nil]; split <;> simp
  | c :: w, i, ss => by
    have := resF_len fr tl w (i + 1) (if ss.head? = some i then ss.tail else ss)
    rw [resF_cons, List.length_append, List.length_append, List.length_cons, Nat.add_mul (w.length + 1) 1]
    have h1 : (if ss.head? = some i then tl else []).length ≤ tl.length := by split <;> simp
    have h2 : (if ss.head? = some i ∧ fr ≠ 0 then [] else [c]).length ≤ 1 := by split <;> simp
    omega
theorem rResult (r : Rule) (l : List Nat) (s : ByteArray) (h4 : (runes r.«to»).length ≤ 4) (h40 : (runes s).length ≤ 40) : GCall Tryd.prog E 96 [.agg (encR r), DNats l, .v (.string s)] [] (fun d H => d = .v (.string (encs (resF r.fr (runes r.«to») (runes s) 0 l))) ∧ H = []) := by
 refine GCall.body (C := ⟨Tryd.prog, E, true⟩) Tryd.func96 rfl (fun _ => rfl) (by kernel_rfl) rfl ?_
 refine SCode.seqR (SOps.boxAM rfl rfl (SOps.assign rfl (SOps.nil (SCode.seqR (SOps.move rfl (SOps.runesF rfl rfl strB_9 sliceB_84_21_1 intB_21_i32 (SOps.assign rfl (SOps.nil (SCode.seqR (SOps.fieldPin rfl fieldB_47_1_1 (SOps.loadPin rfl flatB_9 (SOps.runesF rfl rfl strB_9 sliceB_84_21_1 intB_21_i32 (SOps.assign rfl (SOps.nil (SCode.seqR (SOps.assign rfl (SOps.nil (SCode.seq (SCode.seqR (SOps.assign rfl (SOps.nil (SCode.block (SCode.loop4 (fun (i : Nat) (ss : List Nat) (out : List Int) (k : Nat) => (⟨61, [(1, DNats ss), (3, .ipin (encR r)), (7, DRunes (runes s)), (8, DRunes (runes r.«to»)), (9, accD 1 k (out.map rcell)), (10, .v (.int .i64 (i : Int)))], accH 21 1 k (out.map rcell) ++ []⟩ : St)) (fun (i : Nat) (ss : List Nat) (out : List Int) (k : Nat) => out.length ≤ 5 * i ∧ ((i ≤ (runes s).length ∧ out ++ resF r.fr (runes r.«to») ((runes s).drop i) i ss = resF r.fr (runes r.«to») (runes s) 0 l) ∨ (i = (runes s).length + 1 ∧ out = resF r.fr (runes r.«to») (runes s) 0 l))) (fun (i : Nat) (ss : List Nat) (out : List Int) (k : Nat) => (runes s).length + 1 - i) (0) (l) ([]) (0) (by exact ⟨Nat.le_refl _, .inl ⟨Nat.zero_le _, rfl⟩⟩) (St.Le.of ⟨(by first | rfl | (show some _ = some _; simp)), (by first | rfl | (show some _ = some _; simp)), (by first | rfl | (show some _ = some _; simp)), (by first | rfl | (show some _ = some _; simp)), (by first | rfl | (show some _ = some _; simp)), (by first | rfl | (show some _ = some _; simp)), trivial⟩ rfl (by first | rfl | (simp))) ?_)))))))))))))))))))))))
 rintro i ss out k ⟨hol, hf⟩
 refine SCode.seq (SCode.seqR (SOps.move rfl (SOps.move rfl (SOps.lenM rfl sliceB_84_21_1 (SOps.bin rfl rfl rfl (SOps.nil ?_))))))
 refine SCode.cond rfl (fun hc1 => ?_) (fun hc1 => ?_)
 ·try simp only [nmL] at hc1
  refine SCode.skip ?_
  show SCode _ _ _ _
  refine SCode.seq (SCode.block (SCode.seqR ?_))
  have hf2 := (hf.resolve_right (by omega)).2
  have hdn : i = (runes s).length → (runes s).drop i = [] := fun h => List.drop_eq_nil_of_le (by omega)
  have hdc : ∀ h : i < (runes s).length, (runes s).drop i = (runes s)[i] :: (runes s).drop (i + 1) := fun h => List.drop_eq_getElem_cons h
  refine SOps.move rfl (SOps.lenM rfl sliceB_43_3_1 (SOps.bin rfl rfl rfl (SOps.move rfl ?_)))
  refine SOps.caseB 26 rfl (fun hb2 => ?_) (fun hb2 => ?_)
  ·try simp only [nmL] at hb2
   obtain ⟨s0, ss0, rfl⟩ : ∃ s0 ss0, ss = s0 :: ss0 := by cases ss with | nil => exact absurd hb2 (by simp) | cons x y => exact ⟨x, y, rfl⟩
   refine SOps.move rfl (SOps.indexM (0) rfl rfl sliceB_43_3_1 (by first | omega | (simp only [lenB]; omega)) (by first | omega | (simp only [lenB]; omega)) (SOps.loadPin rfl flatB_3 (SOps.move rfl (SOps.bin rfl rfl rfl (SOps.pick rfl rfl (SOps.assign rfl (SOps.nil (SCode.seq (SCode.seqR (SOps.move rfl (SOps.nil ?_)))))))))))
   refine SCode.cond rfl (fun hc3 => ?_) (fun hc3 => ?_)
   ·try simp only [nmL] at hc3
    have hs0 : s0 = i := Int.ofNat.inj hc3
    refine SCode.seqR (SOps.move rfl (SOps.sliceD (n1 := 0) (1) sliceB_43_3_1 rfl rfl (by first | omega | (simp only [lenB]; omega)) (by first | omega | (simp only [lenB]; omega)) (SOps.assign rfl (SOps.nil (SCode.region (SOps.move rfl (SOps.move rfl ?_)))))))
    refine SOps.appendAccE [] [] sliceB_84_21_1 elemB_21_1_4 rfl rfl rfl SrcD.isl (by simp [lenB]; omega) (by simp; omega) (fun kA => ?_)
    refine SOps.assign rfl (SOps.nil ?_)
    show SCode _ _ _ _
    refine SCode.seqR (SOps.move rfl (SOps.move rfl (SOps.lenM rfl sliceB_84_21_1 (SOps.bin rfl rfl rfl (SOps.move rfl ?_)))))
    refine SOps.caseB 43 rfl (fun hb4 => ?_) (fun hb4 => ?_)
    ·try simp only [nmL] at hb4
     refine SOps.move rfl (SOps.un rfl rfl (SOps.move rfl ?_))
     refine SOps.caseB 46 rfl (fun hb5 => ?_) (fun hb5 => ?_)
     ·try simp only [nmL] at hb5
      refine SOps.skip rfl (SOps.skip rfl (SOps.skip rfl (SOps.pick rfl rfl (SOps.pick rfl rfl (SOps.nil ?_)))))
      refine SCode.cond rfl (fun _ => ?_) (fun h => by cases h)
      refine SCode.region (SOps.move rfl (SOps.move rfl (SOps.move rfl (SOps.indexM (i) rfl rfl sliceB_84_21_1 (by first | omega | (simp only [lenB]; omega)) (by first | omega | (simp only [lenB]; omega)) (SOps.loadPin rfl flatB_21 (SOps.litF rfl sliceB_84_21_1 zeroIs_21 rfl ?_))))))
      refine SOps.appendAcc [] [] sliceB_84_21_1 elemB_21_1_4 rfl rfl rfl SrcD.isl (by simp) (by simp [lenB]; omega) (by simp; omega) (fun kB => ?_)
      refine SOps.assign rfl (SOps.nil ?_)
      show SCode _ _ _ _
      refine SCode.region (SOps.move rfl (SOps.addI rfl rfl (by first | omega | (simp only [lenB]; omega)) (by first | omega | (simp only [lenB]; omega)) (SOps.assign rfl (SOps.nil ?_))))
      first
       | (exfalso; simp only [List.getElem_cons_zero] at *; omega)
       | exact ⟨i + 1, ss0, out ++ runes r.«to» ++ [(runes s)[i]], ((fun _ : Nat => kB) kA), ⟨by first | omega | (simp; omega), by cases Nat.lt_or_ge i (runes s).length with | inl hlt => (first | (exfalso; omega) | (left; refine ⟨by omega, ?_⟩; rw [← hf2, hdc hlt, resF_cons]; clear hf2 hf hdc hdn; simp_all; done)) | inr hge => (first | (exfalso; omega) | (right; refine ⟨by omega, ?_⟩; rw [← hf2, hdn (by omega), resF_nil]; clear hf2 hf hdc hdn; simp_all; done))⟩, by omega, St.Le.of ⟨rfl, rfl, rfl, rfl, (by show some _ = some _; first | (simp only [List.map_append, List.append_assoc]; done) | (simp only [List.map_append, List.append_assoc]; rfl)), rfl, trivial⟩ rfl (by first | (simp only [List.map_append, List.append_assoc]; done) | (simp only [List.map_append, List.append_assoc]; rfl))⟩
       | exact ⟨i + 1, (s0 :: ss0), out ++ runes r.«to» ++ [(runes s)[i]], ((fun _ : Nat => kB) kA), ⟨by first | omega | (simp; omega), by cases Nat.lt_or_ge i (runes s).length with | inl hlt => (first | (exfalso; omega) | (left; refine ⟨by omega, ?_⟩; rw [← hf2, hdc hlt, resF_cons]; clear hf2 hf hdc hdn; simp_all; done)) | inr hge => (first | (exfalso; omega) | (right; refine ⟨by omega, ?_⟩; rw [← hf2, hdn (by omega), resF_nil]; clear hf2 hf hdc hdn; simp_all; done))⟩, by omega, St.Le.of ⟨rfl, rfl, rfl, rfl, (by show some _ = some _; first | (simp only [List.map_append, List.append_assoc]; done) | (simp only [List.map_append, List.append_assoc]; rfl)), rfl, trivial⟩ rfl (by first | (simp only [List.map_append, List.append_assoc]; done) | (simp only [List.map_append, List.append_assoc]; rfl))⟩
       | exact ⟨i + 1, [], out ++ runes r.«to» ++ [(runes s)[i]], ((fun _ : Nat => kB) kA), ⟨by first | omega | (simp; omega), by cases Nat.lt_or_ge i (runes s).length with | inl hlt => (first | (exfalso; omega) | (left; refine ⟨by omega, ?_⟩; rw [← hf2, hdc hlt, resF_cons]; clear hf2 hf hdc hdn; simp_all; done)) | inr hge => (first | (exfalso; omega) | (right; refine ⟨by omega, ?_⟩; rw [← hf2, hdn (by omega), resF_nil]; clear hf2 hf hdc hdn; simp_all; done))⟩, by omega, St.Le.of ⟨rfl, rfl, rfl, rfl, (by show some _ = some _; first | (simp only [List.map_append, List.append_assoc]; done) | (simp only [List.map_append, List.append_assoc]; rfl)), rfl, trivial⟩ rfl (by first | (simp only [List.map_append, List.append_assoc]; done) | (simp only [List.map_append, List.append_assoc]; rfl))⟩
       | exact ⟨i + 1, ss0, out ++ runes r.«to», kA, ⟨by first | omega | (simp; omega), by cases Nat.lt_or_ge i (runes s).length with | inl hlt => (first | (exfalso; omega) | (left; refine ⟨by omega, ?_⟩; rw [← hf2, hdc hlt, resF_cons]; clear hf2 hf hdc hdn; simp_all; done)) | inr hge => (first | (exfalso; omega) | (right; refine ⟨by omega, ?_⟩; rw [← hf2, hdn (by omega), resF_nil]; clear hf2 hf hdc hdn; simp_all; done))⟩, by omega, St.Le.of ⟨rfl, rfl, rfl, rfl, (by show some _ = some _; first | (simp only [List.map_append, List.append_assoc]; done) | (simp only [List.map_append, List.append_assoc]; rfl)), rfl, trivial⟩ rfl (by first | (simp only [List.map_append, List.append_assoc]; done) | (simp only [List.map_append, List.append_assoc]; rfl))⟩
       | exact ⟨i + 1, (s0 :: ss0), out ++ runes r.«to», kA, ⟨by first | omega | (simp; omega), by cases Nat.lt_or_ge i (runes s).length with | inl hlt => (first | (exfalso; omega) | (left; refine ⟨by omega, ?_⟩; rw [← hf2, hdc hlt, resF_cons]; clear hf2 hf hdc hdn; simp_all; done)) | inr hge => (first | (exfalso; omega) | (right; refine ⟨by omega, ?_⟩; rw [← hf2, hdn (by omega), resF_nil]; clear hf2 hf hdc hdn; simp_all; done))⟩, by omega, St.Le.of ⟨rfl, rfl, rfl, rfl, (by show some _ = some _; first | (simp only [List.map_append, List.append_assoc]; done) | (simp only [List.map_append, List.append_assoc]; rfl)), rfl, trivial⟩ rfl (by first | (simp only [List.map_append, List.append_assoc]; done) | (simp only [List.map_append, List.append_assoc]; rfl))⟩
       | exact ⟨i + 1, [], out ++ runes r.«to», kA, ⟨by first | omega | (simp; omega), by cases Nat.lt_or_ge i (runes s).length with | inl hlt => (first | (exfalso; omega) | (left; refine ⟨by omega, ?_⟩; rw [← hf2, hdc hlt, resF_cons]; clear hf2 hf hdc hdn; simp_all; done)) | inr hge => (first | (exfalso; omega) | (right; refine ⟨by omega, ?_⟩; rw [← hf2, hdn (by omega), resF_nil]; clear hf2 hf hdc hdn; simp_all; done))⟩, by omega, St.Le.of ⟨rfl, rfl, rfl, rfl, (by show some _ = some _; first | (simp only [List.map_append, List.append_assoc]; done) | (simp only [List.map_append, List.append_assoc]; rfl)), rfl, trivial⟩ rfl (by first | (simp only [List.map_append, List.append_assoc]; done) | (simp only [List.map_append, List.append_assoc]; rfl))⟩
       | exact ⟨i + 1, ss0, out ++ [(runes s)[i]], kB, ⟨by first | omega | (simp; omega), by cases Nat.lt_or_ge i (runes s).length with | inl hlt => (first | (exfalso; omega) | (left; refine ⟨by omega, ?_⟩; rw [← hf2, hdc hlt, resF_cons]; clear hf2 hf hdc hdn; simp_all; done)) | inr hge => (first | (exfalso; omega) | (right; refine ⟨by omega, ?_⟩; rw [← hf2, hdn (by omega), resF_nil]; clear hf2 hf hdc hdn; simp_all; done))⟩, by omega, St.Le.of ⟨rfl, rfl, rfl, rfl, (by show some _ = some _; first | (simp only [List.map_append, List.append_assoc]; done) | (simp only [List.map_append, List.append_assoc]; rfl)), rfl, trivial⟩ rfl (by first | (simp only [List.map_append, List.append_assoc]; done) | (simp only [List.map_append, List.append_assoc]; rfl))⟩
       | exact ⟨i + 1, (s0 :: ss0), out ++ [(runes s)[i]], kB, ⟨by first | omega | (simp; omega), by cases Nat.lt_or_ge i (runes s).length with | inl hlt => (first | (exfalso; omega) | (left; refine ⟨by omega, ?_⟩; rw [← hf2, hdc hlt, resF_cons]; clear hf2 hf hdc hdn; simp_all; done)) | inr hge => (first | (exfalso; omega) | (right; refine ⟨by omega, ?_⟩; rw [← hf2, hdn (by omega), resF_nil]; clear hf2 hf hdc hdn; simp_all; done))⟩, by omega, St.Le.of ⟨rfl, rfl, rfl, rfl, (by show some _ = some _; first | (simp only [List.map_append, List.append_assoc]; done) | (simp only [List.map_append, List.append_assoc]; rfl)), rfl, trivial⟩ rfl (by first | (simp only [List.map_append, List.append_assoc]; done) | (simp only [List.map_append, List.append_assoc]; rfl))⟩
       | exact ⟨i + 1, [], out ++ [(runes s)[i]], kB, ⟨by first | omega | (simp; omega), by cases Nat.lt_or_ge i (runes s).length with | inl hlt => (first | (exfalso; omega) | (left; refine ⟨by omega, ?_⟩; rw [← hf2, hdc hlt, resF_cons]; clear hf2 hf hdc hdn; simp_all; done)) | inr hge => (first | (exfalso; omega) | (right; refine ⟨by omega, ?_⟩; rw [← hf2, hdn (by omega), resF_nil]; clear hf2 hf hdc hdn; simp_all; done))⟩, by omega, St.Le.of ⟨rfl, rfl, rfl, rfl, (by show some _ = some _; first | (simp only [List.map_append, List.append_assoc]; done) | (simp only [List.map_append, List.append_assoc]; rfl)), rfl, trivial⟩ rfl (by first | (simp only [List.map_append, List.append_assoc]; done) | (simp only [List.map_append, List.append_assoc]; rfl))⟩
       | exact ⟨i + 1, ss0, out, k, ⟨by first | omega | (simp; omega), by cases Nat.lt_or_ge i (runes s).length with | inl hlt => (first | (exfalso; omega) | (left; refine ⟨by omega, ?_⟩; rw [← hf2, hdc hlt, resF_cons]; clear hf2 hf hdc hdn; simp_all; done)) | inr hge => (first | (exfalso; omega) | (right; refine ⟨by omega, ?_⟩; rw [← hf2, hdn (by omega), resF_nil]; clear hf2 hf hdc hdn; simp_all; done))⟩, by omega, St.Le.of ⟨rfl, rfl, rfl, rfl, rfl, rfl, trivial⟩ rfl (rfl)⟩
       | exact ⟨i + 1, (s0 :: ss0), out, k, ⟨by first | omega | (simp; omega), by cases Nat.lt_or_ge i (runes s).length with | inl hlt => (first | (exfalso; omega) | (left; refine ⟨by omega, ?_⟩; rw [← hf2, hdc hlt, resF_cons]; clear hf2 hf hdc hdn; simp_all; done)) | inr hge => (first | (exfalso; omega) | (right; refine ⟨by omega, ?_⟩; rw [← hf2, hdn (by omega), resF_nil]; clear hf2 hf hdc hdn; simp_all; done))⟩, by omega, St.Le.of ⟨rfl, rfl, rfl, rfl, rfl, rfl, trivial⟩ rfl (rfl)⟩
       | exact ⟨i + 1, [], out, k, ⟨by first | omega | (simp; omega), by cases Nat.lt_or_ge i (runes s).length with | inl hlt => (first | (exfalso; omega) | (left; refine ⟨by omega, ?_⟩; rw [← hf2, hdc hlt, resF_cons]; clear hf2 hf hdc hdn; simp_all; done)) | inr hge => (first | (exfalso; omega) | (right; refine ⟨by omega, ?_⟩; rw [← hf2, hdn (by omega), resF_nil]; clear hf2 hf hdc hdn; simp_all; done))⟩, by omega, St.Le.of ⟨rfl, rfl, rfl, rfl, rfl, rfl, trivial⟩ rfl (rfl)⟩
     ·try simp only [nmL] at hb5
      refine SOps.fieldPin rfl fieldB_47_0_0 (SOps.loadPin rfl flatB_21 (SOps.bin rfl rfl rfl (SOps.pick rfl rfl (SOps.pick rfl rfl (SOps.nil ?_)))))
      refine SCode.cond rfl (fun hc6 => ?_) (fun hc6 => ?_)
      ·try simp only [nmL] at hc6
       refine SCode.region (SOps.move rfl (SOps.move rfl (SOps.move rfl (SOps.indexM (i) rfl rfl sliceB_84_21_1 (by first | omega | (simp only [lenB]; omega)) (by first | omega | (simp only [lenB]; omega)) (SOps.loadPin rfl flatB_21 (SOps.litF rfl sliceB_84_21_1 zeroIs_21 rfl ?_))))))
       refine SOps.appendAcc [] [] sliceB_84_21_1 elemB_21_1_4 rfl rfl rfl SrcD.isl (by simp) (by simp [lenB]; omega) (by simp; omega) (fun kB => ?_)
       refine SOps.assign rfl (SOps.nil ?_)
       show SCode _ _ _ _
       refine SCode.region (SOps.move rfl (SOps.addI rfl rfl (by first | omega | (simp only [lenB]; omega)) (by first | omega | (simp only [lenB]; omega)) (SOps.assign rfl (SOps.nil ?_))))
       first
        | (exfalso; simp only [List.getElem_cons_zero] at *; omega)
        | exact ⟨i + 1, ss0, out ++ runes r.«to» ++ [(runes s)[i]], ((fun _ : Nat => kB) kA), ⟨by first | omega | (simp; omega), by cases Nat.lt_or_ge i (runes s).length with | inl hlt => (first | (exfalso; omega) | (left; refine ⟨by omega, ?_⟩; rw [← hf2, hdc hlt, resF_cons]; clear hf2 hf hdc hdn; simp_all; done)) | inr hge => (first | (exfalso; omega) | (right; refine ⟨by omega, ?_⟩; rw [← hf2, hdn (by omega), resF_nil]; clear hf2 hf hdc hdn; simp_all; done))⟩, by omega, St.Le.of ⟨rfl, rfl, rfl, rfl, (by show some _ = some _; first | (simp only [List.map_append, List.append_assoc]; done) | (simp only [List.map_append, List.append_assoc]; rfl)), rfl, trivial⟩ rfl (by first | (simp only [List.map_append, List.append_assoc]; done) | (simp only [List.map_append, List.append_assoc]; rfl))⟩
        | exact ⟨i + 1, (s0 :: ss0), out ++ runes r.«to» ++ [(runes s)[i]], ((fun _ : Nat => kB) kA), ⟨by first | omega | (simp; omega), by cases Nat.lt_or_ge i (runes s).length with | inl hlt => (first | (exfalso; omega) | (left; refine ⟨by omega, ?_⟩; rw [← hf2, hdc hlt, resF_cons]; clear hf2 hf hdc hdn; simp_all; done)) | inr hge => (first | (exfalso; omega) | (right; refine ⟨by omega, ?_⟩; rw [← hf2, hdn (by omega), resF_nil]; clear hf2 hf hdc hdn; simp_all; done))⟩, by omega, St.Le.of ⟨rfl, rfl, rfl, rfl, (by show some _ = some _; first | (simp only [List.map_append, List.append_assoc]; done) | (simp only [List.map_append, List.append_assoc]; rfl)), rfl, trivial⟩ rfl (by first | (simp only [List.map_append, List.append_assoc]; done) | (simp only [List.map_append, List.append_assoc]; rfl))⟩
        | exact ⟨i + 1, [], out ++ runes r.«to» ++ [(runes s)[i]], ((fun _ : Nat => kB) kA), ⟨by first | omega | (simp; omega), by cases Nat.lt_or_ge i (runes s).length with | inl hlt => (first | (exfalso; omega) | (left; refine ⟨by omega, ?_⟩; rw [← hf2, hdc hlt, resF_cons]; clear hf2 hf hdc hdn; simp_all; done)) | inr hge => (first | (exfalso; omega) | (right; refine ⟨by omega, ?_⟩; rw [← hf2, hdn (by omega), resF_nil]; clear hf2 hf hdc hdn; simp_all; done))⟩, by omega, St.Le.of ⟨rfl, rfl, rfl, rfl, (by show some _ = some _; first | (simp only [List.map_append, List.append_assoc]; done) | (simp only [List.map_append, List.append_assoc]; rfl)), rfl, trivial⟩ rfl (by first | (simp only [List.map_append, List.append_assoc]; done) | (simp only [List.map_append, List.append_assoc]; rfl))⟩
        | exact ⟨i + 1, ss0, out ++ runes r.«to», kA, ⟨by first | omega | (simp; omega), by cases Nat.lt_or_ge i (runes s).length with | inl hlt => (first | (exfalso; omega) | (left; refine ⟨by omega, ?_⟩; rw [← hf2, hdc hlt, resF_cons]; clear hf2 hf hdc hdn; simp_all; done)) | inr hge => (first | (exfalso; omega) | (right; refine ⟨by omega, ?_⟩; rw [← hf2, hdn (by omega), resF_nil]; clear hf2 hf hdc hdn; simp_all; done))⟩, by omega, St.Le.of ⟨rfl, rfl, rfl, rfl, (by show some _ = some _; first | (simp only [List.map_append, List.append_assoc]; done) | (simp only [List.map_append, List.append_assoc]; rfl)), rfl, trivial⟩ rfl (by first | (simp only [List.map_append, List.append_assoc]; done) | (simp only [List.map_append, List.append_assoc]; rfl))⟩
        | exact ⟨i + 1, (s0 :: ss0), out ++ runes r.«to», kA, ⟨by first | omega | (simp; omega), by cases Nat.lt_or_ge i (runes s).length with | inl hlt => (first | (exfalso; omega) | (left; refine ⟨by omega, ?_⟩; rw [← hf2, hdc hlt, resF_cons]; clear hf2 hf hdc hdn; simp_all; done)) | inr hge => (first | (exfalso; omega) | (right; refine ⟨by omega, ?_⟩; rw [← hf2, hdn (by omega), resF_nil]; clear hf2 hf hdc hdn; simp_all; done))⟩, by omega, St.Le.of ⟨rfl, rfl, rfl, rfl, (by show some _ = some _; first | (simp only [List.map_append, List.append_assoc]; done) | (simp only [List.map_append, List.append_assoc]; rfl)), rfl, trivial⟩ rfl (by first | (simp only [List.map_append, List.append_assoc]; done) | (simp only [List.map_append, List.append_assoc]; rfl))⟩
        | exact ⟨i + 1, [], out ++ runes r.«to», kA, ⟨by first | omega | (simp; omega), by cases Nat.lt_or_ge i (runes s).length with | inl hlt => (first | (exfalso; omega) | (left; refine ⟨by omega, ?_⟩; rw [← hf2, hdc hlt, resF_cons]; clear hf2 hf hdc hdn; simp_all; done)) | inr hge => (first | (exfalso; omega) | (right; refine ⟨by omega, ?_⟩; rw [← hf2, hdn (by omega), resF_nil]; clear hf2 hf hdc hdn; simp_all; done))⟩, by omega, St.Le.of ⟨rfl, rfl, rfl, rfl, (by show some _ = some _; first | (simp only [List.map_append, List.append_assoc]; done) | (simp only [List.map_append, List.append_assoc]; rfl)), rfl, trivial⟩ rfl (by first | (simp only [List.map_append, List.append_assoc]; done) | (simp only [List.map_append, List.append_assoc]; rfl))⟩
        | exact ⟨i + 1, ss0, out ++ [(runes s)[i]], kB, ⟨by first | omega | (simp; omega), by cases Nat.lt_or_ge i (runes s).length with | inl hlt => (first | (exfalso; omega) | (left; refine ⟨by omega, ?_⟩; rw [← hf2, hdc hlt, resF_cons]; clear hf2 hf hdc hdn; simp_all; done)) | inr hge => (first | (exfalso; omega) | (right; refine ⟨by omega, ?_⟩; rw [← hf2, hdn (by omega), resF_nil]; clear hf2 hf hdc hdn; simp_all; done))⟩, by omega, St.Le.of ⟨rfl, rfl, rfl, rfl, (by show some _ = some _; first | (simp only [List.map_append, List.append_assoc]; done) | (simp only [List.map_append, List.append_assoc]; rfl)), rfl, trivial⟩ rfl (by first | (simp only [List.map_append, List.append_assoc]; done) | (simp only [List.map_append, List.append_assoc]; rfl))⟩
        | exact ⟨i + 1, (s0 :: ss0), out ++ [(runes s)[i]], kB, ⟨by first | omega | (simp; omega), by cases Nat.lt_or_ge i (runes s).length with | inl hlt => (first | (exfalso; omega) | (left; refine ⟨by omega, ?_⟩; rw [← hf2, hdc hlt, resF_cons]; clear hf2 hf hdc hdn; simp_all; done)) | inr hge => (first | (exfalso; omega) | (right; refine ⟨by omega, ?_⟩; rw [← hf2, hdn (by omega), resF_nil]; clear hf2 hf hdc hdn; simp_all; done))⟩, by omega, St.Le.of ⟨rfl, rfl, rfl, rfl, (by show some _ = some _; first | (simp only [List.map_append, List.append_assoc]; done) | (simp only [List.map_append, List.append_assoc]; rfl)), rfl, trivial⟩ rfl (by first | (simp only [List.map_append, List.append_assoc]; done) | (simp only [List.map_append, List.append_assoc]; rfl))⟩
        | exact ⟨i + 1, [], out ++ [(runes s)[i]], kB, ⟨by first | omega | (simp; omega), by cases Nat.lt_or_ge i (runes s).length with | inl hlt => (first | (exfalso; omega) | (left; refine ⟨by omega, ?_⟩; rw [← hf2, hdc hlt, resF_cons]; clear hf2 hf hdc hdn; simp_all; done)) | inr hge => (first | (exfalso; omega) | (right; refine ⟨by omega, ?_⟩; rw [← hf2, hdn (by omega), resF_nil]; clear hf2 hf hdc hdn; simp_all; done))⟩, by omega, St.Le.of ⟨rfl, rfl, rfl, rfl, (by show some _ = some _; first | (simp only [List.map_append, List.append_assoc]; done) | (simp only [List.map_append, List.append_assoc]; rfl)), rfl, trivial⟩ rfl (by first | (simp only [List.map_append, List.append_assoc]; done) | (simp only [List.map_append, List.append_assoc]; rfl))⟩
        | exact ⟨i + 1, ss0, out, k, ⟨by first | omega | (simp; omega), by cases Nat.lt_or_ge i (runes s).length with | inl hlt => (first | (exfalso; omega) | (left; refine ⟨by omega, ?_⟩; rw [← hf2, hdc hlt, resF_cons]; clear hf2 hf hdc hdn; simp_all; done)) | inr hge => (first | (exfalso; omega) | (right; refine ⟨by omega, ?_⟩; rw [← hf2, hdn (by omega), resF_nil]; clear hf2 hf hdc hdn; simp_all; done))⟩, by omega, St.Le.of ⟨rfl, rfl, rfl, rfl, rfl, rfl, trivial⟩ rfl (rfl)⟩
        | exact ⟨i + 1, (s0 :: ss0), out, k, ⟨by first | omega | (simp; omega), by cases Nat.lt_or_ge i (runes s).length with | inl hlt => (first | (exfalso; omega) | (left; refine ⟨by omega, ?_⟩; rw [← hf2, hdc hlt, resF_cons]; clear hf2 hf hdc hdn; simp_all; done)) | inr hge => (first | (exfalso; omega) | (right; refine ⟨by omega, ?_⟩; rw [← hf2, hdn (by omega), resF_nil]; clear hf2 hf hdc hdn; simp_all; done))⟩, by omega, St.Le.of ⟨rfl, rfl, rfl, rfl, rfl, rfl, trivial⟩ rfl (rfl)⟩
        | exact ⟨i + 1, [], out, k, ⟨by first | omega | (simp; omega), by cases Nat.lt_or_ge i (runes s).length with | inl hlt => (first | (exfalso; omega) | (left; refine ⟨by omega, ?_⟩; rw [← hf2, hdc hlt, resF_cons]; clear hf2 hf hdc hdn; simp_all; done)) | inr hge => (first | (exfalso; omega) | (right; refine ⟨by omega, ?_⟩; rw [← hf2, hdn (by omega), resF_nil]; clear hf2 hf hdc hdn; simp_all; done))⟩, by omega, St.Le.of ⟨rfl, rfl, rfl, rfl, rfl, rfl, trivial⟩ rfl (rfl)⟩
      ·try simp only [nmL] at hc6
       refine SCode.skip ?_
       show SCode _ _ _ _
       refine SCode.region (SOps.move rfl (SOps.addI rfl rfl (by first | omega | (simp only [lenB]; omega)) (by first | omega | (simp only [lenB]; omega)) (SOps.assign rfl (SOps.nil ?_))))
       first
        | (exfalso; simp only [List.getElem_cons_zero] at *; omega)
        | exact ⟨i + 1, ss0, out ++ runes r.«to» ++ [(runes s)[i]], ((fun _ : Nat => kB) kA), ⟨by first | omega | (simp; omega), by cases Nat.lt_or_ge i (runes s).length with | inl hlt => (first | (exfalso; omega) | (left; refine ⟨by omega, ?_⟩; rw [← hf2, hdc hlt, resF_cons]; clear hf2 hf hdc hdn; simp_all; done)) | inr hge => (first | (exfalso; omega) | (right; refine ⟨by omega, ?_⟩; rw [← hf2, hdn (by omega), resF_nil]; clear hf2 hf hdc hdn; simp_all; done))⟩, by omega, St.Le.of ⟨rfl, rfl, rfl, rfl, (by show some _ = some _; first | (simp only [List.map_append, List.append_assoc]; done) | (simp only [List.map_append, List.append_assoc]; rfl)), rfl, trivial⟩ rfl (by first | (simp only [List.map_append, List.append_assoc]; done) | (simp only [List.map_append, List.append_assoc]; rfl))⟩
        | exact ⟨i + 1, (s0 :: ss0), out ++ runes r.«to» ++ [(runes s)[i]], ((fun _ : Nat => kB) kA), ⟨by first | omega | (simp; omega), by cases Nat.lt_or_ge i (runes s).length with | inl hlt => (first | (exfalso; omega) | (left; refine ⟨by omega, ?_⟩; rw [← hf2, hdc hlt, resF_cons]; clear hf2 hf hdc hdn; simp_all; done)) | inr hge => (first | (exfalso; omega) | (right; refine ⟨by omega, ?_⟩; rw [← hf2, hdn (by omega), resF_nil]; clear hf2 hf hdc hdn; simp_all; done))⟩, by omega, St.Le.of ⟨rfl, rfl, rfl, rfl, (by show some _ = some _; first | (simp only [List.map_append, List.append_assoc]; done) | (simp only [List.map_append, List.append_assoc]; rfl)), rfl, trivial⟩ rfl (by first | (simp only [List.map_append, List.append_assoc]; done) | (simp only [List.map_append, List.append_assoc]; rfl))⟩
        | exact ⟨i + 1, [], out ++ runes r.«to» ++ [(runes s)[i]], ((fun _ : Nat => kB) kA), ⟨by first | omega | (simp; omega), by cases Nat.lt_or_ge i (runes s).length with | inl hlt => (first | (exfalso; omega) | (left; refine ⟨by omega, ?_⟩; rw [← hf2, hdc hlt, resF_cons]; clear hf2 hf hdc hdn; simp_all; done)) | inr hge => (first | (exfalso; omega) | (right; refine ⟨by omega, ?_⟩; rw [← hf2, hdn (by omega), resF_nil]; clear hf2 hf hdc hdn; simp_all; done))⟩, by omega, St.Le.of ⟨rfl, rfl, rfl, rfl, (by show some _ = some _; first | (simp only [List.map_append, List.append_assoc]; done) | (simp only [List.map_append, List.append_assoc]; rfl)), rfl, trivial⟩ rfl (by first | (simp only [List.map_append, List.append_assoc]; done) | (simp only [List.map_append, List.append_assoc]; rfl))⟩
        | exact ⟨i + 1, ss0, out ++ runes r.«to», kA, ⟨by first | omega | (simp; omega), by cases Nat.lt_or_ge i (runes s).length with | inl hlt => (first | (exfalso; omega) | (left; refine ⟨by omega, ?_⟩; rw [← hf2, hdc hlt, resF_cons]; clear hf2 hf hdc hdn; simp_all; done)) | inr hge => (first | (exfalso; omega) | (right; refine ⟨by omega, ?_⟩; rw [← hf2, hdn (by omega), resF_nil]; clear hf2 hf hdc hdn; simp_all; done))⟩, by omega, St.Le.of ⟨rfl, rfl, rfl, rfl, (by show some _ = some _; first | (simp only [List.map_append, List.append_assoc]; done) | (simp only [List.map_append, List.append_assoc]; rfl)), rfl, trivial⟩ rfl (by first | (simp only [List.map_append, List.append_assoc]; done) | (simp only [List.map_append, List.append_assoc]; rfl))⟩
        | exact ⟨i + 1, (s0 :: ss0), out ++ runes r.«to», kA, ⟨by first | omega | (simp; omega), by cases Nat.lt_or_ge i (runes s).length with | inl hlt => (first | (exfalso; omega) | (left; refine ⟨by omega, ?_⟩; rw [← hf2, hdc hlt, resF_cons]; clear hf2 hf hdc hdn; simp_all; done)) | inr hge => (first | (exfalso; omega) | (right; refine ⟨by omega, ?_⟩; rw [← hf2, hdn (by omega), resF_nil]; clear hf2 hf hdc hdn; simp_all; done))⟩, by omega, St.Le.of ⟨rfl, rfl, rfl, rfl, (by show some _ = some _; first | (simp only [List.map_append, List.append_assoc]; done) | (simp only [List.map_append, List.append_assoc]; rfl)), rfl, trivial⟩ rfl (by first | (simp only [List.map_append, List.append_assoc]; done) | (simp only [List.map_append, List.append_assoc]; rfl))⟩
        | exact ⟨i + 1, [], out ++ runes r.«to», kA, ⟨by first | omega | (simp; omega), by cases Nat.lt_or_ge i (runes s).length with | inl hlt => (first | (exfalso; omega) | (left; refine ⟨by omega, ?_⟩; rw [← hf2, hdc hlt, resF_cons]; clear hf2 hf hdc hdn; simp_all; done)) | inr hge => (first | (exfalso; omega) | (right; refine ⟨by omega, ?_⟩; rw [← hf2, hdn (by omega), resF_nil]; clear hf2 hf hdc hdn; simp_all; done))⟩, by omega, St.Le.of ⟨rfl, rfl, rfl, rfl, (by show some _ = some _; first | (simp only [List.map_append, List.append_assoc]; done) | (simp only [List.map_append, List.append_assoc]; rfl)), rfl, trivial⟩ rfl (by first | (simp only [List.map_append, List.append_assoc]; done) | (simp only [List.map_append, List.append_assoc]; rfl))⟩
        | exact ⟨i + 1, ss0, out ++ [(runes s)[i]], kB, ⟨by first | omega | (simp; omega), by cases Nat.lt_or_ge i (runes s).length with | inl hlt => (first | (exfalso; omega) | (left; refine ⟨by omega, ?_⟩; rw [← hf2, hdc hlt, resF_cons]; clear hf2 hf hdc hdn; simp_all; done)) | inr hge => (first | (exfalso; omega) | (right; refine ⟨by omega, ?_⟩; rw [← hf2, hdn (by omega), resF_nil]; clear hf2 hf hdc hdn; simp_all; done))⟩, by omega, St.Le.of ⟨rfl, rfl, rfl, rfl, (by show some _ = some _; first | (simp only [List.map_append, List.append_assoc]; done) | (simp only [List.map_append, List.append_assoc]; rfl)), rfl, trivial⟩ rfl (by first | (simp only [List.map_append, List.append_assoc]; done) | (simp only [List.map_append, List.append_assoc]; rfl))⟩
        | exact ⟨i + 1, (s0 :: ss0), out ++ [(runes s)[i]], kB, ⟨by first | omega | (simp; omega), by cases Nat.lt_or_ge i (runes s).length with | inl hlt => (first | (exfalso; omega) | (left; refine ⟨by omega, ?_⟩; rw [← hf2, hdc hlt, resF_cons]; clear hf2 hf hdc hdn; simp_all; done)) | inr hge => (first | (exfalso; omega) | (right; refine ⟨by omega, ?_⟩; rw [← hf2, hdn (by omega), resF_nil]; clear hf2 hf hdc hdn; simp_all; done))⟩, by omega, St.Le.of ⟨rfl, rfl, rfl, rfl, (by show some _ = some _; first | (simp only [List.map_append, List.append_assoc]; done) | (simp only [List.map_append, List.append_assoc]; rfl)), rfl, trivial⟩ rfl (by first | (simp only [List.map_append, List.append_assoc]; done) | (simp only [List.map_append, List.append_assoc]; rfl))⟩
        | exact ⟨i + 1, [], out ++ [(runes s)[i]], kB, ⟨by first | omega | (simp; omega), by cases Nat.lt_or_ge i (runes s).length with | inl hlt => (first | (exfalso; omega) | (left; refine ⟨by omega, ?_⟩; rw [← hf2, hdc hlt, resF_cons]; clear hf2 hf hdc hdn; simp_all; done)) | inr hge => (first | (exfalso; omega) | (right; refine ⟨by omega, ?_⟩; rw [← hf2, hdn (by omega), resF_nil]; clear hf2 hf hdc hdn; simp_all; done))⟩, by omega, St.Le.of ⟨rfl, rfl, rfl, rfl, (by show some _ = some _; first | (simp only [List.map_append, List.append_assoc]; done) | (simp only [List.map_append, List.append_assoc]; rfl)), rfl, trivial⟩ rfl (by first | (simp only [List.map_append, List.append_assoc]; done) | (simp only [List.map_append, List.append_assoc]; rfl))⟩
        | exact ⟨i + 1, ss0, out, k, ⟨by first | omega | (simp; omega), by cases Nat.lt_or_ge i (runes s).length with | inl hlt => (first | (exfalso; omega) | (left; refine ⟨by omega, ?_⟩; rw [← hf2, hdc hlt, resF_cons]; clear hf2 hf hdc hdn; simp_all; done)) | inr hge => (first | (exfalso; omega) | (right; refine ⟨by omega, ?_⟩; rw [← hf2, hdn (by omega), resF_nil]; clear hf2 hf hdc hdn; simp_all; done))⟩, by omega, St.Le.of ⟨rfl, rfl, rfl, rfl, rfl, rfl, trivial⟩ rfl (rfl)⟩
        | exact ⟨i + 1, (s0 :: ss0), out, k, ⟨by first | omega | (simp; omega), by cases Nat.lt_or_ge i (runes s).length with | inl hlt => (first | (exfalso; omega) | (left; refine ⟨by omega, ?_⟩; rw [← hf2, hdc hlt, resF_cons]; clear hf2 hf hdc hdn; simp_all; done)) | inr hge => (first | (exfalso; omega) | (right; refine ⟨by omega, ?_⟩; rw [← hf2, hdn (by omega), resF_nil]; clear hf2 hf hdc hdn; simp_all; done))⟩, by omega, St.Le.of ⟨rfl, rfl, rfl, rfl, rfl, rfl, trivial⟩ rfl (rfl)⟩
        | exact ⟨i + 1, [], out, k, ⟨by first | omega | (simp; omega), by cases Nat.lt_or_ge i (runes s).length with | inl hlt => (first | (exfalso; omega) | (left; refine ⟨by omega, ?_⟩; rw [← hf2, hdc hlt, resF_cons]; clear hf2 hf hdc hdn; simp_all; done)) | inr hge => (first | (exfalso; omega) | (right; refine ⟨by omega, ?_⟩; rw [← hf2, hdn (by omega), resF_nil]; clear hf2 hf hdc hdn; simp_all; done))⟩, by omega, St.Le.of ⟨rfl, rfl, rfl, rfl, rfl, rfl, trivial⟩ rfl (rfl)⟩
    ·try simp only [nmL] at hb4
     refine SOps.skip rfl (SOps.skip rfl (SOps.skip rfl (SOps.skip rfl (SOps.skip rfl (SOps.skip rfl (SOps.skip rfl (SOps.pick rfl rfl (SOps.nil ?_))))))))
     refine SCode.cond rfl (fun h => by cases h) (fun _ => ?_)
     refine SCode.skip ?_
     show SCode _ _ _ _
     refine SCode.region (SOps.move rfl (SOps.addI rfl rfl (by first | omega | (simp only [lenB]; omega)) (by first | omega | (simp only [lenB]; omega)) (SOps.assign rfl (SOps.nil ?_))))
     first
      | (exfalso; simp only [List.getElem_cons_zero] at *; omega)
      | exact ⟨i + 1, ss0, out ++ runes r.«to» ++ [(runes s)[i]], ((fun _ : Nat => kB) kA), ⟨by first | omega | (simp; omega), by cases Nat.lt_or_ge i (runes s).length with | inl hlt => (first | (exfalso; omega) | (left; refine ⟨by omega, ?_⟩; rw [← hf2, hdc hlt, resF_cons]; clear hf2 hf hdc hdn; simp_all; done)) | inr hge => (first | (exfalso; omega) | (right; refine ⟨by omega, ?_⟩; rw [← hf2, hdn (by omega), resF_nil]; clear hf2 hf hdc hdn; simp_all; done))⟩, by omega, St.Le.of ⟨rfl, rfl, rfl, rfl, (by show some _ = some _; first | (simp only [List.map_append, List.append_assoc]; done) | (simp only [List.map_append, List.append_assoc]; rfl)), rfl, trivial⟩ rfl (by first | (simp only [List.map_append, List.append_assoc]; done) | (simp only [List.map_append, List.append_assoc]; rfl))⟩
      | exact ⟨i + 1, (s0 :: ss0), out ++ runes r.«to» ++ [(runes s)[i]], ((fun _ : Nat => kB) kA), ⟨by first | omega | (simp; omega), by cases Nat.lt_or_ge i (runes s).length with | inl hlt => (first | (exfalso; omega) | (left; refine ⟨by omega, ?_⟩; rw [← hf2, hdc hlt, resF_cons]; clear hf2 hf hdc hdn; simp_all; done)) | inr hge => (first | (exfalso; omega) | (right; refine ⟨by omega, ?_⟩; rw [← hf2, hdn (by omega), resF_nil]; clear hf2 hf hdc hdn; simp_all; done))⟩, by omega, St.Le.of ⟨rfl, rfl, rfl, rfl, (by show some _ = some _; first | (simp only [List.map_append, List.append_assoc]; done) | (simp only [List.map_append, List.append_assoc]; rfl)), rfl, trivial⟩ rfl (by first | (simp only [List.map_append, List.append_assoc]; done) | (simp only [List.map_append, List.append_assoc]; rfl))⟩
      | exact ⟨i + 1, [], out ++ runes r.«to» ++ [(runes s)[i]], ((fun _ : Nat => kB) kA), ⟨by first | omega | (simp; omega), by cases Nat.lt_or_ge i (runes s).length with | inl hlt => (first | (exfalso; omega) | (left; refine ⟨by omega, ?_⟩; rw [← hf2, hdc hlt, resF_cons]; clear hf2 hf hdc hdn; simp_all; done)) | inr hge => (first | (exfalso; omega) | (right; refine ⟨by omega, ?_⟩; rw [← hf2, hdn (by omega), resF_nil]; clear hf2 hf hdc hdn; simp_all; done))⟩, by omega, St.Le.of ⟨rfl, rfl, rfl, rfl, (by show some _ = some _; first | (simp only [List.map_append, List.append_assoc]; done) | (simp only [List.map_append, List.append_assoc]; rfl)), rfl, trivial⟩ rfl (by first | (simp only [List.map_append, List.append_assoc]; done) | (simp only [List.map_append, List.append_assoc]; rfl))⟩
      | exact ⟨i + 1, ss0, out ++ runes r.«to», kA, ⟨by first | omega | (simp; omega), by cases Nat.lt_or_ge i (runes s).length with | inl hlt => (first | (exfalso; omega) | (left; refine ⟨by omega, ?_⟩; rw [← hf2, hdc hlt, resF_cons]; clear hf2 hf hdc hdn; simp_all; done)) | inr hge => (first | (exfalso; omega) | (right; refine ⟨by omega, ?_⟩; rw [← hf2, hdn (by omega), resF_nil]; clear hf2 hf hdc hdn; simp_all; done))⟩, by omega, St.Le.of ⟨rfl, rfl, rfl, rfl, (by show some _ = some _; first | (simp only [List.map_append, List.append_assoc]; done) | (simp only [List.map_append, List.append_assoc]; rfl)), rfl, trivial⟩ rfl (by first | (simp only [List.map_append, List.append_assoc]; done) | (simp only [List.map_append, List.append_assoc]; rfl))⟩
      | exact ⟨i + 1, (s0 :: ss0), out ++ runes r.«to», kA, ⟨by first | omega | (simp; omega), by cases Nat.lt_or_ge i (runes s).length with | inl hlt => (first | (exfalso; omega) | (left; refine ⟨by omega, ?_⟩; rw [← hf2, hdc hlt, resF_cons]; clear hf2 hf hdc hdn; simp_all; done)) | inr hge => (first | (exfalso; omega) | (right; refine ⟨by omega, ?_⟩; rw [← hf2, hdn (by omega), resF_nil]; clear hf2 hf hdc hdn; simp_all; done))⟩, by omega, St.Le.of ⟨rfl, rfl, rfl, rfl, (by show some _ = some _; first | (simp only [List.map_append, List.append_assoc]; done) | (simp only [List.map_append, List.append_assoc]; rfl)), rfl, trivial⟩ rfl (by first | (simp only [List.map_append, List.append_assoc]; done) | (simp only [List.map_append, List.append_assoc]; rfl))⟩
      | exact ⟨i + 1, [], out ++ runes r.«to», kA, ⟨by first | omega | (simp; omega), by cases Nat.lt_or_ge i (runes s).length with | inl hlt => (first | (exfalso; omega) | (left; refine ⟨by omega, ?_⟩; rw [← hf2, hdc hlt, resF_cons]; clear hf2 hf hdc hdn; simp_all; done)) | inr hge => (first | (exfalso; omega) | (right; refine ⟨by omega, ?_⟩; rw [← hf2, hdn (by omega), resF_nil]; clear hf2 hf hdc hdn; simp_all; done))⟩, by omega, St.Le.of ⟨rfl, rfl, rfl, rfl, (by show some _ = some _; first | (simp only [List.map_append, List.append_assoc]; done) | (simp only [List.map_append, List.append_assoc]; rfl)), rfl, trivial⟩ rfl (by first | (simp only [List.map_append, List.append_assoc]; done) | (simp only [List.map_append, List.append_assoc]; rfl))⟩
      | exact ⟨i + 1, ss0, out ++ [(runes s)[i]], kB, ⟨by first | omega | (simp; omega), by cases Nat.lt_or_ge i (runes s).length with | inl hlt => (first | (exfalso; omega) | (left; refine ⟨by omega, ?_⟩; rw [← hf2, hdc hlt, resF_cons]; clear hf2 hf hdc hdn; simp_all; done)) | inr hge => (first | (exfalso; omega) | (right; refine ⟨by omega, ?_⟩; rw [← hf2, hdn (by omega), resF_nil]; clear hf2 hf hdc hdn; simp_all; done))⟩, by omega, St.Le.of ⟨rfl, rfl, rfl, rfl, (by show some _ = some _; first | (simp only [List.map_append, List.append_assoc]; done) | (simp only [List.map_append, List.append_assoc]; rfl)), rfl, trivial⟩ rfl (by first | (simp only [List.map_append, List.append_assoc]; done) | (simp only [List.map_append, List.append_assoc]; rfl))⟩
      | exact ⟨i + 1, (s0 :: ss0), out ++ [(runes s)[i]], kB, ⟨by first | omega | (simp; omega), by cases Nat.lt_or_ge i (runes s).length with | inl hlt => (first | (exfalso; omega) | (left; refine ⟨by omega, ?_⟩; rw [← hf2, hdc hlt, resF_cons]; clear hf2 hf hdc hdn; simp_all; done)) | inr hge => (first | (exfalso; omega) | (right; refine ⟨by omega, ?_⟩; rw [← hf2, hdn (by omega), resF_nil]; clear hf2 hf hdc hdn; simp_all; done))⟩, by omega, St.Le.of ⟨rfl, rfl, rfl, rfl, (by show some _ = some _; first | (simp only [List.map_append, List.append_assoc]; done) | (simp only [List.map_append, List.append_assoc]; rfl)), rfl, trivial⟩ rfl (by first | (simp only [List.map_append, List.append_assoc]; done) | (simp only [List.map_append, List.append_assoc]; rfl))⟩
      | exact ⟨i + 1, [], out ++ [(runes s)[i]], kB, ⟨by first | omega | (simp; omega), by cases Nat.lt_or_ge i (runes s).length with | inl hlt => (first | (exfalso; omega) | (left; refine ⟨by omega, ?_⟩; rw [← hf2, hdc hlt, resF_cons]; clear hf2 hf hdc hdn; simp_all; done)) | inr hge => (first | (exfalso; omega) | (right; refine ⟨by omega, ?_⟩; rw [← hf2, hdn (by omega), resF_nil]; clear hf2 hf hdc hdn; simp_all; done))⟩, by omega, St.Le.of ⟨rfl, rfl, rfl, rfl, (by show some _ = some _; first | (simp only [List.map_append, List.append_assoc]; done) | (simp only [List.map_append, List.append_assoc]; rfl)), rfl, trivial⟩ rfl (by first | (simp only [List.map_append, List.append_assoc]; done) | (simp only [List.map_append, List.append_assoc]; rfl))⟩
      | exact ⟨i + 1, ss0, out, k, ⟨by first | omega | (simp; omega), by cases Nat.lt_or_ge i (runes s).length with | inl hlt => (first | (exfalso; omega) | (left; refine ⟨by omega, ?_⟩; rw [← hf2, hdc hlt, resF_cons]; clear hf2 hf hdc hdn; simp_all; done)) | inr hge => (first | (exfalso; omega) | (right; refine ⟨by omega, ?_⟩; rw [← hf2, hdn (by omega), resF_nil]; clear hf2 hf hdc hdn; simp_all; done))⟩, by omega, St.Le.of ⟨rfl, rfl, rfl, rfl, rfl, rfl, trivial⟩ rfl (rfl)⟩
      | exact ⟨i + 1, (s0 :: ss0), out, k, ⟨by first | omega | (simp; omega), by cases Nat.lt_or_ge i (runes s).length with | inl hlt => (first | (exfalso; omega) | (left; refine ⟨by omega, ?_⟩; rw [← hf2, hdc hlt, resF_cons]; clear hf2 hf hdc hdn; simp_all; done)) | inr hge => (first | (exfalso; omega) | (right; refine ⟨by omega, ?_⟩; rw [← hf2, hdn (by omega), resF_nil]; clear hf2 hf hdc hdn; simp_all; done))⟩, by omega, St.Le.of ⟨rfl, rfl, rfl, rfl, rfl, rfl, trivial⟩ rfl (rfl)⟩
      | exact ⟨i + 1, [], out, k, ⟨by first | omega | (simp; omega), by cases Nat.lt_or_ge i (runes s).length with | inl hlt => (first | (exfalso; omega) | (left; refine ⟨by omega, ?_⟩; rw [← hf2, hdc hlt, resF_cons]; clear hf2 hf hdc hdn; simp_all; done)) | inr hge => (first | (exfalso; omega) | (right; refine ⟨by omega, ?_⟩; rw [← hf2, hdn (by omega), resF_nil]; clear hf2 hf hdc hdn; simp_all; done))⟩, by omega, St.Le.of ⟨rfl, rfl, rfl, rfl, rfl, rfl, trivial⟩ rfl (rfl)⟩
   ·try simp only [nmL] at hc3
    have hs0 : ¬ s0 = i := fun h => hc3 (by rw [← h]; rfl)
    refine SCode.skip ?_
    show SCode _ _ _ _
    refine SCode.seqR (SOps.move rfl (SOps.move rfl (SOps.lenM rfl sliceB_84_21_1 (SOps.bin rfl rfl rfl (SOps.move rfl ?_)))))
    refine SOps.caseB 43 rfl (fun hb7 => ?_) (fun hb7 => ?_)
    ·try simp only [nmL] at hb7
     refine SOps.move rfl (SOps.un rfl rfl (SOps.move rfl ?_))
     refine SOps.caseB 46 rfl (fun hb8 => ?_) (fun hb8 => ?_)
     ·try simp only [nmL] at hb8
      refine SOps.skip rfl (SOps.skip rfl (SOps.skip rfl (SOps.pick rfl rfl (SOps.pick rfl rfl (SOps.nil ?_)))))
      refine SCode.cond rfl (fun _ => ?_) (fun h => by cases h)
      refine SCode.region (SOps.move rfl (SOps.move rfl (SOps.move rfl (SOps.indexM (i) rfl rfl sliceB_84_21_1 (by first | omega | (simp only [lenB]; omega)) (by first | omega | (simp only [lenB]; omega)) (SOps.loadPin rfl flatB_21 (SOps.litF rfl sliceB_84_21_1 zeroIs_21 rfl ?_))))))
      refine SOps.appendAcc [] [] sliceB_84_21_1 elemB_21_1_4 rfl rfl rfl SrcD.isl (by simp) (by simp [lenB]; omega) (by simp; omega) (fun kB => ?_)
      refine SOps.assign rfl (SOps.nil ?_)
      show SCode _ _ _ _
      refine SCode.region (SOps.move rfl (SOps.addI rfl rfl (by first | omega | (simp only [lenB]; omega)) (by first | omega | (simp only [lenB]; omega)) (SOps.assign rfl (SOps.nil ?_))))
      first
       | (exfalso; simp only [List.getElem_cons_zero] at *; omega)
       | exact ⟨i + 1, ss0, out ++ runes r.«to» ++ [(runes s)[i]], ((fun _ : Nat => kB) kA), ⟨by first | omega | (simp; omega), by cases Nat.lt_or_ge i (runes s).length with | inl hlt => (first | (exfalso; omega) | (left; refine ⟨by omega, ?_⟩; rw [← hf2, hdc hlt, resF_cons]; clear hf2 hf hdc hdn; simp_all; done)) | inr hge => (first | (exfalso; omega) | (right; refine ⟨by omega, ?_⟩; rw [← hf2, hdn (by omega), resF_nil]; clear hf2 hf hdc hdn; simp_all; done))⟩, by omega, St.Le.of ⟨rfl, rfl, rfl, rfl, (by show some _ = some _; first | (simp only [List.map_append, List.append_assoc]; done) | (simp only [List.map_append, List.append_assoc]; rfl)), rfl, trivial⟩ rfl (by first | (simp only [List.map_append, List.append_assoc]; done) | (simp only [List.map_append, List.append_assoc]; rfl))⟩
       | exact ⟨i + 1, (s0 :: ss0), out ++ runes r.«to» ++ [(runes s)[i]], ((fun _ : Nat => kB) kA), ⟨by first | omega | (simp; omega), by cases Nat.lt_or_ge i (runes s).length with | inl hlt => (first | (exfalso; omega) | (left; refine ⟨by omega, ?_⟩; rw [← hf2, hdc hlt, resF_cons]; clear hf2 hf hdc hdn; simp_all; done)) | inr hge => (first | (exfalso; omega) | (right; refine ⟨by omega, ?_⟩; rw [← hf2, hdn (by omega), resF_nil]; clear hf2 hf hdc hdn; simp_all; done))⟩, by omega, St.Le.of ⟨rfl, rfl, rfl, rfl, (by show some _ = some _; first | (simp only [List.map_append, List.append_assoc]; done) | (simp only [List.map_append, List.append_assoc]; rfl)), rfl, trivial⟩ rfl (by first | (simp only [List.map_append, List.append_assoc]; done) | (simp only [List.map_append, List.append_assoc]; rfl))⟩
       | exact ⟨i + 1, [], out ++ runes r.«to» ++ [(runes s)[i]], ((fun _ : Nat => kB) kA), ⟨by first | omega | (simp; omega), by cases Nat.lt_or_ge i (runes s).length with | inl hlt => (first | (exfalso; omega) | (left; refine ⟨by omega, ?_⟩; rw [← hf2, hdc hlt, resF_cons]; clear hf2 hf hdc hdn; simp_all; done)) | inr hge => (first | (exfalso; omega) | (right; refine ⟨by omega, ?_⟩; rw [← hf2, hdn (by omega), resF_nil]; clear hf2 hf hdc hdn; simp_all; done))⟩, by omega, St.Le.of ⟨rfl, rfl, rfl, rfl, (by show some _ = some _; first | (simp only [List.map_append, List.append_assoc]; done) | (simp only [List.map_append, List.append_assoc]; rfl)), rfl, trivial⟩ rfl (by first | (simp only [List.map_append, List.append_assoc]; done) | (simp only [List.map_append, List.append_assoc]; rfl))⟩
       | exact ⟨i + 1, ss0, out ++ runes r.«to», kA, ⟨by first | omega | (simp; omega), by cases Nat.lt_or_ge i (runes s).length with | inl hlt => (first | (exfalso; omega) | (left; refine ⟨by omega, ?_⟩; rw [← hf2, hdc hlt, resF_cons]; clear hf2 hf hdc hdn; simp_all; done)) | inr hge => (first | (exfalso; omega) | (right; refine ⟨by omega, ?_⟩; rw [← hf2, hdn (by omega), resF_nil]; clear hf2 hf hdc hdn; simp_all; done))⟩, by omega, St.Le.of ⟨rfl, rfl, rfl, rfl, (by show some _ = some _; first | (simp only [List.map_append, List.append_assoc]; done) | (simp only [List.map_append, List.append_assoc]; rfl)), rfl, trivial⟩ rfl (by first | (simp only [List.map_append, List.append_assoc]; done) | (simp only [List.map_append, List.append_assoc]; rfl))⟩
       | exact ⟨i + 1, (s0 :: ss0), out ++ runes r.«to», kA, ⟨by first | omega | (simp; omega), by cases Nat.lt_or_ge i (runes s).length with | inl hlt => (first | (exfalso; omega) | (left; refine ⟨by omega, ?_⟩; rw [← hf2, hdc hlt, resF_cons]; clear hf2 hf hdc hdn; simp_all; done)) | inr hge => (first | (exfalso; omega) | (right; refine ⟨by omega, ?_⟩; rw [← hf2, hdn (by omega), resF_nil]; clear hf2 hf hdc hdn; simp_all; done))⟩, by omega, St.Le.of ⟨rfl, rfl, rfl, rfl, (by show some _ = some _; first | (simp only [List.map_append, List.append_assoc]; done) | (simp only [List.map_append, List.append_assoc]; rfl)), rfl, trivial⟩ rfl (by first | (simp only [List.map_append, List.append_assoc]; done) | (simp only [List.map_append, List.append_assoc]; rfl))⟩
       | exact ⟨i + 1, [], out ++ runes r.«to», kA, ⟨by first | omega | (simp; omega), by cases Nat.lt_or_ge i (runes s).length with | inl hlt => (first | (exfalso; omega) | (left; refine ⟨by omega, ?_⟩; rw [← hf2, hdc hlt, resF_cons]; clear hf2 hf hdc hdn; simp_all; done)) | inr hge => (first | (exfalso; omega) | (right; refine ⟨by omega, ?_⟩; rw [← hf2, hdn (by omega), resF_nil]; clear hf2 hf hdc hdn; simp_all; done))⟩, by omega, St.Le.of ⟨rfl, rfl, rfl, rfl, (by show some _ = some _; first | (simp only [List.map_append, List.append_assoc]; done) | (simp only [List.map_append, List.append_assoc]; rfl)), rfl, trivial⟩ rfl (by first | (simp only [List.map_append, List.append_assoc]; done) | (simp only [List.map_append, List.append_assoc]; rfl))⟩
       | exact ⟨i + 1, ss0, out ++ [(runes s)[i]], kB, ⟨by first | omega | (simp; omega), by cases Nat.lt_or_ge i (runes s).length with | inl hlt => (first | (exfalso; omega) | (left; refine ⟨by omega, ?_⟩; rw [← hf2, hdc hlt, resF_cons]; clear hf2 hf hdc hdn; simp_all; done)) | inr hge => (first | (exfalso; omega) | (right; refine ⟨by omega, ?_⟩; rw [← hf2, hdn (by omega), resF_nil]; clear hf2 hf hdc hdn; simp_all; done))⟩, by omega, St.Le.of ⟨rfl, rfl, rfl, rfl, (by show some _ = some _; first | (simp only [List.map_append, List.append_assoc]; done) | (simp only [List.map_append, List.append_assoc]; rfl)), rfl, trivial⟩ rfl (by first | (simp only [List.map_append, List.append_assoc]; done) | (simp only [List.map_append, List.append_assoc]; rfl))⟩
       | exact ⟨i + 1, (s0 :: ss0), out ++ [(runes s)[i]], kB, ⟨by first | omega | (simp; omega), by cases Nat.lt_or_ge i (runes s).length with | inl hlt => (first | (exfalso; omega) | (left; refine ⟨by omega, ?_⟩; rw [← hf2, hdc hlt, resF_cons]; clear hf2 hf hdc hdn; simp_all; done)) | inr hge => (first | (exfalso; omega) | (right; refine ⟨by omega, ?_⟩; rw [← hf2, hdn (by omega), resF_nil]; clear hf2 hf hdc hdn; simp_all; done))⟩, by omega, St.Le.of ⟨rfl, rfl, rfl, rfl, (by show some _ = some _; first | (simp only [List.map_append, List.append_assoc]; done) | (simp only [List.map_append, List.append_assoc]; rfl)), rfl, trivial⟩ rfl (by first | (simp only [List.map_append, List.append_assoc]; done) | (simp only [List.map_append, List.append_assoc]; rfl))⟩
       | exact ⟨i + 1, [], out ++ [(runes s)[i]], kB, ⟨by first | omega | (simp; omega), by cases Nat.lt_or_ge i (runes s).length with | inl hlt => (first | (exfalso; omega) | (left; refine ⟨by omega, ?_⟩; rw [← hf2, hdc hlt, resF_cons]; clear hf2 hf hdc hdn; simp_all; done)) | inr hge => (first | (exfalso; omega) | (right; refine ⟨by omega, ?_⟩; rw [← hf2, hdn (by omega), resF_nil]; clear hf2 hf hdc hdn; simp_all; done))⟩, by omega, St.Le.of ⟨rfl, rfl, rfl, rfl, (by show some _ = some _; first | (simp only [List.map_append, List.append_assoc]; done) | (simp only [List.map_append, List.append_assoc]; rfl)), rfl, trivial⟩ rfl (by first | (simp only [List.map_append, List.append_assoc]; done) | (simp only [List.map_append, List.append_assoc]; rfl))⟩
       | exact ⟨i + 1, ss0, out, k, ⟨by first | omega | (simp; omega), by cases Nat.lt_or_ge i (runes s).length with | inl hlt => (first | (exfalso; omega) | (left; refine ⟨by omega, ?_⟩; rw [← hf2, hdc hlt, resF_cons]; clear hf2 hf hdc hdn; simp_all; done)) | inr hge => (first | (exfalso; omega) | (right; refine ⟨by omega, ?_⟩; rw [← hf2, hdn (by omega), resF_nil]; clear hf2 hf hdc hdn; simp_all; done))⟩, by omega, St.Le.of ⟨rfl, rfl, rfl, rfl, rfl, rfl, trivial⟩ rfl (rfl)⟩
       | exact ⟨i + 1, (s0 :: ss0), out, k, ⟨by first | omega | (simp; omega), by cases Nat.lt_or_ge i (runes s).length with | inl hlt => (first | (exfalso; omega) | (left; refine ⟨by omega, ?_⟩; rw [← hf2, hdc hlt, resF_cons]; clear hf2 hf hdc hdn; simp_all; done)) | inr hge => (first | (exfalso; omega) | (right; refine ⟨by omega, ?_⟩; rw [← hf2, hdn (by omega), resF_nil]; clear hf2 hf hdc hdn; simp_all; done))⟩, by omega, St.Le.of ⟨rfl, rfl, rfl, rfl, rfl, rfl, trivial⟩ rfl (rfl)⟩
       | exact ⟨i + 1, [], out, k, ⟨by first | omega | (simp; omega), by cases Nat.lt_or_ge i (runes s).length with | inl hlt => (first | (exfalso; omega) | (left; refine ⟨by omega, ?_⟩; rw [← hf2, hdc hlt, resF_cons]; clear hf2 hf hdc hdn; simp_all; done)) | inr hge => (first | (exfalso; omega) | (right; refine ⟨by omega, ?_⟩; rw [← hf2, hdn (by omega), resF_nil]; clear hf2 hf hdc hdn; simp_all; done))⟩, by omega, St.Le.of ⟨rfl, rfl, rfl, rfl, rfl, rfl, trivial⟩ rfl (rfl)⟩
     ·try simp only [nmL] at hb8
      refine SOps.fieldPin rfl fieldB_47_0_0 (SOps.loadPin rfl flatB_21 (SOps.bin rfl rfl rfl (SOps.pick rfl rfl (SOps.pick rfl rfl (SOps.nil ?_)))))
      refine SCode.cond rfl (fun hc9 => ?_) (fun hc9 => ?_)
      ·try simp only [nmL] at hc9
       refine SCode.region (SOps.move rfl (SOps.move rfl (SOps.move rfl (SOps.indexM (i) rfl rfl sliceB_84_21_1 (by first | omega | (simp only [lenB]; omega)) (by first | omega | (simp only [lenB]; omega)) (SOps.loadPin rfl flatB_21 (SOps.litF rfl sliceB_84_21_1 zeroIs_21 rfl ?_))))))
       refine SOps.appendAcc [] [] sliceB_84_21_1 elemB_21_1_4 rfl rfl rfl SrcD.isl (by simp) (by simp [lenB]; omega) (by simp; omega) (fun kB => ?_)
       refine SOps.assign rfl (SOps.nil ?_)
       show SCode _ _ _ _
       refine SCode.region (SOps.move rfl (SOps.addI rfl rfl (by first | omega | (simp only [lenB]; omega)) (by first | omega | (simp only [lenB]; omega)) (SOps.assign rfl (SOps.nil ?_))))
       first
        | (exfalso; simp only [List.getElem_cons_zero] at *; omega)
        | exact ⟨i + 1, ss0, out ++ runes r.«to» ++ [(runes s)[i]], ((fun _ : Nat => kB) kA), ⟨by first | omega | (simp; omega), by cases Nat.lt_or_ge i (runes s).length with | inl hlt => (first | (exfalso; omega) | (left; refine ⟨by omega, ?_⟩; rw [← hf2, hdc hlt, resF_cons]; clear hf2 hf hdc hdn; simp_all; done)) | inr hge => (first | (exfalso; omega) | (right; refine ⟨by omega, ?_⟩; rw [← hf2, hdn (by omega), resF_nil]; clear hf2 hf hdc hdn; simp_all; done))⟩, by omega, St.Le.of ⟨rfl, rfl, rfl, rfl, (by show some _ = some _; first | (simp only [List.map_append, List.append_assoc]; done) | (simp only [List.map_append, List.append_assoc]; rfl)), rfl, trivial⟩ rfl (by first | (simp only [List.map_append, List.append_assoc]; done) | (simp only [List.map_append, List.append_assoc]; rfl))⟩
        | exact ⟨i + 1, (s0 :: ss0), out ++ runes r.«to» ++ [(runes s)[i]], ((fun _ : Nat => kB) kA), ⟨by first | omega | (simp; omega), by cases Nat.lt_or_ge i (runes s).length with | inl hlt => (first | (exfalso; omega) | (left; refine ⟨by omega, ?_⟩; rw [← hf2, hdc hlt, resF_cons]; clear hf2 hf hdc hdn; simp_all; done)) | inr hge => (first | (exfalso; omega) | (right; refine ⟨by omega, ?_⟩; rw [← hf2, hdn (by omega), resF_nil]; clear hf2 hf hdc hdn; simp_all; done))⟩, by omega, St.Le.of ⟨rfl, rfl, rfl, rfl, (by show some _ = some _; first | (simp only [List.map_append, List.append_assoc]; done) | (simp only [List.map_append, List.append_assoc]; rfl)), rfl, trivial⟩ rfl (by first | (simp only [List.map_append, List.append_assoc]; done) | (simp only [List.map_append, List.append_assoc]; rfl))⟩
        | exact ⟨i + 1, [], out ++ runes r.«to» ++ [(runes s)[i]], ((fun _ : Nat => kB) kA), ⟨by first | omega | (simp; omega), by cases Nat.lt_or_ge i (runes s).length with | inl hlt => (first | (exfalso; omega) | (left; refine ⟨by omega, ?_⟩; rw [← hf2, hdc hlt, resF_cons]; clear hf2 hf hdc hdn; simp_all; done)) | inr hge => (first | (exfalso; omega) | (right; refine ⟨by omega, ?_⟩; rw [← hf2, hdn (by omega), resF_nil]; clear hf2 hf hdc hdn; simp_all; done))⟩, by omega, St.Le.of ⟨rfl, rfl, rfl, rfl, (by show some _ = some _; first | (simp only [List.map_append, List.append_assoc]; done) | (simp only [List.map_append, List.append_assoc]; rfl)), rfl, trivial⟩ rfl (by first | (simp only [List.map_append, List.append_assoc]; done) | (simp only [List.map_append, List.append_assoc]; rfl))⟩
        | exact ⟨i + 1, ss0, out ++ runes r.«to», kA, ⟨by first | omega | (simp; omega), by cases Nat.lt_or_ge i (runes s).length with | inl hlt => (first | (exfalso; omega) | (left; refine ⟨by omega, ?_⟩; rw [← hf2, hdc hlt, resF_cons]; clear hf2 hf hdc hdn; simp_all; done)) | inr hge => (first | (exfalso; omega) | (right; refine ⟨by omega, ?_⟩; rw [← hf2, hdn (by omega), resF_nil]; clear hf2 hf hdc hdn; simp_all; done))⟩, by omega, St.Le.of ⟨rfl, rfl, rfl, rfl, (by show some _ = some _; first | (simp only [List.map_append, List.append_assoc]; done) | (simp only [List.map_append, List.append_assoc]; rfl)), rfl, trivial⟩ rfl (by first | (simp only [List.map_append, List.append_assoc]; done) | (simp only [List.map_append, List.append_assoc]; rfl))⟩
        | exact ⟨i + 1, (s0 :: ss0), out ++ runes r.«to», kA, ⟨by first | omega | (simp; omega), by cases Nat.lt_or_ge i (runes s).length with | inl hlt => (first | (exfalso; omega) | (left; refine ⟨by omega, ?_⟩; rw [← hf2, hdc hlt, resF_cons]; clear hf2 hf hdc hdn; simp_all; done)) | inr hge => (first | (exfalso; omega) | (right; refine ⟨by omega, ?_⟩; rw [← hf2, hdn (by omega), resF_nil]; clear hf2 hf hdc hdn; simp_all; done))⟩, by omega, St.Le.of ⟨rfl, rfl, rfl, rfl, (by show some _ = some _; first | (simp only [List.map_append, List.append_assoc]; done) | (simp only [List.map_append, List.append_assoc]; rfl)), rfl, trivial⟩ rfl (by first | (simp only [List.map_append, List.append_assoc]; done) | (simp only [List.map_append, List.append_assoc]; rfl))⟩
        | exact ⟨i + 1, [], out ++ runes r.«to», kA, ⟨by first | omega | (simp; omega), by cases Nat.lt_or_ge i (runes s).length with | inl hlt => (first | (exfalso; omega) | (left; refine ⟨by omega, ?_⟩; rw [← hf2, hdc hlt, resF_cons]; clear hf2 hf hdc hdn; simp_all; done)) | inr hge => (first | (exfalso; omega) | (right; refine ⟨by omega, ?_⟩; rw [← hf2, hdn (by omega), resF_nil]; clear hf2 hf hdc hdn; simp_all; done))⟩, by omega, St.Le.of ⟨rfl, rfl, rfl, rfl, (by show some _ = some _; first | (simp only [List.map_append, List.append_assoc]; done) | (simp only [List.map_append, List.append_assoc]; rfl)), rfl, trivial⟩ rfl (by first | (simp only [List.map_append, List.append_assoc]; done) | (simp only [List.map_append, List.append_assoc]; rfl))⟩
        | exact ⟨i + 1, ss0, out ++ [(runes s)[i]], kB, ⟨by first | omega | (simp; omega), by cases Nat.lt_or_ge i (runes s).length with | inl hlt => (first | (exfalso; omega) | (left; refine ⟨by omega, ?_⟩; rw [← hf2, hdc hlt, resF_cons]; clear hf2 hf hdc hdn; simp_all; done)) | inr hge => (first | (exfalso; omega) | (right; refine ⟨by omega, ?_⟩; rw [← hf2, hdn (by omega), resF_nil]; clear hf2 hf hdc hdn; simp_all; done))⟩, by omega, St.Le.of ⟨rfl, rfl, rfl, rfl, (by show some _ = some _; first | (simp only [List.map_append, List.append_assoc]; done) | (simp only [List.map_append, List.append_assoc]; rfl)), rfl, trivial⟩ rfl (by first | (simp only [List.map_append, List.append_assoc]; done) | (simp only [List.map_append, List.append_assoc]; rfl))⟩
        | exact ⟨i + 1, (s0 :: ss0), out ++ [(runes s)[i]], kB, ⟨by first | omega | (simp; omega), by cases Nat.lt_or_ge i (runes s).length with | inl hlt => (first | (exfalso; omega) | (left; refine ⟨by omega, ?_⟩; rw [← hf2, hdc hlt, resF_cons]; clear hf2 hf hdc hdn; simp_all; done)) | inr hge => (first | (exfalso; omega) | (right; refine ⟨by omega, ?_⟩; rw [← hf2, hdn (by omega), resF_nil]; clear hf2 hf hdc hdn; simp_all; done))⟩, by omega, St.Le.of ⟨rfl, rfl, rfl, rfl, (by show some _ = some _; first | (simp only [List.map_append, List.append_assoc]; done) | (simp only [List.map_append, List.append_assoc]; rfl)), rfl, trivial⟩ rfl (by first | (simp only [List.map_append, List.append_assoc]; done) | (simp only [List.map_append, List.append_assoc]; rfl))⟩
        | exact ⟨i + 1, [], out ++ [(runes s)[i]], kB, ⟨by first | omega | (simp; omega), by cases Nat.lt_or_ge i (runes s).length with | inl hlt => (first | (exfalso; omega) | (left; refine ⟨by omega, ?_⟩; rw [← hf2, hdc hlt, resF_cons]; clear hf2 hf hdc hdn; simp_all; done)) | inr hge => (first | (exfalso; omega) | (right; refine ⟨by omega, ?_⟩; rw [← hf2, hdn (by omega), resF_nil]; clear hf2 hf hdc hdn; simp_all; done))⟩, by omega, St.Le.of ⟨rfl, rfl, rfl, rfl, (by show some _ = some _; first | (simp only [List.map_append, List.append_assoc]; done) | (simp only [List.map_append, List.append_assoc]; rfl)), rfl, trivial⟩ rfl (by first | (simp only [List.map_append, List.append_assoc]; done) | (simp only [List.map_append, List.append_assoc]; rfl))⟩
        | exact ⟨i + 1, ss0, out, k, ⟨by first | omega | (simp; omega), by cases Nat.lt_or_ge i (runes s).length with | inl hlt => (first | (exfalso; omega) | (left; refine ⟨by omega, ?_⟩; rw [← hf2, hdc hlt, resF_cons]; clear hf2 hf hdc hdn; simp_all; done)) | inr hge => (first | (exfalso; omega) | (right; refine ⟨by omega, ?_⟩; rw [← hf2, hdn (by omega), resF_nil]; clear hf2 hf hdc hdn; simp_all; done))⟩, by omega, St.Le.of ⟨rfl, rfl, rfl, rfl, rfl, rfl, trivial⟩ rfl (rfl)⟩
        | exact ⟨i + 1, (s0 :: ss0), out, k, ⟨by first | omega | (simp; omega), by cases Nat.lt_or_ge i (runes s).length with | inl hlt => (first | (exfalso; omega) | (left; refine ⟨by omega, ?_⟩; rw [← hf2, hdc hlt, resF_cons]; clear hf2 hf hdc hdn; simp_all; done)) | inr hge => (first | (exfalso; omega) | (right; refine ⟨by omega, ?_⟩; rw [← hf2, hdn (by omega), resF_nil]; clear hf2 hf hdc hdn; simp_all; done))⟩, by omega, St.Le.of ⟨rfl, rfl, rfl, rfl, rfl, rfl, trivial⟩ rfl (rfl)⟩
        | exact ⟨i + 1, [], out, k, ⟨by first | omega | (simp; omega), by cases Nat.lt_or_ge i (runes s).length with | inl hlt => (first | (exfalso; omega) | (left; refine ⟨by omega, ?_⟩; rw [← hf2, hdc hlt, resF_cons]; clear hf2 hf hdc hdn; simp_all; done)) | inr hge => (first | (exfalso; omega) | (right; refine ⟨by omega, ?_⟩; rw [← hf2, hdn (by omega), resF_nil]; clear hf2 hf hdc hdn; simp_all; done))⟩, by omega, St.Le.of ⟨rfl, rfl, rfl, rfl, rfl, rfl, trivial⟩ rfl (rfl)⟩
      ·try simp only [nmL] at hc9
       refine SCode.skip ?_
       show SCode _ _ _ _
       refine SCode.region (SOps.move rfl (SOps.addI rfl rfl (by first | omega | (simp only [lenB]; omega)) (by first | omega | (simp only [lenB]; omega)) (SOps.assign rfl (SOps.nil ?_))))
       first
        | (exfalso; simp only [List.getElem_cons_zero] at *; omega)
        | exact ⟨i + 1, ss0, out ++ runes r.«to» ++ [(runes s)[i]], ((fun _ : Nat => kB) kA), ⟨by first | omega | (simp; omega), by cases Nat.lt_or_ge i (runes s).length with | inl hlt => (first | (exfalso; omega) | (left; refine ⟨by omega, ?_⟩; rw [← hf2, hdc hlt, resF_cons]; clear hf2 hf hdc hdn; simp_all; done)) | inr hge => (first | (exfalso; omega) | (right; refine ⟨by omega, ?_⟩; rw [← hf2, hdn (by omega), resF_nil]; clear hf2 hf hdc hdn; simp_all; done))⟩, by omega, St.Le.of ⟨rfl, rfl, rfl, rfl, (by show some _ = some _; first | (simp only [List.map_append, List.append_assoc]; done) | (simp only [List.map_append, List.append_assoc]; rfl)), rfl, trivial⟩ rfl (by first | (simp only [List.map_append, List.append_assoc]; done) | (simp only [List.map_append, List.append_assoc]; rfl))⟩
        | exact ⟨i + 1, (s0 :: ss0), out ++ runes r.«to» ++ [(runes s)[i]], ((fun _ : Nat => kB) kA), ⟨by first | omega | (simp; omega), by cases Nat.lt_or_ge i (runes s).length with | inl hlt => (first | (exfalso; omega) | (left; refine ⟨by omega, ?_⟩; rw [← hf2, hdc hlt, resF_cons]; clear hf2 hf hdc hdn; simp_all; done)) | inr hge => (first | (exfalso; omega) | (right; refine ⟨by omega, ?_⟩; rw [← hf2, hdn (by omega), resF_nil]; clear hf2 hf hdc hdn; simp_all; done))⟩, by omega, St.Le.of ⟨rfl, rfl, rfl, rfl, (by show some _ = some _; first | (simp only [List.map_append, List.append_assoc]; done) | (simp only [List.map_append, List.append_assoc]; rfl)), rfl, trivial⟩ rfl (by first | (simp only [List.map_append, List.append_assoc]; done) | (simp only [List.map_append, List.append_assoc]; rfl))⟩
        | exact ⟨i + 1, [], out ++ runes r.«to» ++ [(runes s)[i]], ((fun _ : Nat => kB) kA), ⟨by first | omega | (simp; omega), by cases Nat.lt_or_ge i (runes s).length with | inl hlt => (first | (exfalso; omega) | (left; refine ⟨by omega, ?_⟩; rw [← hf2, hdc hlt, resF_cons]; clear hf2 hf hdc hdn; simp_all; done)) | inr hge => (first | (exfalso; omega) | (right; refine ⟨by omega, ?_⟩; rw [← hf2, hdn (by omega), resF_nil]; clear hf2 hf hdc hdn; simp_all; done))⟩, by omega, St.Le.of ⟨rfl, rfl, rfl, rfl, (by show some _ = some _; first | (simp only [List.map_append, List.append_assoc]; done) | (simp only [List.map_append, List.append_assoc]; rfl)), rfl, trivial⟩ rfl (by first | (simp only [List.map_append, List.append_assoc]; done) | (simp only [List.map_append, List.append_assoc]; rfl))⟩
        | exact ⟨i + 1, ss0, out ++ runes r.«to», kA, ⟨by first | omega | (simp; omega), by cases Nat.lt_or_ge i (runes s).length with | inl hlt => (first | (exfalso; omega) | (left; refine ⟨by omega, ?_⟩; rw [← hf2, hdc hlt, resF_cons]; clear hf2 hf hdc hdn; simp_all; done)) | inr hge => (first | (exfalso; omega) | (right; refine ⟨by omega, ?_⟩; rw [← hf2, hdn (by omega), resF_nil]; clear hf2 hf hdc hdn; simp_all; done))⟩, by omega, St.Le.of ⟨rfl, rfl, rfl, rfl, (by show some _ = some _; first | (simp only [List.map_append, List.append_assoc]; done) | (simp only [List.map_append, List.append_assoc]; rfl)), rfl, trivial⟩ rfl (by first | (simp only [List.map_append, List.append_assoc]; done) | (simp only [List.map_append, List.append_assoc]; rfl))⟩
        | exact ⟨i + 1, (s0 :: ss0), out ++ runes r.«to», kA, ⟨by first | omega | (simp; omega), by cases Nat.lt_or_ge i (runes s).length with | inl hlt => (first | (exfalso; omega) | (left; refine ⟨by omega, ?_⟩; rw [← hf2, hdc hlt, resF_cons]; clear hf2 hf hdc hdn; simp_all; done)) | inr hge => (first | (exfalso; omega) | (right; refine ⟨by omega, ?_⟩; rw [← hf2, hdn (by omega), resF_nil]; clear hf2 hf hdc hdn; simp_all; done))⟩, by omega, St.Le.of ⟨rfl, rfl, rfl, rfl, (by show some _ = some _; first | (simp only [List.map_append, List.append_assoc]; done) | (simp only [List.map_append, List.append_assoc]; rfl)), rfl, trivial⟩ rfl (by first | (simp only [List.map_append, List.append_assoc]; done) | (simp only [List.map_append, List.append_assoc]; rfl))⟩
        | exact ⟨i + 1, [], out ++ runes r.«to», kA, ⟨by first | omega | (simp; omega), by cases Nat.lt_or_ge i (runes s).length with | inl hlt => (first | (exfalso; omega) | (left; refine ⟨by omega, ?_⟩; rw [← hf2, hdc hlt, resF_cons]; clear hf2 hf hdc hdn; simp_all; done)) | inr hge => (first | (exfalso; omega) | (right; refine ⟨by omega, ?_⟩; rw [← hf2, hdn (by omega), resF_nil]; clear hf2 hf hdc hdn; simp_all; done))⟩, by omega, St.Le.of ⟨rfl, rfl, rfl, rfl, (by show some _ = some _; first | (simp only [List.map_append, List.append_assoc]; done) | (simp only [List.map_append, List.append_assoc]; rfl)), rfl, trivial⟩ rfl (by first | (simp only [List.map_append, List.append_assoc]; done) | (simp only [List.map_append, List.append_assoc]; rfl))⟩
        | exact ⟨i + 1, ss0, out ++ [(runes s)[i]], kB, ⟨by first | omega | (simp; omega), by cases Nat.lt_or_ge i (runes s).length with | inl hlt => (first | (exfalso; omega) | (left; refine ⟨by omega, ?_⟩; rw [← hf2, hdc hlt, resF_cons]; clear hf2 hf hdc hdn; simp_all; done)) | inr hge => (first | (exfalso; omega) | (right; refine ⟨by omega, ?_⟩; rw [← hf2, hdn (by omega), resF_nil]; clear hf2 hf hdc hdn; simp_all; done))⟩, by omega, St.Le.of ⟨rfl, rfl, rfl, rfl, (by show some _ = some _; first | (simp only [List.map_append, List.append_assoc]; done) | (simp only [List.map_append, List.append_assoc]; rfl)), rfl, trivial⟩ rfl (by first | (simp only [List.map_append, List.append_assoc]; done) | (simp only [List.map_append, List.append_assoc]; rfl))⟩
        | exact ⟨i + 1, (s0 :: ss0), out ++ [(runes s)[i]], kB, ⟨by first | omega | (simp; omega), by cases Nat.lt_or_ge i (runes s).length with | inl hlt => (first | (exfalso; omega) | (left; refine ⟨by omega, ?_⟩; rw [← hf2, hdc hlt, resF_cons]; clear hf2 hf hdc hdn; simp_all; done)) | inr hge => (first | (exfalso; omega) | (right; refine ⟨by omega, ?_⟩; rw [← hf2, hdn (by omega), resF_nil]; clear hf2 hf hdc hdn; simp_all; done))⟩, by omega, St.Le.of ⟨rfl, rfl, rfl, rfl, (by show some _ = some _; first | (simp only [List.map_append, List.append_assoc]; done) | (simp only [List.map_append, List.append_assoc]; rfl)), rfl, trivial⟩ rfl (by first | (simp only [List.map_append, List.append_assoc]; done) | (simp only [List.map_append, List.append_assoc]; rfl))⟩
        | exact ⟨i + 1, [], out ++ [(runes s)[i]], kB, ⟨by first | omega | (simp; omega), by cases Nat.lt_or_ge i (runes s).length with | inl hlt => (first | (exfalso; omega) | (left; refine ⟨by omega, ?_⟩; rw [← hf2, hdc hlt, resF_cons]; clear hf2 hf hdc hdn; simp_all; done)) | inr hge => (first | (exfalso; omega) | (right; refine ⟨by omega, ?_⟩; rw [← hf2, hdn (by omega), resF_nil]; clear hf2 hf hdc hdn; simp_all; done))⟩, by omega, St.Le.of ⟨rfl, rfl, rfl, rfl, (by show some _ = some _; first | (simp only [List.map_append, List.append_assoc]; done) | (simp only [List.map_append, List.append_assoc]; rfl)), rfl, trivial⟩ rfl (by first | (simp only [List.map_append, List.append_assoc]; done) | (simp only [List.map_append, List.append_assoc]; rfl))⟩
        | exact ⟨i + 1, ss0, out, k, ⟨by first | omega | (simp; omega), by cases Nat.lt_or_ge i (runes s).length with | inl hlt => (first | (exfalso; omega) | (left; refine ⟨by omega, ?_⟩; rw [← hf2, hdc hlt, resF_cons]; clear hf2 hf hdc hdn; simp_all; done)) | inr hge => (first | (exfalso; omega) | (right; refine ⟨by omega, ?_⟩; rw [← hf2, hdn (by omega), resF_nil]; clear hf2 hf hdc hdn; simp_all; done))⟩, by omega, St.Le.of ⟨rfl, rfl, rfl, rfl, rfl, rfl, trivial⟩ rfl (rfl)⟩
        | exact ⟨i + 1, (s0 :: ss0), out, k, ⟨by first | omega | (simp; omega), by cases Nat.lt_or_ge i (runes s).length with | inl hlt => (first | (exfalso; omega) | (left; refine ⟨by omega, ?_⟩; rw [← hf2, hdc hlt, resF_cons]; clear hf2 hf hdc hdn; simp_all; done)) | inr hge => (first | (exfalso; omega) | (right; refine ⟨by omega, ?_⟩; rw [← hf2, hdn (by omega), resF_nil]; clear hf2 hf hdc hdn; simp_all; done))⟩, by omega, St.Le.of ⟨rfl, rfl, rfl, rfl, rfl, rfl, trivial⟩ rfl (rfl)⟩
        | exact ⟨i + 1, [], out, k, ⟨by first | omega | (simp; omega), by cases Nat.lt_or_ge i (runes s).length with | inl hlt => (first | (exfalso; omega) | (left; refine ⟨by omega, ?_⟩; rw [← hf2, hdc hlt, resF_cons]; clear hf2 hf hdc hdn; simp_all; done)) | inr hge => (first | (exfalso; omega) | (right; refine ⟨by omega, ?_⟩; rw [← hf2, hdn (by omega), resF_nil]; clear hf2 hf hdc hdn; simp_all; done))⟩, by omega, St.Le.of ⟨rfl, rfl, rfl, rfl, rfl, rfl, trivial⟩ rfl (rfl)⟩
    ·try simp only [nmL] at hb7
     refine SOps.skip rfl (SOps.skip rfl (SOps.skip rfl (SOps.skip rfl (SOps.skip rfl (SOps.skip rfl (SOps.skip rfl (SOps.pick rfl rfl (SOps.nil ?_))))))))
     refine SCode.cond rfl (fun h => by cases h) (fun _ => ?_)
     refine SCode.skip ?_
     show SCode _ _ _ _
     refine SCode.region (SOps.move rfl (SOps.addI rfl rfl (by first | omega | (simp only [lenB]; omega)) (by first | omega | (simp only [lenB]; omega)) (SOps.assign rfl (SOps.nil ?_))))
     first
      | (exfalso; simp only [List.getElem_cons_zero] at *; omega)
      | exact ⟨i + 1, ss0, out ++ runes r.«to» ++ [(runes s)[i]], ((fun _ : Nat => kB) kA), ⟨by first | omega | (simp; omega), by cases Nat.lt_or_ge i (runes s).length with | inl hlt => (first | (exfalso; omega) | (left; refine ⟨by omega, ?_⟩; rw [← hf2, hdc hlt, resF_cons]; clear hf2 hf hdc hdn; simp_all; done)) | inr hge => (first | (exfalso; omega) | (right; refine ⟨by omega, ?_⟩; rw [← hf2, hdn (by omega), resF_nil]; clear hf2 hf hdc hdn; simp_all; done))⟩, by omega, St.Le.of ⟨rfl, rfl, rfl, rfl, (by show some _ = some _; first | (simp only [List.map_append, List.append_assoc]; done) | (simp only [List.map_append, List.append_assoc]; rfl)), rfl, trivial⟩ rfl (by first | (simp only [List.map_append, List.append_assoc]; done) | (simp only [List.map_append, List.append_assoc]; rfl))⟩
      | exact ⟨i + 1, (s0 :: ss0), out ++ runes r.«to» ++ [(runes s)[i]], ((fun _ : Nat => kB) kA), ⟨by first | omega | (simp; omega), by cases Nat.lt_or_ge i (runes s).length with | inl hlt => (first | (exfalso; omega) | (left; refine ⟨by omega, ?_⟩; rw [← hf2, hdc hlt, resF_cons]; clear hf2 hf hdc hdn; simp_all; done)) | inr hge => (first | (exfalso; omega) | (right; refine ⟨by omega, ?_⟩; rw [← hf2, hdn (by omega), resF_nil]; clear hf2 hf hdc hdn; simp_all; done))⟩, by omega, St.Le.of ⟨rfl, rfl, rfl, rfl, (by show some _ = some _; first | (simp only [List.map_append, List.append_assoc]; done) | (simp only [List.map_append, List.append_assoc]; rfl)), rfl, trivial⟩ rfl (by first | (simp only [List.map_append, List.append_assoc]; done) | (simp only [List.map_append, List.append_assoc]; rfl))⟩
      | exact ⟨i + 1, [], out ++ runes r.«to» ++ [(runes s)[i]], ((fun _ : Nat => kB) kA), ⟨by first | omega | (simp; omega), by cases Nat.lt_or_ge i (runes s).length with | inl hlt => (first | (exfalso; omega) | (left; refine ⟨by omega, ?_⟩; rw [← hf2, hdc hlt, resF_cons]; clear hf2 hf hdc hdn; simp_all; done)) | inr hge => (first | (exfalso; omega) | (right; refine ⟨by omega, ?_⟩; rw [← hf2, hdn (by omega), resF_nil]; clear hf2 hf hdc hdn; simp_all; done))⟩, by omega, St.Le.of ⟨rfl, rfl, rfl, rfl, (by show some _ = some _; first | (simp only [List.map_append, List.append_assoc]; done) | (simp only [List.map_append, List.append_assoc]; rfl)), rfl, trivial⟩ rfl (by first | (simp only [List.map_append, List.append_assoc]; done) | (simp only [List.map_append, List.append_assoc]; rfl))⟩
      | exact ⟨i + 1, ss0, out ++ runes r.«to», kA, ⟨by first | omega | (simp; omega), by cases Nat.lt_or_ge i (runes s).length with | inl hlt => (first | (exfalso; omega) | (left; refine ⟨by omega, ?_⟩; rw [← hf2, hdc hlt, resF_cons]; clear hf2 hf hdc hdn; simp_all; done)) | inr hge => (first | (exfalso; omega) | (right; refine ⟨by omega, ?_⟩; rw [← hf2, hdn (by omega), resF_nil]; clear hf2 hf hdc hdn; simp_all; done))⟩, by omega, St.Le.of ⟨rfl, rfl, rfl, rfl, (by show some _ = some _; first | (simp only [List.map_append, List.append_assoc]; done) | (simp only [List.map_append, List.append_assoc]; rfl)), rfl, trivial⟩ rfl (by first | (simp only [List.map_append, List.append_assoc]; done) | (simp only [List.map_append, List.append_assoc]; rfl))⟩
      | exact ⟨i + 1, (s0 :: ss0), out ++ runes r.«to», kA, ⟨by first | omega | (simp; omega), by cases Nat.lt_or_ge i (runes s).length with | inl hlt => (first | (exfalso; omega) | (left; refine ⟨by omega, ?_⟩; rw [← hf2, hdc hlt, resF_cons]; clear hf2 hf hdc hdn; simp_all; done)) | inr hge => (first | (exfalso; omega) | (right; refine ⟨by omega, ?_⟩; rw [← hf2, hdn (by omega), resF_nil]; clear hf2 hf hdc hdn; simp_all; done))⟩, by omega, St.Le.of ⟨rfl, rfl, rfl, rfl, (by show some _ = some _; first | (simp only [List.map_append, List.append_assoc]; done) | (simp only [List.map_append, List.append_assoc]; rfl)), rfl, trivial⟩ rfl (by first | (simp only [List.map_append, List.append_assoc]; done) | (simp only [List.map_append, List.append_assoc]; rfl))⟩
      | exact ⟨i + 1, [], out ++ runes r.«to», kA, ⟨by first | omega | (simp; omega), by cases Nat.lt_or_ge i (runes s).length with | inl hlt => (first | (exfalso; omega) | (left; refine ⟨by omega, ?_⟩; rw [← hf2, hdc hlt, resF_cons]; clear hf2 hf hdc hdn; simp_all; done)) | inr hge => (first | (exfalso; omega) | (right; refine ⟨by omega, ?_⟩; rw [← hf2, hdn (by omega), resF_nil]; clear hf2 hf hdc hdn; simp_all; done))⟩, by omega, St.Le.of ⟨rfl, rfl, rfl, rfl, (by show some _ = some _; first | (simp only [List.map_append, List.append_assoc]; done) | (simp only [List.map_append, List.append_assoc]; rfl)), rfl, trivial⟩ rfl (by first | (simp only [List.map_append, List.append_assoc]; done) | (simp only [List.map_append, List.append_assoc]; rfl))⟩
      | exact ⟨i + 1, ss0, out ++ [(runes s)[i]], kB, ⟨by first | omega | (simp; omega), by cases Nat.lt_or_ge i (runes s).length with | inl hlt => (first | (exfalso; omega) | (left; refine ⟨by omega, ?_⟩; rw [← hf2, hdc hlt, resF_cons]; clear hf2 hf hdc hdn; simp_all; done)) | inr hge => (first | (exfalso; omega) | (right; refine ⟨by omega, ?_⟩; rw [← hf2, hdn (by omega), resF_nil]; clear hf2 hf hdc hdn; simp_all; done))⟩, by omega, St.Le.of ⟨rfl, rfl, rfl, rfl, (by show some _ = some _; first | (simp only [List.map_append, List.append_assoc]; done) | (simp only [List.map_append, List.append_assoc]; rfl)), rfl, trivial⟩ rfl (by first | (simp only [List.map_append, List.append_assoc]; done) | (simp only [List.map_append, List.append_assoc]; rfl))⟩
      | exact ⟨i + 1, (s0 :: ss0), out ++ [(runes s)[i]], kB, ⟨by first | omega | (simp; omega), by cases Nat.lt_or_ge i (runes s).length with | inl hlt => (first | (exfalso; omega) | (left; refine ⟨by omega, ?_⟩; rw [← hf2, hdc hlt, resF_cons]; clear hf2 hf hdc hdn; simp_all; done)) | inr hge => (first | (exfalso; omega) | (right; refine ⟨by omega, ?_⟩; rw [← hf2, hdn (by omega), resF_nil]; clear hf2 hf hdc hdn; simp_all; done))⟩, by omega, St.Le.of ⟨rfl, rfl, rfl, rfl, (by show some _ = some _; first | (simp only [List.map_append, List.append_assoc]; done) | (simp only [List.map_append, List.append_assoc]; rfl)), rfl, trivial⟩ rfl (by first | (simp only [List.map_append, List.append_assoc]; done) | (simp only [List.map_append, List.append_assoc]; rfl))⟩
      | exact ⟨i + 1, [], out ++ [(runes s)[i]], kB, ⟨by first | omega | (simp; omega), by cases Nat.lt_or_ge i (runes s).length with | inl hlt => (first | (exfalso; omega) | (left; refine ⟨by omega, ?_⟩; rw [← hf2, hdc hlt, resF_cons]; clear hf2 hf hdc hdn; simp_all; done)) | inr hge => (first | (exfalso; omega) | (right; refine ⟨by omega, ?_⟩; rw [← hf2, hdn (by omega), resF_nil]; clear hf2 hf hdc hdn; simp_all; done))⟩, by omega, St.Le.of ⟨rfl, rfl, rfl, rfl, (by show some _ = some _; first | (simp only [List.map_append, List.append_assoc]; done) | (simp only [List.map_append, List.append_assoc]; rfl)), rfl, trivial⟩ rfl (by first | (simp only [List.map_append, List.append_assoc]; done) | (simp only [List.map_append, List.append_assoc]; rfl))⟩
      | exact ⟨i + 1, ss0, out, k, ⟨by first | omega | (simp; omega), by cases Nat.lt_or_ge i (runes s).length with | inl hlt => (first | (exfalso; omega) | (left; refine ⟨by omega, ?_⟩; rw [← hf2, hdc hlt, resF_cons]; clear hf2 hf hdc hdn; simp_all; done)) | inr hge => (first | (exfalso; omega) | (right; refine ⟨by omega, ?_⟩; rw [← hf2, hdn (by omega), resF_nil]; clear hf2 hf hdc hdn; simp_all; done))⟩, by omega, St.Le.of ⟨rfl, rfl, rfl, rfl, rfl, rfl, trivial⟩ rfl (rfl)⟩
      | exact ⟨i + 1, (s0 :: ss0), out, k, ⟨by first | omega | (simp; omega), by cases Nat.lt_or_ge i (runes s).length with | inl hlt => (first | (exfalso; omega) | (left; refine ⟨by omega, ?_⟩; rw [← hf2, hdc hlt, resF_cons]; clear hf2 hf hdc hdn; simp_all; done)) | inr hge => (first | (exfalso; omega) | (right; refine ⟨by omega, ?_⟩; rw [← hf2, hdn (by omega), resF_nil]; clear hf2 hf hdc hdn; simp_all; done))⟩, by omega, St.Le.of ⟨rfl, rfl, rfl, rfl, rfl, rfl, trivial⟩ rfl (rfl)⟩
      | exact ⟨i + 1, [], out, k, ⟨by first | omega | (simp; omega), by cases Nat.lt_or_ge i (runes s).length with | inl hlt => (first | (exfalso; omega) | (left; refine ⟨by omega, ?_⟩; rw [← hf2, hdc hlt, resF_cons]; clear hf2 hf hdc hdn; simp_all; done)) | inr hge => (first | (exfalso; omega) | (right; refine ⟨by omega, ?_⟩; rw [← hf2, hdn (by omega), resF_nil]; clear hf2 hf hdc hdn; simp_all; done))⟩, by omega, St.Le.of ⟨rfl, rfl, rfl, rfl, rfl, rfl, trivial⟩ rfl (rfl)⟩
  ·try simp only [nmL] at hb2
   obtain rfl : ss = [] := by cases ss with | nil => rfl | cons x y => (simp only [List.length_cons] at hb2; omega)
   have ss0 : List Nat := []
   refine SOps.skip rfl (SOps.skip rfl (SOps.skip rfl (SOps.skip rfl (SOps.skip rfl (SOps.pick rfl rfl (SOps.assign rfl (SOps.nil (SCode.seq (SCode.seqR (SOps.move rfl (SOps.nil ?_)))))))))))
   refine SCode.cond rfl (fun h => by cases h) (fun _ => ?_)
   refine SCode.skip ?_
   show SCode _ _ _ _
   refine SCode.seqR (SOps.move rfl (SOps.move rfl (SOps.lenM rfl sliceB_84_21_1 (SOps.bin rfl rfl rfl (SOps.move rfl ?_)))))
   refine SOps.caseB 43 rfl (fun hb10 => ?_) (fun hb10 => ?_)
   ·try simp only [nmL] at hb10
    refine SOps.move rfl (SOps.un rfl rfl (SOps.move rfl (SOps.skip rfl (SOps.skip rfl (SOps.skip rfl (SOps.pick rfl rfl (SOps.pick rfl rfl (SOps.nil ?_))))))))
    refine SCode.cond rfl (fun _ => ?_) (fun h => by cases h)
    refine SCode.region (SOps.move rfl (SOps.move rfl (SOps.move rfl (SOps.indexM (i) rfl rfl sliceB_84_21_1 (by first | omega | (simp only [lenB]; omega)) (by first | omega | (simp only [lenB]; omega)) (SOps.loadPin rfl flatB_21 (SOps.litF rfl sliceB_84_21_1 zeroIs_21 rfl ?_))))))
    refine SOps.appendAcc [] [] sliceB_84_21_1 elemB_21_1_4 rfl rfl rfl SrcD.isl (by simp) (by simp [lenB]; omega) (by simp; omega) (fun kB => ?_)
    refine SOps.assign rfl (SOps.nil ?_)
    show SCode _ _ _ _
    refine SCode.region (SOps.move rfl (SOps.addI rfl rfl (by first | omega | (simp only [lenB]; omega)) (by first | omega | (simp only [lenB]; omega)) (SOps.assign rfl (SOps.nil ?_))))
    first
     | (exfalso; simp only [List.getElem_cons_zero] at *; omega)
     | exact ⟨i + 1, ss0, out ++ runes r.«to» ++ [(runes s)[i]], ((fun _ : Nat => kB) kA), ⟨by first | omega | (simp; omega), by cases Nat.lt_or_ge i (runes s).length with | inl hlt => (first | (exfalso; omega) | (left; refine ⟨by omega, ?_⟩; rw [← hf2, hdc hlt, resF_cons]; clear hf2 hf hdc hdn; simp_all; done)) | inr hge => (first | (exfalso; omega) | (right; refine ⟨by omega, ?_⟩; rw [← hf2, hdn (by omega), resF_nil]; clear hf2 hf hdc hdn; simp_all; done))⟩, by omega, St.Le.of ⟨rfl, rfl, rfl, rfl, (by show some _ = some _; first | (simp only [List.map_append, List.append_assoc]; done) | (simp only [List.map_append, List.append_assoc]; rfl)), rfl, trivial⟩ rfl (by first | (simp only [List.map_append, List.append_assoc]; done) | (simp only [List.map_append, List.append_assoc]; rfl))⟩
     | exact ⟨i + 1, (s0 :: ss0), out ++ runes r.«to» ++ [(runes s)[i]], ((fun _ : Nat => kB) kA), ⟨by first | omega | (simp; omega), by cases Nat.lt_or_ge i (runes s).length with | inl hlt => (first | (exfalso; omega) | (left; refine ⟨by omega, ?_⟩; rw [← hf2, hdc hlt, resF_cons]; clear hf2 hf hdc hdn; simp_all; done)) | inr hge => (first | (exfalso; omega) | (right; refine ⟨by omega, ?_⟩; rw [← hf2, hdn (by omega), resF_nil]; clear hf2 hf hdc hdn; simp_all; done))⟩, by omega, St.Le.of ⟨rfl, rfl, rfl, rfl, (by show some _ = some _; first | (simp only [List.map_append, List.append_assoc]; done) | (simp only [List.map_append, List.append_assoc]; rfl)), rfl, trivial⟩ rfl (by first | (simp only [List.map_append, List.append_assoc]; done) | (simp only [List.map_append, List.append_assoc]; rfl))⟩
     | exact ⟨i + 1, [], out ++ runes r.«to» ++ [(runes s)[i]], ((fun _ : Nat => kB) kA), ⟨by first | omega | (simp; omega), by cases Nat.lt_or_ge i (runes s).length with | inl hlt => (first | (exfalso; omega) | (left; refine ⟨by omega, ?_⟩; rw [← hf2, hdc hlt, resF_cons]; clear hf2 hf hdc hdn; simp_all; done)) | inr hge => (first | (exfalso; omega) | (right; refine ⟨by omega, ?_⟩; rw [← hf2, hdn (by omega), resF_nil]; clear hf2 hf hdc hdn; simp_all; done))⟩, by omega, St.Le.of ⟨rfl, rfl, rfl, rfl, (by show some _ = some _; first | (simp only [List.map_append, List.append_assoc]; done) | (simp only [List.map_append, List.append_assoc]; rfl)), rfl, trivial⟩ rfl (by first | (simp only [List.map_append, List.append_assoc]; done) | (simp only [List.map_append, List.append_assoc]; rfl))⟩
     | exact ⟨i + 1, ss0, out ++ runes r.«to», kA, ⟨by first | omega | (simp; omega), by cases Nat.lt_or_ge i (runes s).length with | inl hlt => (first | (exfalso; omega) | (left; refine ⟨by omega, ?_⟩; rw [← hf2, hdc hlt, resF_cons]; clear hf2 hf hdc hdn; simp_all; done)) | inr hge => (first | (exfalso; omega) | (right; refine ⟨by omega, ?_⟩; rw [← hf2, hdn (by omega), resF_nil]; clear hf2 hf hdc hdn; simp_all; done))⟩, by omega, St.Le.of ⟨rfl, rfl, rfl, rfl, (by show some _ = some _; first | (simp only [List.map_append, List.append_assoc]; done) | (simp only [List.map_append, List.append_assoc]; rfl)), rfl, trivial⟩ rfl (by first | (simp only [List.map_append, List.append_assoc]; done) | (simp only [List.map_append, List.append_assoc]; rfl))⟩
     | exact ⟨i + 1, (s0 :: ss0), out ++ runes r.«to», kA, ⟨by first | omega | (simp; omega), by cases Nat.lt_or_ge i (runes s).length with | inl hlt => (first | (exfalso; omega) | (left; refine ⟨by omega, ?_⟩; rw [← hf2, hdc hlt, resF_cons]; clear hf2 hf hdc hdn; simp_all; done)) | inr hge => (first | (exfalso; omega) | (right; refine ⟨by omega, ?_⟩; rw [← hf2, hdn (by omega), resF_nil]; clear hf2 hf hdc hdn; simp_all; done))⟩, by omega, St.Le.of ⟨rfl, rfl, rfl, rfl, (by show some _ = some _; first | (simp only [List.map_append, List.append_assoc]; done) | (simp only [List.map_append, List.append_assoc]; rfl)), rfl, trivial⟩ rfl (by first | (simp only [List.map_append, List.append_assoc]; done) | (simp only [List.map_append, List.append_assoc]; rfl))⟩
     | exact ⟨i + 1, [], out ++ runes r.«to», kA, ⟨by first | omega | (simp; omega), by cases Nat.lt_or_ge i (runes s).length with | inl hlt => (first | (exfalso; omega) | (left; refine ⟨by omega, ?_⟩; rw [← hf2, hdc hlt, resF_cons]; clear hf2 hf hdc hdn; simp_all; done)) | inr hge => (first | (exfalso; omega) | (right; refine ⟨by omega, ?_⟩; rw [← hf2, hdn (by omega), resF_nil]; clear hf2 hf hdc hdn; simp_all; done))⟩, by omega, St.Le.of ⟨rfl, rfl, rfl, rfl, (by show some _ = some _; first | (simp only [List.map_append, List.append_assoc]; done) | (simp only [List.map_append, List.append_assoc]; rfl)), rfl, trivial⟩ rfl (by first | (simp only [List.map_append, List.append_assoc]; done) | (simp only [List.map_append, List.append_assoc]; rfl))⟩
     | exact ⟨i + 1, ss0, out ++ [(runes s)[i]], kB, ⟨by first | omega | (simp; omega), by cases Nat.lt_or_ge i (runes s).length with | inl hlt => (first | (exfalso; omega) | (left; refine ⟨by omega, ?_⟩; rw [← hf2, hdc hlt, resF_cons]; clear hf2 hf hdc hdn; simp_all; done)) | inr hge => (first | (exfalso; omega) | (right; refine ⟨by omega, ?_⟩; rw [← hf2, hdn (by omega), resF_nil]; clear hf2 hf hdc hdn; simp_all; done))⟩, by omega, St.Le.of ⟨rfl, rfl, rfl, rfl, (by show some _ = some _; first | (simp only [List.map_append, List.append_assoc]; done) | (simp only [List.map_append, List.append_assoc]; rfl)), rfl, trivial⟩ rfl (by first | (simp only [List.map_append, List.append_assoc]; done) | (simp only [List.map_append, List.append_assoc]; rfl))⟩
     | exact ⟨i + 1, (s0 :: ss0), out ++ [(runes s)[i]], kB, ⟨by first | omega | (simp; omega), by cases Nat.lt_or_ge i (runes s).length with | inl hlt => (first | (exfalso; omega) | (left; refine ⟨by omega, ?_⟩; rw [← hf2, hdc hlt, resF_cons]; clear hf2 hf hdc hdn; simp_all; done)) | inr hge => (first | (exfalso; omega) | (right; refine ⟨by omega, ?_⟩; rw [← hf2, hdn (by omega), resF_nil]; clear hf2 hf hdc hdn; simp_all; done))⟩, by omega, St.Le.of ⟨rfl, rfl, rfl, rfl, (by show some _ = some _; first | (simp only [List.map_append, List.append_assoc]; done) | (simp only [List.map_append, List.append_assoc]; rfl)), rfl, trivial⟩ rfl (by first | (simp only [List.map_append, List.append_assoc]; done) | (simp only [List.map_append, List.append_assoc]; rfl))⟩
     | exact ⟨i + 1, [], out ++ [(runes s)[i]], kB, ⟨by first | omega | (simp; omega), by cases Nat.lt_or_ge i (runes s).length with | inl hlt => (first | (exfalso; omega) | (left; refine ⟨by omega, ?_⟩; rw [← hf2, hdc hlt, resF_cons]; clear hf2 hf hdc hdn; simp_all; done)) | inr hge => (first | (exfalso; omega) | (right; refine ⟨by omega, ?_⟩; rw [← hf2, hdn (by omega), resF_nil]; clear hf2 hf hdc hdn; simp_all; done))⟩, by omega, St.Le.of ⟨rfl, rfl, rfl, rfl, (by show some _ = some _; first | (simp only [List.map_append, List.append_assoc]; done) | (simp only [List.map_append, List.append_assoc]; rfl)), rfl, trivial⟩ rfl (by first | (simp only [List.map_append, List.append_assoc]; done) | (simp only [List.map_append, List.append_assoc]; rfl))⟩
     | exact ⟨i + 1, ss0, out, k, ⟨by first | omega | (simp; omega), by cases Nat.lt_or_ge i (runes s).length with | inl hlt => (first | (exfalso; omega) | (left; refine ⟨by omega, ?_⟩; rw [← hf2, hdc hlt, resF_cons]; clear hf2 hf hdc hdn; simp_all; done)) | inr hge => (first | (exfalso; omega) | (right; refine ⟨by omega, ?_⟩; rw [← hf2, hdn (by omega), resF_nil]; clear hf2 hf hdc hdn; simp_all; done))⟩, by omega, St.Le.of ⟨rfl, rfl, rfl, rfl, rfl, rfl, trivial⟩ rfl (rfl)⟩
     | exact ⟨i + 1, (s0 :: ss0), out, k, ⟨by first | omega | (simp; omega), by cases Nat.lt_or_ge i (runes s).length with | inl hlt => (first | (exfalso; omega) | (left; refine ⟨by omega, ?_⟩; rw [← hf2, hdc hlt, resF_cons]; clear hf2 hf hdc hdn; simp_all; done)) | inr hge => (first | (exfalso; omega) | (right; refine ⟨by omega, ?_⟩; rw [← hf2, hdn (by omega), resF_nil]; clear hf2 hf hdc hdn; simp_all; done))⟩, by omega, St.Le.of ⟨rfl, rfl, rfl, rfl, rfl, rfl, trivial⟩ rfl (rfl)⟩
     | exact ⟨i + 1, [], out, k, ⟨by first | omega | (simp; omega), by cases Nat.lt_or_ge i (runes s).length with | inl hlt => (first | (exfalso; omega) | (left; refine ⟨by omega, ?_⟩; rw [← hf2, hdc hlt, resF_cons]; clear hf2 hf hdc hdn; simp_all; done)) | inr hge => (first | (exfalso; omega) | (right; refine ⟨by omega, ?_⟩; rw [← hf2, hdn (by omega), resF_nil]; clear hf2 hf hdc hdn; simp_all; done))⟩, by omega, St.Le.of ⟨rfl, rfl, rfl, rfl, rfl, rfl, trivial⟩ rfl (rfl)⟩
   ·try simp only [nmL] at hb10
    refine SOps.skip rfl (SOps.skip rfl (SOps.skip rfl (SOps.skip rfl (SOps.skip rfl (SOps.skip rfl (SOps.skip rfl (SOps.pick rfl rfl (SOps.nil ?_))))))))
    refine SCode.cond rfl (fun h => by cases h) (fun _ => ?_)
    refine SCode.skip ?_
    show SCode _ _ _ _
    refine SCode.region (SOps.move rfl (SOps.addI rfl rfl (by first | omega | (simp only [lenB]; omega)) (by first | omega | (simp only [lenB]; omega)) (SOps.assign rfl (SOps.nil ?_))))
    first
     | (exfalso; simp only [List.getElem_cons_zero] at *; omega)
     | exact ⟨i + 1, ss0, out ++ runes r.«to» ++ [(runes s)[i]], ((fun _ : Nat => kB) kA), ⟨by first | omega | (simp; omega), by cases Nat.lt_or_ge i (runes s).length with | inl hlt => (first | (exfalso; omega) | (left; refine ⟨by omega, ?_⟩; rw [← hf2, hdc hlt, resF_cons]; clear hf2 hf hdc hdn; simp_all; done)) | inr hge => (first | (exfalso; omega) | (right; refine ⟨by omega, ?_⟩; rw [← hf2, hdn (by omega), resF_nil]; clear hf2 hf hdc hdn; simp_all; done))⟩, by omega, St.Le.of ⟨rfl, rfl, rfl, rfl, (by show some _ = some _; first | (simp only [List.map_append, List.append_assoc]; done) | (simp only [List.map_append, List.append_assoc]; rfl)), rfl, trivial⟩ rfl (by first | (simp only [List.map_append, List.append_assoc]; done) | (simp only [List.map_append, List.append_assoc]; rfl))⟩
     | exact ⟨i + 1, (s0 :: ss0), out ++ runes r.«to» ++ [(runes s)[i]], ((fun _ : Nat => kB) kA), ⟨by first | omega | (simp; omega), by cases Nat.lt_or_ge i (runes s).length with | inl hlt => (first | (exfalso; omega) | (left; refine ⟨by omega, ?_⟩; rw [← hf2, hdc hlt, resF_cons]; clear hf2 hf hdc hdn; simp_all; done)) | inr hge => (first | (exfalso; omega) | (right; refine ⟨by omega, ?_⟩; rw [← hf2, hdn (by omega), resF_nil]; clear hf2 hf hdc hdn; simp_all; done))⟩, by omega, St.Le.of ⟨rfl, rfl, rfl, rfl, (by show some _ = some _; first | (simp only [List.map_append, List.append_assoc]; done) | (simp only [List.map_append, List.append_assoc]; rfl)), rfl, trivial⟩ rfl (by first | (simp only [List.map_append, List.append_assoc]; done) | (simp only [List.map_append, List.append_assoc]; rfl))⟩
     | exact ⟨i + 1, [], out ++ runes r.«to» ++ [(runes s)[i]], ((fun _ : Nat => kB) kA), ⟨by first | omega | (simp; omega), by cases Nat.lt_or_ge i (runes s).length with | inl hlt => (first | (exfalso; omega) | (left; refine ⟨by omega, ?_⟩; rw [← hf2, hdc hlt, resF_cons]; clear hf2 hf hdc hdn; simp_all; done)) | inr hge => (first | (exfalso; omega) | (right; refine ⟨by omega, ?_⟩; rw [← hf2, hdn (by omega), resF_nil]; clear hf2 hf hdc hdn; simp_all; done))⟩, by omega, St.Le.of ⟨rfl, rfl, rfl, rfl, (by show some _ = some _; first | (simp only [List.map_append, List.append_assoc]; done) | (simp only [List.map_append, List.append_assoc]; rfl)), rfl, trivial⟩ rfl (by first | (simp only [List.map_append, List.append_assoc]; done) | (simp only [List.map_append, List.append_assoc]; rfl))⟩
     | exact ⟨i + 1, ss0, out ++ runes r.«to», kA, ⟨by first | omega | (simp; omega), by cases Nat.lt_or_ge i (runes s).length with | inl hlt => (first | (exfalso; omega) | (left; refine ⟨by omega, ?_⟩; rw [← hf2, hdc hlt, resF_cons]; clear hf2 hf hdc hdn; simp_all; done)) | inr hge => (first | (exfalso; omega) | (right; refine ⟨by omega, ?_⟩; rw [← hf2, hdn (by omega), resF_nil]; clear hf2 hf hdc hdn; simp_all; done))⟩, by omega, St.Le.of ⟨rfl, rfl, rfl, rfl, (by show some _ = some _; first | (simp only [List.map_append, List.append_assoc]; done) | (simp only [List.map_append, List.append_assoc]; rfl)), rfl, trivial⟩ rfl (by first | (simp only [List.map_append, List.append_assoc]; done) | (simp only [List.map_append, List.append_assoc]; rfl))⟩
     | exact ⟨i + 1, (s0 :: ss0), out ++ runes r.«to», kA, ⟨by first | omega | (simp; omega), by cases Nat.lt_or_ge i (runes s).length with | inl hlt => (first | (exfalso; omega) | (left; refine ⟨by omega, ?_⟩; rw [← hf2, hdc hlt, resF_cons]; clear hf2 hf hdc hdn; simp_all; done)) | inr hge => (first | (exfalso; omega) | (right; refine ⟨by omega, ?_⟩; rw [← hf2, hdn (by omega), resF_nil]; clear hf2 hf hdc hdn; simp_all; done))⟩, by omega, St.Le.of ⟨rfl, rfl, rfl, rfl, (by show some _ = some _; first | (simp only [List.map_append, List.append_assoc]; done) | (simp only [List.map_append, List.append_assoc]; rfl)), rfl, trivial⟩ rfl (by first | (simp only [List.map_append, List.append_assoc]; done) | (simp only [List.map_append, List.append_assoc]; rfl))⟩
     | exact ⟨i + 1, [], out ++ runes r.«to», kA, ⟨by first | omega | (simp; omega), by cases Nat.lt_or_ge i (runes s).length with | inl hlt => (first | (exfalso; omega) | (left; refine ⟨by omega, ?_⟩; rw [← hf2, hdc hlt, resF_cons]; clear hf2 hf hdc hdn; simp_all; done)) | inr hge => (first | (exfalso; omega) | (right; refine ⟨by omega, ?_⟩; rw [← hf2, hdn (by omega), resF_nil]; clear hf2 hf hdc hdn; simp_all; done))⟩, by omega, St.Le.of ⟨rfl, rfl, rfl, rfl, (by show some _ = some _; first | (simp only [List.map_append, List.append_assoc]; done) | (simp only [List.map_append, List.append_assoc]; rfl)), rfl, trivial⟩ rfl (by first | (simp only [List.map_append, List.append_assoc]; done) | (simp only [List.map_append, List.append_assoc]; rfl))⟩
     | exact ⟨i + 1, ss0, out ++ [(runes s)[i]], kB, ⟨by first | omega | (simp; omega), by cases Nat.lt_or_ge i (runes s).length with | inl hlt => (first | (exfalso; omega) | (left; refine ⟨by omega, ?_⟩; rw [← hf2, hdc hlt, resF_cons]; clear hf2 hf hdc hdn; simp_all; done)) | inr hge => (first | (exfalso; omega) | (right; refine ⟨by omega, ?_⟩; rw [← hf2, hdn (by omega), resF_nil]; clear hf2 hf hdc hdn; simp_all; done))⟩, by omega, St.Le.of ⟨rfl, rfl, rfl, rfl, (by show some _ = some _; first | (simp only [List.map_append, List.append_assoc]; done) | (simp only [List.map_append, List.append_assoc]; rfl)), rfl, trivial⟩ rfl (by first | (simp only [List.map_append, List.append_assoc]; done) | (simp only [List.map_append, List.append_assoc]; rfl))⟩
     | exact ⟨i + 1, (s0 :: ss0), out ++ [(runes s)[i]], kB, ⟨by first | omega | (simp; omega), by cases Nat.lt_or_ge i (runes s).length with | inl hlt => (first | (exfalso; omega) | (left; refine ⟨by omega, ?_⟩; rw [← hf2, hdc hlt, resF_cons]; clear hf2 hf hdc hdn; simp_all; done)) | inr hge => (first | (exfalso; omega) | (right; refine ⟨by omega, ?_⟩; rw [← hf2, hdn (by omega), resF_nil]; clear hf2 hf hdc hdn; simp_all; done))⟩, by omega, St.Le.of ⟨rfl, rfl, rfl, rfl, (by show some _ = some _; first | (simp only [List.map_append, List.append_assoc]; done) | (simp only [List.map_append, List.append_assoc]; rfl)), rfl, trivial⟩ rfl (by first | (simp only [List.map_append, List.append_assoc]; done) | (simp only [List.map_append, List.append_assoc]; rfl))⟩
     | exact ⟨i + 1, [], out ++ [(runes s)[i]], kB, ⟨by first | omega | (simp; omega), by cases Nat.lt_or_ge i (runes s).length with | inl hlt => (first | (exfalso; omega) | (left; refine ⟨by omega, ?_⟩; rw [← hf2, hdc hlt, resF_cons]; clear hf2 hf hdc hdn; simp_all; done)) | inr hge => (first | (exfalso; omega) | (right; refine ⟨by omega, ?_⟩; rw [← hf2, hdn (by omega), resF_nil]; clear hf2 hf hdc hdn; simp_all; done))⟩, by omega, St.Le.of ⟨rfl, rfl, rfl, rfl, (by show some _ = some _; first | (simp only [List.map_append, List.append_assoc]; done) | (simp only [List.map_append, List.append_assoc]; rfl)), rfl, trivial⟩ rfl (by first | (simp only [List.map_append, List.append_assoc]; done) | (simp only [List.map_append, List.append_assoc]; rfl))⟩
     | exact ⟨i + 1, ss0, out, k, ⟨by first | omega | (simp; omega), by cases Nat.lt_or_ge i (runes s).length with | inl hlt => (first | (exfalso; omega) | (left; refine ⟨by omega, ?_⟩; rw [← hf2, hdc hlt, resF_cons]; clear hf2 hf hdc hdn; simp_all; done)) | inr hge => (first | (exfalso; omega) | (right; refine ⟨by omega, ?_⟩; rw [← hf2, hdn (by omega), resF_nil]; clear hf2 hf hdc hdn; simp_all; done))⟩, by omega, St.Le.of ⟨rfl, rfl, rfl, rfl, rfl, rfl, trivial⟩ rfl (rfl)⟩
     | exact ⟨i + 1, (s0 :: ss0), out, k, ⟨by first | omega | (simp; omega), by cases Nat.lt_or_ge i (runes s).length with | inl hlt => (first | (exfalso; omega) | (left; refine ⟨by omega, ?_⟩; rw [← hf2, hdc hlt, resF_cons]; clear hf2 hf hdc hdn; simp_all; done)) | inr hge => (first | (exfalso; omega) | (right; refine ⟨by omega, ?_⟩; rw [← hf2, hdn (by omega), resF_nil]; clear hf2 hf hdc hdn; simp_all; done))⟩, by omega, St.Le.of ⟨rfl, rfl, rfl, rfl, rfl, rfl, trivial⟩ rfl (rfl)⟩
     | exact ⟨i + 1, [], out, k, ⟨by first | omega | (simp; omega), by cases Nat.lt_or_ge i (runes s).length with | inl hlt => (first | (exfalso; omega) | (left; refine ⟨by omega, ?_⟩; rw [← hf2, hdc hlt, resF_cons]; clear hf2 hf hdc hdn; simp_all; done)) | inr hge => (first | (exfalso; omega) | (right; refine ⟨by omega, ?_⟩; rw [← hf2, hdn (by omega), resF_nil]; clear hf2 hf hdc hdn; simp_all; done))⟩, by omega, St.Le.of ⟨rfl, rfl, rfl, rfl, rfl, rfl, trivial⟩ rfl (rfl)⟩
 ·try simp only [nmL] at hc1
  refine SCode.exit ?_
  show SCode _ _ _ _
  refine SCode.seqR ?_
  obtain ⟨_, rfl⟩ := hf.resolve_left (by omega)
  refine SOps.freezeAcc (t := 9) [] [] rfl rfl rfl (SOps.move rfl (SOps.convRunesStr rfl sliceB_84_21_1 intB_21_i32 strB_9 (by simp [lenB] <;> (first | omega | (simp only [lenB]; omega))) (SOps.assign rfl (SOps.nil (SCode.ret ?_)))))
  exact ⟨_, Res.one (.tmp rfl), rfl, rfl⟩
end Go.GH
namespace Go.Proofs
open Go.Shelf
def Tryd.laysValid_ren : Go.Shelf.Ren := ⟨fun | 196 => 79 | 259 => 90 | n => n, fun | 9 => 9 | 4 => 4 | 3 => 3 | 5 => 5 | 12 => 12 | 119 => 122 | 0 => 0 | 46 => 126 | 139 => 125 | 138 => 124 | 53 => 130 | n => n, fun | 3 => 1 | 4 => 2 | n => n⟩
theorem Tryd.laysValid : Go.Proofs.Lays.n196 Tryd.prog Tryd.laysValid_ren := {
  mixed := by kernel_rfl
  f196 := Tryd.func79.trans (congrArg some (by kernel_rfl))
  f259 := Tryd.func90.trans (congrArg some (by kernel_rfl))
  t0 := Tryd.underlying0
  a0 := Tryd.isAgg0
  z0 := Tryd.sizeOf0
  v0 := Tryd.zeroValue0
  t3 := Tryd.underlying3
  a3 := Tryd.isAgg3
  z3 := Tryd.sizeOf3
  v3 := Tryd.zeroValue3
  t4 := Tryd.underlying4
  a4 := Tryd.isAgg4
  z4 := Tryd.sizeOf4
  v4 := Tryd.zeroValue4
  t5 := Tryd.underlying5
  a5 := Tryd.isAgg5
  z5 := Tryd.sizeOf5
  v5 := Tryd.zeroValue5
  t9 := Tryd.underlying9
  a9 := Tryd.isAgg9
  z9 := Tryd.sizeOf9
  v9 := Tryd.zeroValue9
  t12 := Tryd.underlying12
  a12 := Tryd.isAgg12
  z12 := Tryd.sizeOf12
  v12 := Tryd.zeroValue12
  t46 := Tryd.underlying126
  a46 := Tryd.isAgg126
  z46 := Tryd.sizeOf126
  v46 := Tryd.zeroValue126
  t53 := Tryd.underlying130
  a53 := Tryd.isAgg130
  z53 := Tryd.sizeOf130
  v53 := Tryd.zeroValue130
  t119 := Tryd.underlying122
  a119 := Tryd.isAgg122
  z119 := Tryd.sizeOf122
  t138 := Tryd.underlying124
  a138 := Tryd.isAgg124
  z138 := Tryd.sizeOf124
  v138 := Tryd.zeroValue124
  t139 := Tryd.underlying125
  a139 := Tryd.isAgg125
  z139 := Tryd.sizeOf125
  v139 := Tryd.zeroValue125
  g3 := by kernel_rfl
  g4 := by kernel_rfl }
def Tryd.laysByte_ren : Go.Shelf.Ren := ⟨fun | 137 => 33 | 217 => 58 | 266 => 78 | n => n, fun | 9 => 9 | 5 => 5 | 3 => 3 | n => n, fun | n => n⟩
theorem Tryd.laysByte : Go.Proofs.Lays.n137 Tryd.prog Tryd.laysByte_ren := {
  mixed := by kernel_rfl
  f137 := Tryd.func33.trans (congrArg some (by kernel_rfl))
  f217 := Tryd.func58.trans (congrArg some (by kernel_rfl))
  f266 := Tryd.func78.trans (congrArg some (by kernel_rfl))
  t3 := Tryd.underlying3
  a3 := Tryd.isAgg3
  z3 := Tryd.sizeOf3
  v3 := Tryd.zeroValue3
  t5 := Tryd.underlying5
  a5 := Tryd.isAgg5
  z5 := Tryd.sizeOf5
  v5 := Tryd.zeroValue5
  t9 := Tryd.underlying9
  a9 := Tryd.isAgg9
  z9 := Tryd.sizeOf9
  v9 := Tryd.zeroValue9 }
end Go.Proofs
namespace Go.GH
open Go Go.RowKit

inductive DTy where
  | int (k : IntKind)
  | str
  | bool
  | sl (L : List DTy)
/-- The cells of a value of type t. -/
inductive TyIs (P : Program) : TypeId → List DTy → Prop
  | int {t : TypeId} {k : IntKind} (h : P.underlying t = some (.int k)) : TyIs P t [.int k]
  | str {t : TypeId} (h : P.underlying t = some .string) : TyIs P t [.str]
  | bool {t : TypeId} (h : P.underlying t = some .bool) : TyIs P t [.bool]
  | sl {t e : TypeId} {L : List DTy} (h : P.underlying t = some (.slice e)) (he : TyIs P e L) (hc : P.cellsOf e = L.length) (hne : L ≠ []) : TyIs P t [.sl L]
  | struct {t : TypeId} {fs : Array Field} (Ls : List (List DTy)) (h : P.underlying t = some (.struct fs)) (hc : P.cellsOf t = Ls.flatten.length) (hl : Ls.length = fs.size)
      (hf : ∀ (i : Nat) f Li, fs[i]? = some f → Ls[i]? = some Li → TyIs P f.type Li) (ho : ∀ (i : Nat) f Li, fs[i]? = some f → Ls[i]? = some Li → f.offset = (Ls.take i).flatten.length ∧ P.cellsOf f.type = Li.length) : TyIs P t Ls.flatten
inductive HasD : DTy → DV → Prop
  | int {k : IntKind} {n : Int} (h : k.has n) : HasD (.int k) (.v (.int k n))
  | str {s : ByteArray} (h : s.size ≤ lenB) : HasD .str (.v (.string s))
  | bool {b : Bool} : HasD .bool (.v (.bool b))
  | sl {L : List DTy} {es : List (List DV)} (hl : ∀ (i : Nat) e, es[i]? = some e → e.length = L.length) (hd : ∀ (i : Nat) e (j : Nat) d ty, es[i]? = some e → e[j]? = some d → L[j]? = some ty → HasD ty d) : HasD (.sl L) (.isl false L.length es)

def AllF (w : World) : Nat → Prop := fun b => b < w.heap.size
def Cells (w : World) (cs : List Value) (L : List DTy) (ds : List DV) : Prop :=
  cs.length = L.length ∧ ds.length = L.length ∧ ∀ (j : Nat) v d ty, cs[j]? = some v → ds[j]? = some d → L[j]? = some ty → Rep w (AllF w) v d ∧ HasD ty d ∧ v.oneCell' = true
theorem cell?_lt {w : World} {a : Addr} {v : Value} (h : w.cell? a = some v) : a.block < w.heap.size ∧ a.spot = none := by
  unfold World.cell? at h
  split at h
  · rename_i c _ _ hb
    refine ⟨(Array.getElem?_eq_some_iff.1 hb).1, ?_⟩
    split at h
    · cases h
    · rename_i hs; simpa using hs
  · cases h
theorem lit_int_wf {k : IntKind} {n : Int} (h : (Lit.int k n).wf = true) : k.has n := by
  simp [Lit.wf, IntKind.has] at h ⊢
  exact h

def PW (w : World) (cs : List Value) (L : List DTy) : Prop :=
  cs.length = L.length ∧ ∀ (j : Nat) v ty, cs[j]? = some v → L[j]? = some ty → ∃ d, Rep w (AllF w) v d ∧ HasD ty d ∧ v.oneCell' = true
theorem PW.cells {w : World} {cs : List Value} {L : List DTy} (h : PW w cs L) : ∃ ds, Cells w cs L ds := by
  have key : ∀ j, ∃ d, ∀ v ty, cs[j]? = some v → L[j]? = some ty → Rep w (AllF w) v d ∧ HasD ty d ∧ v.oneCell' = true := fun j => by
    by_cases hj : j < L.length
    · obtain ⟨d, hd⟩ := h.2 j _ _ (List.getElem?_eq_getElem (show j < cs.length by rw [h.1]; exact hj)) (List.getElem?_eq_getElem hj)
      refine ⟨d, fun v ty hv ht => ?_⟩
      rw [List.getElem?_eq_getElem (show j < cs.length by rw [h.1]; exact hj)] at hv
      rw [List.getElem?_eq_getElem hj] at ht
      obtain rfl := Option.some.inj hv
      obtain rfl := Option.some.inj ht
      exact hd
    · exact ⟨.any, fun v ty _ ht => absurd (List.getElem?_eq_some_iff.1 ht).1 hj⟩
  refine ⟨(List.range L.length).map (fun j => (key j).choose), h.1, by simp, fun j v d ty hv hd ht => ?_⟩
  rw [List.getElem?_map] at hd
  obtain ⟨q, hq, rfl⟩ := Option.map_eq_some_iff.1 hd
  have hlt : j < L.length := (List.getElem?_eq_some_iff.1 ht).1
  rw [List.getElem?_range hlt] at hq
  obtain rfl := Option.some.inj hq
  exact (key j).choose_spec v ty hv ht
theorem PW.one {w : World} {v : Value} {ty : DTy} {d : DV} (h1 : Rep w (AllF w) v d) (h2 : HasD ty d) (h3 : v.oneCell' = true) : PW w [v] [ty] :=
  ⟨rfl, fun j u t hv ht => by
    match j, hv, ht with
    | 0, hv, ht => simp at hv ht; subst hv; subst ht; exact ⟨d, h1, h2, h3⟩
    | j + 1, hv, ht => simp at hv⟩
theorem flatten_find {α : Type} : ∀ (Ls : List (List α)) (j : Nat) (x : α), Ls.flatten[j]? = some x → ∃ (i : Nat) (Li : List α) (q : Nat), Ls[i]? = some Li ∧ Li[q]? = some x ∧ j = (Ls.take i).flatten.length + q
  | [], j, x, h => by simp at h
  | L :: Ls, j, x, h => by
    rw [List.flatten_cons, List.getElem?_append] at h
    split at h
    · exact ⟨0, L, j, rfl, h, by simp⟩
    · rename_i hlt
      obtain ⟨i, Li, q, h1, h2, h3⟩ := flatten_find Ls _ x h
      exact ⟨i + 1, Li, q, by simpa using h1, h2, by rw [List.take_succ_cons, List.flatten_cons, List.length_append]; omega⟩

/-- What a law's contract leaves. -/
theorem CPost.told {E : Env} {w : World} {F : Nat → Prop} {x : Value} {e : Ending} {w' : World} (h : CPost E w F [] (fun d H => d = .v x ∧ H = []) e w') : e = .returned x ∧ Below w.heap.size w w' := by
  obtain ⟨u, d, H', F', rfl, ⟨rfl, rfl⟩, _, _, hr, _, _, hst⟩ := h
  exact ⟨by rw [hr.inv_v.1], (hst.mono (T' := fun _ => False) (fun i _ hi => by cases hi)).below⟩
/-- A law's contract, at a world where every block stands. -/
theorem GCall.told {P : Program} {E : Env} {f : FuncId} {ds : List DV} {x : Value} (h : GCall P E f ds [] (fun d H => d = .v x ∧ H = [])) {w : World} {vs : Array Value} (hE : E.holds w (AllF w)) (hl : vs.size = ds.length)
    (hr : ∀ (j : Nat) (v : Value) (d : DV), vs[j]? = some v → ds[j]? = some d → Rep w (AllF w) v d) : Calls P f vs w (fun e w' => e = .returned x ∧ Below w.heap.size w w') :=
  (h.2 w (AllF w) vs hE (fun b hb => hb) hl hr (fun p hp => by cases hp) List.nodup_nil).mono (fun e w' hp => hp.told)
end Go.GH
